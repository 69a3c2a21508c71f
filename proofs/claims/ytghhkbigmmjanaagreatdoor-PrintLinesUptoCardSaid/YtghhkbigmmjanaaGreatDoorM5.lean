/- What is defined: what a printer of the document's programs lays, on lists of bytes, in plain Lean, with no program in sight. No condition.
What is proved: facts on this program's types, and which of its functions the abstract interpreter (VA) runs. No condition.
What is proved: what the lexer's functions of one byte answer, in the abstract interpreter (VA). No condition.
What is proved: what the program's lexer answers, in the abstract interpreter (VA), for every string. No condition.
What is proved: what the program's lexer answers, in the abstract interpreter (VA), for every string. No condition.
What is proved: what the reference's functions of one byte answer, in the abstract interpreter (VA), for every byte. No condition.
What is proved: what the reference's lexer answers, in the abstract interpreter (VA), for every string: what the program's lexer answers. No condition.
What is proved: facts on tokens of any kind in the abstract interpreter (VA). No condition.
What is proved: what May, Word, Print and the law's fixed calls answer, in the abstract interpreter (VA). Condition: no more tokens than a counter tells, no longer print than a machine holds.
What is proved: facts on the types of programs and parsers, and how their cells are read and laid, in the abstract interpreter (VA). No condition.
What is proved: plain laws of the lexer: no more tokens than bytes. No program in sight. No condition.
What is proved: plain laws of the lexer on lists of bytes: what a token by itself is; a token and what stands behind it; two texts with a byte 10 between. No program in sight. No condition.
What is proved: what the reference's functions on a token and on the next token answer, in the abstract interpreter (VA). Condition: no more tokens than a machine holds.
What is proved: what the reference's parser's small functions answer, in the abstract interpreter (VA). Condition: no more tokens than a machine holds.
What is proved: what the reference's operand answers, in the abstract interpreter (VA). Condition: no more tokens than a machine holds.
What is proved: what the reference's lists of operands and names answer, in the abstract interpreter (VA). Condition: no more tokens than a machine holds.
What is proved: what the reference's object and value answer, in the abstract interpreter (VA). Condition: no more tokens than a machine holds.
What is proved: which functions write to their caller's memory, one by one, in the abstract interpreter (VA). No condition. -/
import Derived.Test.YtghhkbigmmjanaaGreatDoorM3
import Derived.Test.YtghhkbigmmjanaaGreatDoorM4
import Derived.Lib.ItoaNum
import Derived.Test.YtghhkbigmmjanaaGreatDoorProg
import Derived.Lib.LaidTab
/-! Qa1 -/
namespace Go.Proofs.YtghhkbigmmjanaaGreatDoor.VA
open Go Go.RowKit
set_option linter.unusedSimpArgs false

abbrev Wd := List UInt8
/-! ### words -/
def wBool (b : Bool) : Wd := if b then tTrue else tFalse
def wOpd (o : Opd) : List Wd :=
 if o.kind = 0 then [tNull] else if o.kind = 1 then [wBool (!decide (o.n = 0))] else if o.kind = 2 then [Lib.itoa o.n] else if o.kind = 3 then [[38], o.name] else if o.kind = 4 then [o.name] else []
def wFirst (l : List Opd) : List Wd := match l with | [] => [] | o :: _ => wOpd o
/-- Things, parted by commas. -/
def wList (one : Nat → List Wd) : Nat → List Wd
 | 0 => []
 | n + 1 => wList one n ++ ((if 0 < n then [[44]] else []) ++ one n)
def wArg (a : List Opd) (i : Nat) : List Wd := wOpd (a.getD i ⟨0, 0, []⟩)
def wProp (props : List Wd) (a : List Opd) (i : Nat) : List Wd := [props.getD i [], [58]] ++ wArg a i
def wArgs (a : List Opd) : List Wd := [[40]] ++ (wList (wArg a) a.length ++ [[41]])
def wObj (props : List Wd) (a : List Opd) : List Wd :=
 [tNew, [123]] ++ (wList (wProp props a) (min props.length a.length) ++ ([[125], tProto] ++ wFirst (a.drop (min props.length a.length))))
/-- What is set. -/
def wVal (op : Int) (y p : Wd) (a : List Opd) (props : List Wd) : List Wd :=
 if op = 0 then wFirst a
 else if op = 1 then wFirst a ++ ([p] ++ wFirst (a.drop (min a.length 1)))
 else if op = 2 then [y, [46], p]
 else if op = 4 then wObj props a
 else if op = 5 then [tCall, p] ++ wArgs a
 else if op = 6 then [y] ++ wArgs a
 else if op = 7 then [tIn]
 else []
mutual
def wStmt : GStmt → List Wd
 | .mk op x y p a props th el =>
  if op = 9 then [tIf] ++ (wFirst a ++ (([[123]] ++ (wStmts th ++ [[125]])) ++ (match el with | [] => [] | e :: l => [tElse] ++ ([[123]] ++ (wStmts (e :: l) ++ [[125]])))))
  else if op = 10 then [tWhile] ++ (wFirst a ++ ([[123]] ++ (wStmts th ++ [[125]])))
  else if op = 8 then [tOut] ++ (wFirst a ++ [[59]])
  else if op = 11 then [tReturn] ++ (wFirst a ++ [[59]])
  else if op = 3 then [x, [46], p, [61]] ++ (wFirst a ++ [[59]])
  else [x, [61]] ++ (wVal op y p a props ++ [[59]])
def wStmts : List GStmt → List Wd
 | [] => []
 | s :: l => wStmt s ++ wStmts l
end
def wBlk (l : List GStmt) : List Wd := [[123]] ++ (wStmts l ++ [[125]])
def wPar (ps : List Wd) (i : Nat) : List Wd := [ps.getD i []]
def wFunc (f : GFunc) : List Wd := [tFun, f.name, [40]] ++ (wList (wPar f.params) f.params.length ++ ([[41]] ++ wBlk f.body))
def wElse : List GStmt → List Wd
 | [] => []
 | e :: l => [tElse] ++ wBlk (e :: l)
section
variable (x y p : Wd) (a : List Opd) (ps : List Wd) (th el : List GStmt)
theorem wStmt_if : wStmt (.mk 9 x y p a ps th el) = [tIf] ++ (wFirst a ++ (wBlk th ++ wElse el)) := by
 cases el <;> rfl
theorem wStmt_while : wStmt (.mk 10 x y p a ps th el) = [tWhile] ++ (wFirst a ++ wBlk th) := rfl
theorem wStmt_out : wStmt (.mk 8 x y p a ps th el) = [tOut] ++ (wFirst a ++ [[59]]) := rfl
theorem wStmt_ret : wStmt (.mk 11 x y p a ps th el) = [tReturn] ++ (wFirst a ++ [[59]]) := rfl
theorem wStmt_set : wStmt (.mk 3 x y p a ps th el) = [x, [46], p, [61]] ++ (wFirst a ++ [[59]]) := rfl
theorem wStmt_val {op : Int} (h9 : op ≠ 9) (h10 : op ≠ 10) (h8 : op ≠ 8) (h11 : op ≠ 11) (h3 : op ≠ 3) : wStmt (.mk op x y p a ps th el) = [x, [61]] ++ (wVal op y p a ps ++ [[59]]) := by
 cases el <;> exact (if_neg h9).trans ((if_neg h10).trans ((if_neg h8).trans ((if_neg h11).trans (if_neg h3))))
end
theorem wStmts_app : ∀ (a b : List GStmt), wStmts (a ++ b) = wStmts a ++ wStmts b
 | [], b => rfl
 | s :: a, b => by simp only [List.cons_append, wStmts, wStmts_app a b, List.append_assoc]
theorem wStmts_flat : ∀ (l : List GStmt), wStmts l = (l.map wStmt).flatten
 | [] => rfl
 | s :: l => by simp only [wStmts, List.map_cons, List.flatten_cons, wStmts_flat l]

/-! ### how deep -/
def GStmt.th : GStmt → List GStmt | .mk _ _ _ _ _ _ th _ => th
def GStmt.el : GStmt → List GStmt | .mk _ _ _ _ _ _ _ el => el
/-- How deep blocks are in one another, at most so much. -/
def dep : Nat → List GStmt → Nat
 | 0, _ => 0
 | m + 1, l => l.foldl (fun d s => max d (max (1 + dep m s.th) (1 + dep m s.el))) 0
theorem dep_le : ∀ (m : Nat) (l : List GStmt), dep m l ≤ m
 | 0, l => Nat.le_refl _
 | m + 1, l => by
  have key : ∀ (l : List GStmt) (d : Nat), d ≤ m + 1 → l.foldl (fun d s => max d (max (1 + dep m s.th) (1 + dep m s.el))) d ≤ m + 1 := by
   intro l
   induction l with
   | nil => intro d h; exact h
   | cons s l ih =>
    intro d h
    refine ih _ ?_
    show max d (max (1 + dep m s.th) (1 + dep m s.el)) ≤ m + 1
    have h1 := dep_le m s.th
    have h2 := dep_le m s.el
    omega
  exact key l 0 (by omega)

/-! ### programs -/
def speltF (f : GFunc) : Wd := joined [32] (wFunc f) ++ [10]
def spelt : List GFunc → Wd
 | [] => []
 | f :: l => speltF f ++ spelt l
theorem spelt_app : ∀ (a b : List GFunc), spelt (a ++ b) = spelt a ++ spelt b
 | [], b => rfl
 | s :: a, b => by simp only [List.cons_append, spelt, spelt_app a b, List.append_assoc]
def deepF (f : GFunc) : Bool := decide (33 < dep 34 f.body)
/-- What the code lays for a program. -/
def laidP (fs : List GFunc) : Wd := if fs.any deepF then [63] else spelt fs
def mayI (fs : List GFunc) : Bool := decide ((parseP (laidP fs)).2.1 = 0) && eqFs fs (parseP (laidP fs)).1
def wd1 (s : GStmt) : List GFunc := [⟨[102], [], [s]⟩]
end Go.Proofs.YtghhkbigmmjanaaGreatDoor.VA

/-! Cf -/
namespace Go.Proofs.YtghhkbigmmjanaaGreatDoor.VA
open Go Go.RowKit
set_option linter.unusedSimpArgs false
set_option maxRecDepth 100000

/-! ### types -/
@[go_sem] theorem und_int : Tryz.prog.underlying 3 = some (.int .i64) := by kernel_rfl
@[go_sem] theorem und_bool : Tryz.prog.underlying 4 = some .bool := by kernel_rfl
@[go_sem] theorem und_u8 : Tryz.prog.underlying 5 = some (.int .u8) := by kernel_rfl
@[go_sem] theorem und_string : Tryz.prog.underlying 9 = some .string := by kernel_rfl
@[go_sem] theorem el_tok : tElem Tryz.prog 45 = some (66, 3, 32) := by kernel_rfl
@[go_sem] theorem el_str : tElem Tryz.prog 37 = some (9, 1, 16) := by kernel_rfl
@[go_sem] theorem fl_tok0 : tField Tryz.prog 66 0 = some (0, 1, false) := by kernel_rfl
@[go_sem] theorem fl_tok1 : tField Tryz.prog 66 1 = some (1, 1, false) := by kernel_rfl
@[go_sem] theorem fl_tok2 : tField Tryz.prog 66 2 = some (2, 1, false) := by kernel_rfl
@[go_sem] theorem fl_fault0 : tField Tryz.prog 27 0 = some (0, 1, false) := by kernel_rfl
@[go_sem] theorem fl_fault1 : tField Tryz.prog 27 1 = some (1, 1, false) := by kernel_rfl
@[go_sem] theorem bl_tok : tBuild Tryz.prog 66 = some ([(0, 1), (1, 1), (2, 1)], [.lit (.int .i64 0), .lit (.string ⟨#[]⟩), .lit (.int .i64 0)]) := by kernel_rfl
@[go_sem] theorem bl_fault : tBuild Tryz.prog 27 = some ([(0, 1), (1, 1)], [.lit (.int .i64 0), .lit (.int .i64 0)]) := by kernel_rfl
@[go_sem] theorem zr_tok : tZero Tryz.prog 66 = some [.lit (.int .i64 0), .lit (.string ⟨#[]⟩), .lit (.int .i64 0)] := by kernel_rfl
@[go_sem] theorem zr_fault : tZero Tryz.prog 27 = some [.lit (.int .i64 0), .lit (.int .i64 0)] := by kernel_rfl
@[go_sem] theorem zo_tok : zeroOk Tryz.prog 66 3 = true := by kernel_rfl
@[go_sem] theorem zo_str : zeroOk Tryz.prog 9 1 = true := by kernel_rfl
@[go_sem] theorem sz_tok : tSize Tryz.prog 66 = some 3 := by kernel_rfl
@[go_sem] theorem sz_fault : tSize Tryz.prog 27 = some 2 := by kernel_rfl
@[go_sem] theorem sz_int : tSize Tryz.prog 3 = some 1 := by kernel_rfl
@[go_sem] theorem sz_str : tSize Tryz.prog 9 = some 1 := by kernel_rfl
@[go_sem] theorem ag_tok : tAgg Tryz.prog 66 = some true := by kernel_rfl
@[go_sem] theorem ag_fault : tAgg Tryz.prog 27 = some true := by kernel_rfl
@[go_sem] theorem ag_int : tAgg Tryz.prog 3 = some false := by kernel_rfl
@[go_sem] theorem ag_str : tAgg Tryz.prog 9 = some false := by kernel_rfl

/-! ### the functions -/
def idxByte : List UInt8 → Nat → Nat → Int
 | [], _, _ => -1
 | x :: l, c, i => if x.toNat = c then (i : Int) else idxByte l c (i + 1)
def tIndexByte : List AV → Option AV
 | [.lit (.string s), .lit (.int .u8 c)] => if c.toNat < 256 then some (.lit (.int .i64 (idxByte s.data.toList c.toNat 0))) else none
 | _ => none
def tAtoi : List AV → Option AV
 | [.lit (.string s)] =>
  if s.data.toList.all (fun b => isDigit b.toNat) = true ∧ 1 ≤ s.data.toList.length ∧ s.data.toList.length ≤ 18 then some (.tup [.lit (.int .i64 (numOf s.data.toList : Nat)), .lit .nilIface]) else none
 | _ => none
def tItoa : List AV → Option AV
 | [.lit (.int .i64 n)] => if -9223372036854775808 ≤ n ∧ n ≤ 9223372036854775807 then some (.lit (.string (ba (Lib.itoa n)))) else none
 | _ => none
/-- Tokens, from what represents them. -/
def toks : List (List AV) → Option (List GTok)
 | [] => some []
 | [.lit (.int .i64 k), .lit (.string t), .lit (.int .i64 a)] :: r => (toks r).map (⟨k, t.data.toList, a⟩ :: ·)
 | _ => none
theorem toks_enc : ∀ (l : List GTok), toks (l.map encG) = some l
 | [] => rfl
 | t :: l => by simp only [List.map_cons, encG, toks, toks_enc l, Option.map_some, ba_list]
def encRead (r : List GFunc × Nat × Int) : AV := .tup [.agg [.sl .sh (r.1.map encFunc)], .agg [.lit (.int .i64 (r.2.1 : Nat)), .lit (.int .i64 r.2.2)]]
def LM : Nat := 549755813888
def tRead : List AV → Option AV
 | [.sl _ es, .lit (.int .i64 en)] =>
  match toks es with
  | some l => if l.length ≤ LM then some (encRead (readP l en)) else none
  | none => none
 | _ => none
def runs : List FuncId := [
 5,
 6,
 7,
 8,
 9,
 10,
 18,
 19,
 20,
 21,
 22,
 23,
 24,
 25,
 37,
 38,
 39,
 41,
 42,
 45,
 65,
 68,
 69,
 78,
 79,
 92,
 98,
 107,
 119,
 111,
 26,
 28,
 121,
 125,
 46,
 47,
 48,
 49,
 50,
 51,
 54,
 55,
 56,
 57,
 58,
 67,
 3,
 4,
 13,
 29,
 14,
 12,
 11,
 59,
 60,
 61,
 62,
 63,
 17,
 15,
 30,
 31,
 86,
 87,
 88,
 89,
 33,
 36,
 40,
 105,
 106,
 16,
 117,
 118,
 32,
 34,
 35,
 64,
 26]
/-- The functions that write to their caller's memory. -/
def writes : List FuncId := [
 43,
 66,
 70,
 71,
 72,
 73,
 74,
 90,
 91,
 93,
 94,
 95,
 53,
 81,
 82,
 83,
 84,
 85,
 100,
 101,
 102,
 103,
 104,
 113,
 114,
 115,
 116,
 123,
 128,
 129,
 139,
 140]
/-- What the functions that are told lean on: the library's table of powers of ten. -/
def CC : Cond := ⟨fun lo w => Lib.TabIs Tryz.prog w "internal/strconv.uint64pow10" .u64 Lib.pow10Tab ∧ ∀ g, Tryz.prog.globalNamed "internal/strconv.uint64pow10" = some g → g < lo, by
 rintro lo lo' w w' ⟨h1, h2⟩ hlo hb
 refine ⟨?_, fun g hg => Nat.lt_of_lt_of_le (h2 g hg) hlo⟩
 unfold Lib.TabIs World.var? at *
 cases hg : Tryz.prog.globalNamed "internal/strconv.uint64pow10" with
 | none => rw [hg] at h1; cases h1
 | some g => rw [hg] at h1; simp only [Option.bind_some] at h1 ⊢; rw [hb g (h2 g hg)]; exact h1⟩
noncomputable def cfg : Cfg where
 fn := fun f => if (runs.contains f || writes.contains f) = true then Tryz.prog.funcs[f]? else none
 imp := fun f => writes.contains f
 told := fun f =>
  if f = 80 then some tIndexByte else
  if f = 44 then some tJoin else
  if f = 108 then some tItoa else
  if f = 122 then some tAtoi else
  none
/-- The same, with the parser's reader told. -/
noncomputable def cfg2 : Cfg := { cfg with told := fun f => if f = 27 then some tRead else cfg.told f }
def fnOk (P : Program) (f : FuncId) : Bool :=
 match P.funcs[f]? with
 | some fn => !(fn.name == "runtime.NumGoroutine") && (match fn.body with | some code => codeOk fn.ntmps code | none => true)
 | none => true
theorem runs_ok : (runs ++ writes).all (fnOk Tryz.prog) = true := by kernel_rfl

end Go.Proofs.YtghhkbigmmjanaaGreatDoor.VA

/-! La2 -/
namespace Go.Proofs.YtghhkbigmmjanaaGreatDoor.VA
open Go Go.RowKit
attribute [local go_sem] Nat.add_eq_left Nat.left_eq_add true_and and_true ite_true if_false Int.cast_ofNat_Int eq_self Nat.add_assoc Option.some.injEq decide_true decide_false Bool.not_true Bool.not_false List.size_toArray List.length_cons List.length_nil
set_option linter.unusedSimpArgs false
set_option maxRecDepth 100000

/-! ### functions of one byte -/
theorem call_any {P : Program} {c : Cfg} {k : Nat} {f : FuncId} {args : List AV} {v : AV} {H H' : Heap} (hi : c.imp f = false) (h : call P c k f args H = some (.ret v H')) (H2 : Heap) : calls P c f args H2 = some (.ret v H2) := by
 refine calls_iff.2 ⟨k, ?_⟩
 cases k with
 | zero => simp [call] at h
 | succ k =>
  simp only [call] at h ⊢
  cases ht : c.told f with
  | some g =>
   rw [ht] at h
   simp only at h ⊢
   cases hg : g (sanL args) with
   | none => rw [hg] at h; cases h
   | some u => rw [hg] at h; simp at h; simp [h.1]
  | none =>
   rw [ht] at h
   simp only at h ⊢
   cases hf : c.fn f with
   | none => rw [hf] at h; cases h
   | some fn =>
    rw [hf] at h
    simp only [hi] at h ⊢
    split at h
    ·simp at h
     simp [h.1]
    ·cases h
theorem cls_1 {n : Nat} (h : n = 9 ∨ n = 10 ∨ n = 13 ∨ n = 32) : cls n = 1 := by rcases h with rfl | rfl | rfl | rfl <;> rfl
theorem cls_2 {n : Nat} (h : n = 35) : cls n = 2 := by subst h; rfl
theorem cls_3 {n : Nat} (h : (97 ≤ n ∧ n ≤ 122) ∨ (65 ≤ n ∧ n ≤ 90)) : cls n = 3 := by
 have h1 : isBlank n = false := by simp [isBlank]; omega
 have h2 : (n == 35) = false := by simp; omega
 have h3 : isLetter n = true := by simp [isLetter]; omega
 simp [cls, h1, h2, h3]
theorem cls_4 {n : Nat} (h : 48 ≤ n ∧ n ≤ 57) : cls n = 4 := by
 have h1 : isBlank n = false := by simp [isBlank]; omega
 have h2 : (n == 35) = false := by simp; omega
 have h3 : isLetter n = false := by simp [isLetter]; omega
 have h4 : isDigit n = true := by simp [isDigit]; omega
 simp [cls, h1, h2, h3, h4]
theorem cls_5 {n : Nat} (h : ¬ (n = 9 ∨ n = 10 ∨ n = 13 ∨ n = 32)) (h2 : n ≠ 35) (h3 : ¬ ((97 ≤ n ∧ n ≤ 122) ∨ (65 ≤ n ∧ n ≤ 90))) (h4 : ¬ (48 ≤ n ∧ n ≤ 57)) : cls n = if isSign n then 5 else 0 := by
 have h1 : isBlank n = false := by simp [isBlank]; omega
 have h2 : (n == 35) = false := by simp; omega
 have h3 : isLetter n = false := by simp [isLetter]; omega
 have h4 : isDigit n = false := by simp [isDigit]; omega
 simp [cls, h1, h2, h3, h4]
theorem idx_sign {n : Nat} : (0 ≤ idxByte [123, 125, 40, 41, 44, 59, 46, 61, 43, 45, 42, 60, 38, 58] n 0) ↔ isSign n = true := by
 have key : ∀ (l : List UInt8) (i : Nat), (0 ≤ idxByte l n i) ↔ (l.map (·.toNat)).contains n = true := by
  intro l
  induction l with
  | nil => intro i; simp [idxByte]
  | cons x l ih =>
   intro i
   simp only [idxByte, List.map_cons, List.contains_cons]
   by_cases hx : x.toNat = n
   ·rw [if_pos hx]
    have : (n == x.toNat) = true := by simp [hx]
    simp [this]
   ·rw [if_neg hx]
    have : (n == x.toNat) = false := by simp; omega
    rw [this, Bool.false_or]
    exact ih _
 exact key _ 0
theorem c_index (l : List UInt8) (n : Nat) (hn : n < 256) (H : Heap) : calls Tryz.prog cfg 80 [.lit (.string (ba l)), .lit (.int .u8 (n : Nat))] H = some (.ret (.lit (.int .i64 (idxByte l n 0))) H) :=
 calls_told (h := tIndexByte) rfl (by simp [sanL, san, tIndexByte, hn]) H
set_option maxRecDepth 10000 in
theorem c_of (b : UInt8) (H : Heap) : calls Tryz.prog cfg 46 [.lit (.int .u8 (b.toNat : Nat))] H = some (.ret (.lit (.int .i64 (cls b.toNat : Nat))) H) := by
 refine calls_pure (fn := Tryz.f46) rfl rfl rfl rfl rfl ?_ H
 have hn : b.toNat < 256 := b.toNat_lt
 generalize b.toNat = n at hn
 by_cases h1 : ((n : Nat) : Int) = 9
 ·simp only [go_sem, simprocAttr, h1]; rw [cls_1 (by omega)]; rfl
 by_cases h2 : ((n : Nat) : Int) = 10
 ·simp only [go_sem, simprocAttr, h2]; rw [cls_1 (by omega)]; rfl
 by_cases h3 : ((n : Nat) : Int) = 13
 ·simp only [go_sem, simprocAttr, h3]; rw [cls_1 (by omega)]; rfl
 by_cases h4 : ((n : Nat) : Int) = 32
 ·simp only [go_sem, simprocAttr, h4]; rw [cls_1 (by omega)]; rfl
 by_cases h5 : ((n : Nat) : Int) = 35
 ·simp only [go_sem, simprocAttr, h5]; rw [cls_2 (by omega)]; rfl
 have fin3 : ((97 ≤ n ∧ n ≤ 122) ∨ (65 ≤ n ∧ n ≤ 90)) → (some (AV.lit (.int .i64 3)) : Option AV) = some (.lit (.int .i64 (cls n : Nat))) := fun h => by rw [cls_3 h]; rfl
 have fin4 : (48 ≤ n ∧ n ≤ 57) → (some (AV.lit (.int .i64 4)) : Option AV) = some (.lit (.int .i64 (cls n : Nat))) := fun h => by rw [cls_4 h]; rfl
 have fin5 : ¬ ((97 ≤ n ∧ n ≤ 122) ∨ (65 ≤ n ∧ n ≤ 90)) → ¬ (48 ≤ n ∧ n ≤ 57) → isSign n = true → (some (AV.lit (.int .i64 5)) : Option AV) = some (.lit (.int .i64 (cls n : Nat))) := fun h h' hs => by
  rw [cls_5 (by omega) (by omega) h h', if_pos hs]; rfl
 have fin0 : ¬ ((97 ≤ n ∧ n ≤ 122) ∨ (65 ≤ n ∧ n ≤ 90)) → ¬ (48 ≤ n ∧ n ≤ 57) → ¬ isSign n = true → (some (AV.lit (.int .i64 0)) : Option AV) = some (.lit (.int .i64 (cls n : Nat))) := fun h h' hs => by
  rw [cls_5 (by omega) (by omega) h h', if_neg hs]; rfl
 by_cases h6 : (97 : Int) ≤ (n : Nat)
 ·by_cases h7 : ((n : Nat) : Int) ≤ 122
  ·simp only [go_sem, simprocAttr, h1, h2, h3, h4, h5, h6, h7]; exact fin3 (by omega)
  ·have h8 : (65 : Int) ≤ (n : Nat) := by omega
   have h9 : ¬ ((n : Nat) : Int) ≤ 90 := by omega
   have h10 : (48 : Int) ≤ (n : Nat) := by omega
   have h11 : ¬ ((n : Nat) : Int) ≤ 57 := by omega
   by_cases hs : 0 ≤ idxByte [123, 125, 40, 41, 44, 59, 46, 61, 43, 45, 42, 60, 38, 58] n 0
   ·simp only [go_sem, simprocAttr, h1, h2, h3, h4, h5, h6, h7, h8, h9, h10, h11, c_index _ _ hn, hs]; exact fin5 (by omega) (by omega) (idx_sign.1 hs)
   ·simp only [go_sem, simprocAttr, h1, h2, h3, h4, h5, h6, h7, h8, h9, h10, h11, c_index _ _ hn, hs]; exact fin0 (by omega) (by omega) (fun h => hs (idx_sign.2 h))
 ·by_cases h8 : (65 : Int) ≤ (n : Nat)
  ·by_cases h9 : ((n : Nat) : Int) ≤ 90
   ·simp only [go_sem, simprocAttr, h1, h2, h3, h4, h5, h6, h8, h9]; exact fin3 (by omega)
   ·have h10 : (48 : Int) ≤ (n : Nat) := by omega
    have h11 : ¬ ((n : Nat) : Int) ≤ 57 := by omega
    by_cases hs : 0 ≤ idxByte [123, 125, 40, 41, 44, 59, 46, 61, 43, 45, 42, 60, 38, 58] n 0
    ·simp only [go_sem, simprocAttr, h1, h2, h3, h4, h5, h6, h8, h9, h10, h11, c_index _ _ hn, hs]; exact fin5 (by omega) (by omega) (idx_sign.1 hs)
    ·simp only [go_sem, simprocAttr, h1, h2, h3, h4, h5, h6, h8, h9, h10, h11, c_index _ _ hn, hs]; exact fin0 (by omega) (by omega) (fun h => hs (idx_sign.2 h))
  ·by_cases h10 : (48 : Int) ≤ (n : Nat)
   ·by_cases h11 : ((n : Nat) : Int) ≤ 57
    ·simp only [go_sem, simprocAttr, h1, h2, h3, h4, h5, h6, h8, h10, h11]; exact fin4 (by omega)
    ·by_cases hs : 0 ≤ idxByte [123, 125, 40, 41, 44, 59, 46, 61, 43, 45, 42, 60, 38, 58] n 0
     ·simp only [go_sem, simprocAttr, h1, h2, h3, h4, h5, h6, h8, h10, h11, c_index _ _ hn, hs]; exact fin5 (by omega) (by omega) (idx_sign.1 hs)
     ·simp only [go_sem, simprocAttr, h1, h2, h3, h4, h5, h6, h8, h10, h11, c_index _ _ hn, hs]; exact fin0 (by omega) (by omega) (fun h => hs (idx_sign.2 h))
   ·by_cases hs : 0 ≤ idxByte [123, 125, 40, 41, 44, 59, 46, 61, 43, 45, 42, 60, 38, 58] n 0
    ·simp only [go_sem, simprocAttr, h1, h2, h3, h4, h5, h6, h8, h10, c_index _ _ hn, hs]; exact fin5 (by omega) (by omega) (idx_sign.1 hs)
    ·simp only [go_sem, simprocAttr, h1, h2, h3, h4, h5, h6, h8, h10, c_index _ _ hn, hs]; exact fin0 (by omega) (by omega) (fun h => hs (idx_sign.2 h))
/-! ### what the classes tell -/
theorem cls3_iff (n : Nat) : cls n = 3 ↔ isLetter n = true := by
 constructor
 ·intro h
  unfold cls at h
  repeat' split at h
  all_goals first | omega | assumption
 ·intro h; exact cls_3 (by simp [isLetter] at h; omega)
theorem cls4_iff (n : Nat) : cls n = 4 ↔ isDigit n = true := by
 constructor
 ·intro h
  unfold cls at h
  repeat' split at h
  all_goals first | omega | assumption
 ·intro h; exact cls_4 (by simp [isDigit] at h; omega)
theorem c_inner (b : UInt8) (H : Heap) : calls Tryz.prog cfg 49 [.lit (.int .u8 (b.toNat : Nat))] H = some (.ret (.lit (.bool (inWord b.toNat))) H) := by
 refine calls_pure (fn := Tryz.f49) rfl rfl rfl rfl rfl ?_ H
 by_cases h1 : ((cls b.toNat : Nat) : Int) = 3
 ·have hw : inWord b.toNat = true := by have := (cls3_iff b.toNat).1 (by omega); simp [inWord, this]
  simp only [go_sem, simprocAttr, c_of, h1, hw] <;> rfl
 ·have hl : isLetter b.toNat = false := by have := cls3_iff b.toNat; cases h : isLetter b.toNat with
   | false => rfl
   | true => exact absurd (this.2 h) (by omega)
  by_cases h2 : ((cls b.toNat : Nat) : Int) = 4
  ·have hw : inWord b.toNat = true := by have := (cls4_iff b.toNat).1 (by omega); simp [inWord, this]
   simp only [go_sem, simprocAttr, c_of, h2, hw] <;> rfl
  ·have hd : isDigit b.toNat = false := by have := cls4_iff b.toNat; cases h : isDigit b.toNat with
    | false => rfl
    | true => exact absurd (this.2 h) (by omega)
   by_cases h3 : ((b.toNat : Nat) : Int) = 95
   ·have h95 : b.toNat = 95 := by omega
    have hw : inWord b.toNat = true := by simp [inWord, h95]
    have d3 : decide (((b.toNat : Nat) : Int) = 95) = true := by simp [h3]
    simp only [go_sem, simprocAttr, c_of, h1, h2, d3, hw] <;> rfl
   ·have h95 : (b.toNat == 95) = false := by simp; omega
    have hw : inWord b.toNat = false := by simp [inWord, hl, hd, h95]
    simp only [go_sem, simprocAttr, c_of, h1, h2, h3, hw] <;> rfl
theorem c_lex1 (b : UInt8) (H : Heap) : calls Tryz.prog cfg 48 [.lit (.int .u8 (b.toNat : Nat))] H = some (.ret (.lit (.bool (notNl b.toNat))) H) := by
 refine calls_pure (fn := Tryz.f48) rfl rfl rfl rfl rfl ?_ H
 have h : notNl b.toNat = !decide (((b.toNat : Nat) : Int) = 10) := by
  by_cases h : b.toNat = 10
  ·simp [notNl, h]
  ·have : ¬ ((b.toNat : Nat) : Int) = 10 := by omega
   simp [notNl, h, this]
 simp only [go_sem, simprocAttr, h] <;> rfl
theorem c_lex2 (b : UInt8) (H : Heap) : calls Tryz.prog cfg 50 [.lit (.int .u8 (b.toNat : Nat))] H = some (.ret (.lit (.bool (isDigit b.toNat))) H) := by
 refine calls_pure (fn := Tryz.f50) rfl rfl rfl rfl rfl ?_ H
 have h : isDigit b.toNat = decide (((cls b.toNat : Nat) : Int) = 4) := by
  have h0 := cls4_iff b.toNat
  cases h : isDigit b.toNat with
  | true => have := h0.2 h; simp [this]
  | false =>
   have : ¬ ((cls b.toNat : Nat) : Int) = 4 := fun h1 => by rw [h0.1 (by omega)] at h; cases h
   simp [this]
 simp only [go_sem, simprocAttr, c_of, h] <;> rfl
end Go.Proofs.YtghhkbigmmjanaaGreatDoor.VA

/-! La3 -/
namespace Go.Proofs.YtghhkbigmmjanaaGreatDoor.VA
open Go Go.RowKit
attribute [local go_sem] Nat.add_eq_left Nat.left_eq_add true_and and_true ite_true if_false Int.cast_ofNat_Int eq_self Nat.add_assoc Option.some.injEq decide_true decide_false Bool.not_true Bool.not_false List.size_toArray List.length_cons List.length_nil
set_option linter.unusedSimpArgs false
set_option maxRecDepth 100000

theorem c_end (l : List UInt8) (hs : l.length ≤ 9223372036854775806) (f : FuncId) (p : Nat → Bool)
  (hf : ∀ (b : UInt8) H, calls Tryz.prog cfg f [.lit (.int .u8 (b.toNat : Nat))] H = some (.ret (.lit (.bool (p b.toNat))) H)) (at_ : Nat) (ha : at_ ≤ l.length) (H : Heap) :
  calls Tryz.prog cfg 47 [.lit (.string (ba l)), .lit (.int .i64 (at_ : Nat)), .fn f []] H = some (.ret (.lit (.int .i64 (at_ + span p (l.drop at_) : Nat))) H) := by
 refine calls_pure (fn := Tryz.f47) rfl rfl rfl rfl rfl ?_ H
 generalize hr : at_ + span p (l.drop at_) = r
 have rs : Tryz.f47.results.toList = [.tmp 6] := rfl
 simp only [go_sem, simprocAttr, rs]
 refine W_loop_ind (fun n e H => ∃ a : Nat, n = l.length - a ∧ a ≤ l.length ∧ a + span p (l.drop a) = r ∧ gget .bad e 0 = .lit (.string (ba l)) ∧ gget .bad e 1 = .lit (.int .i64 (a : Nat)) ∧ gget .bad e 2 = .fn f [])
  (l.length - at_) ⟨at_, rfl, ha, hr, by simp only [go_sem, simprocAttr], by simp only [go_sem, simprocAttr], by simp only [go_sem, simprocAttr]⟩ ?_
 rintro n ih e H ⟨a, rfl, hle, hr, h0, h1, h2⟩
 by_cases hlt : a < l.length
 ·have hlt' : (a : Int) < (l.length : Nat) := by omega
  rw [drop_cons hlt, span_cons] at hr
  cases hp : p (l.getD a 0).toNat with
  | true =>
   rw [if_pos hp] at hr
   simp only [go_sem, simprocAttr, h0, h1, h2, ba_size, hlt', ixs_ba hlt, hf, hp, wrap1 (show a + 1 ≤ 9223372036854775807 by omega)]
   exact ih (l.length - (a + 1)) (by omega) _ _ ⟨a + 1, rfl, by omega, by omega, by simp only [go_sem, simprocAttr, h0], by simp only [go_sem, simprocAttr], by simp only [go_sem, simprocAttr, h2]⟩
  | false =>
   rw [hp] at hr
   simp only [go_sem, simprocAttr, h0, h1, h2, ba_size, hlt', ixs_ba hlt, hf, hp]
   have : a = r := by simpa using hr
   subst this
   simp only [go_sem, simprocAttr]
 ·have hlt' : ¬ (a : Int) < (l.length : Nat) := by omega
  have : a = r := by
   rw [List.drop_of_length_le (by omega), span_nil] at hr; omega
  subst this
  simp only [go_sem, simprocAttr, h0, h1, h2, ba_size, hlt']
theorem c_number (l : List UInt8) (hs : l.length ≤ 9223372036854775806) (at_ k : Nat) (ha : at_ + k ≤ l.length) (H : Heap) :
  calls Tryz.prog cfg 51 [.lit (.string (ba l)), .lit (.int .i64 (at_ : Nat)), .lit (.int .i64 (at_ + k : Nat))] H =
   some (.ret (.lit (.bool (decide (k ≤ 9) && endsNum (l.drop (at_ + k))))) H) := by
 refine calls_pure (fn := Tryz.f51) rfl rfl rfl rfl rfl ?_ H
 have hw : IntKind.wrap .i64 (((at_ + k : Nat) : Int) - (at_ : Nat)) = (k : Nat) := by rw [wrap64 (by omega) (by omega)]; omega
 by_cases h1 : k ≤ 9
 ·have d1 : decide (((k : Nat) : Int) ≤ 9) = true := by simp; omega
  by_cases h2 : at_ + k = l.length
  ·have d2 : decide (((at_ + k : Nat) : Int) = (l.length : Nat)) = true := by simp; omega
   rw [List.drop_of_length_le (by omega)]
   simp only [go_sem, simprocAttr, hw, d1, ba_size, d2, endsNum, h1, Bool.and_true]
   rfl
  ·have d2 : decide (((at_ + k : Nat) : Int) = (l.length : Nat)) = false := by simp; omega
   have hlt : at_ + k < l.length := by omega
   rw [drop_cons hlt]
   simp only [go_sem, simprocAttr, hw, d1, ba_size, d2, ixs_ba hlt, c_inner, endsNum, h1, Bool.true_and]
   rfl
 ·have d1 : decide (((k : Nat) : Int) ≤ 9) = false := by simp; omega
  simp only [go_sem, simprocAttr, hw, d1, h1, Bool.false_and]
  rfl
end Go.Proofs.YtghhkbigmmjanaaGreatDoor.VA

/-! La4 -/
namespace Go.Proofs.YtghhkbigmmjanaaGreatDoor.VA
open Go Go.RowKit
attribute [local go_sem] Nat.add_eq_left Nat.left_eq_add true_and and_true ite_true if_false Int.cast_ofNat_Int eq_self Nat.add_assoc Option.some.injEq decide_true decide_false Bool.not_true Bool.not_false List.size_toArray List.length_cons List.length_nil
set_option linter.unusedSimpArgs false
set_option maxRecDepth 100000

/-- A lexer's answer, as the program hands it back. -/
def encLexR : LexR → AV
 | .ok ts => encLex (ts, 0, 0)
 | .err a => encLex ([], 10, a)
theorem bs1_tok (k a : Int) (t : ByteArray) : aBuildSlice Tryz.prog 45 1 [(0, .agg [.lit (.int .i64 k), .lit (.string t), .lit (.int .i64 a)])] = some (.sl .ex [[.lit (.int .i64 k), .lit (.string t), .lit (.int .i64 a)]]) :=
 build1 el_tok (by decide) zr_tok rfl rfl (.agg [.lit (.int .i64 k), .lit (.string t), .lit (.int .i64 a)]) rfl rfl
set_option maxRecDepth 20000 in
theorem c_lex (l : List UInt8) (H : Heap) : calls Tryz.prog cfg 26 [.lit (.string (ba l))] H = some (.ret (encLex (lexAns l)) H) := by
 refine calls_pure (fn := Tryz.f26) rfl rfl rfl rfl rfl ?_ H
 have rs : Tryz.f26.results.toList = [.tmp 2, .cell 3 27] := rfl
 by_cases hbig : 65536 < l.length
 ·have d : decide ((65536 : Int) < (l.length : Nat)) = true := by simp; omega
  simp only [go_sem, simprocAttr, rs, ba_size, d]
  simp only [lexAns, if_pos hbig, encLex, encFault]
  rfl
 ·have d : decide ((65536 : Int) < (l.length : Nat)) = false := by simp; omega
  have hans : encLex (lexAns l) = encLexR (lexL l 0) := by
   simp only [lexAns, if_neg hbig]
   cases lexL l 0 <;> rfl
  rw [hans]
  generalize hR : lexL l 0 = R
  simp only [go_sem, simprocAttr, rs, ba_size, d]
  refine W_loop_ind (fun n e H => ∃ (a : Nat) (acc : List Tok) (o : Own), n = l.length - a ∧ a ≤ l.length ∧ acc.length ≤ a ∧ LexR.pre acc (lexL (l.drop a) a) = R ∧ gget .bad e 0 = .lit (.string (ba l)) ∧ gget .bad e 3 = .ptr 1 0 ∧
    gget .bad e 4 = .sl o (acc.map encTok) ∧ gget .bad e 5 = .lit (.int .i64 (a : Nat)) ∧ H.get 1 = some [.lit (.int .i64 0), .lit (.int .i64 0)] ∧ 2 ≤ H.next ∧ OwnOk H o 66 3)
   l.length ⟨0, [], .nil, rfl, by omega, by simp, by simpa [LexR.pre_nil] using hR, by simp only [go_sem, simprocAttr], by simp only [go_sem, simprocAttr], by simp only [go_sem, simprocAttr], by simp only [go_sem, simprocAttr] <;> rfl, by simp only [go_sem, simprocAttr], by simp only [go_sem, simprocAttr], by simp only [go_sem, simprocAttr]⟩ ?_
  rintro n ih e H ⟨a, acc, o, rfl, hle, hacc, hR, h0, h3, h4, h5, hg, hnx, ho⟩
  obtain ⟨m, hm⟩ : ∃ m, H.next = m + 2 := ⟨H.next - 2, by omega⟩
  by_cases hlt : a < l.length
  ·have hlt' : decide ((a : Int) < (l.length : Nat)) = true := by simp; omega
   have dc := drop_cons hlt
   generalize hb : l.getD a 0 = b at dc
   have hix := ixs_ba hlt
   rw [hb] at hix
   have hw1 := wrap1 (show a + 1 ≤ 9223372036854775807 by omega)
   have hsl : ∀ k, a + k ≤ l.length → aSlice Tryz.prog 9 (.lit (.string (ba l))) (some (.lit (.int .i64 (a : Nat)))) (some (.lit (.int .i64 (a + k : Nat)))) = some (.lit (.string (ba ((l.drop a).take k)))) := by
    intro k hk
    rw [slice_str und_string (h := a + k) (l := a) (by simp only [optNat, aNat_cast]) (by simp only [optNat, aNat_cast]) (by omega) (by simpa using hk), ba_extract]
    congr 5; omega
   have hap : ∀ (v0 v1 v2 : AV) (H' : Heap) (id : Nat), OwnOk H' o 66 3 → aAppend Tryz.prog 45 (.sl o (acc.map encTok)) (.sl .ex [[v0, v1, v2]]) H' id =
     some (.sl (.own id 66 3) (acc.map encTok ++ sanLL [[v0, v1, v2]]), ownUs o id, ownRs o) := fun v0 v1 v2 H' id hh =>
    append_eq el_tok zo_tok (by omega) (by simp; omega) (by simp; omega) rfl H' id hh
   have hend : ∀ (f : FuncId) (p : Nat → Bool) (hf : ∀ (b : UInt8) H, calls Tryz.prog cfg f [.lit (.int .u8 (b.toNat : Nat))] H = some (.ret (.lit (.bool (p b.toNat))) H)) (H : Heap),
     calls Tryz.prog cfg 47 [.lit (.string (ba l)), .lit (.int .i64 (a : Nat)), .fn f []] H = some (.ret (.lit (.int .i64 (a + span p (l.drop a) : Nat))) H) := fun f p hf H => c_end l (by omega) f p hf a hle H
   have hspan : ∀ p, a + span p (l.drop a) ≤ l.length := fun p => by have := span_le p (l.drop a); simp at this; omega
   have c0 := cls_lt b.toNat
   by_cases c1 : cls b.toNat = 1
   ·have hl := lexL_blank (l := l.drop (a + 1)) (at_ := a) c1
    rw [← dc] at hl
    rw [hl] at hR
    simp only [go_sem, simprocAttr, h0, h3, h4, h5, hg, hm, ba_size, hlt', hix, c_of, c1, hw1]
    exact ih (l.length - (a + 1)) (by omega) _ _ ⟨a + 1, acc, o, rfl, by omega, by omega, hR, by simp only [go_sem, simprocAttr, h0], by simp only [go_sem, simprocAttr, h3], by simp only [go_sem, simprocAttr, h4], by simp only [go_sem, simprocAttr], by simp only [go_sem, simprocAttr, hg], by simp only [go_sem, simprocAttr, hm], by simp only [go_sem, simprocAttr, ho]⟩
   by_cases c2 : cls b.toNat = 2
   ·have hl := lexL_remark (l := l.drop (a + 1)) (at_ := a) c2
    rw [← dc] at hl
    rw [hl, List.drop_drop] at hR
    have hp : 0 < span notNl (l.drop a) := by rw [dc, span_pos (cls2 c2)]; omega
    have := hspan notNl
    simp only [go_sem, simprocAttr, h0, h3, h4, h5, hg, hm, ba_size, hlt', hix, c_of, c2, hw1, hend _ _ c_lex1]
    exact ih (l.length - (a + span notNl (l.drop a))) (by omega) _ _ ⟨a + span notNl (l.drop a), acc, o, rfl, by omega, by omega, hR, by simp only [go_sem, simprocAttr, h0], by simp only [go_sem, simprocAttr, h3], by simp only [go_sem, simprocAttr, h4], by simp only [go_sem, simprocAttr], by simp only [go_sem, simprocAttr, hg], by simp only [go_sem, simprocAttr, hm], by simp only [go_sem, simprocAttr, ho]⟩
   by_cases c3 : cls b.toNat = 3
   ·have hl := lexL_word (l := l.drop (a + 1)) (at_ := a) c3
    rw [← dc] at hl
    rw [hl, List.drop_drop, LexR.pre_pre] at hR
    have hp : 0 < span inWord (l.drop a) := by rw [dc, span_pos (cls3 c3)]; omega
    have := hspan inWord
    simp only [go_sem, simprocAttr, h0, h3, h4, h5, hg, hm, ba_size, hlt', hix, c_of, c3, hw1, hend _ _ c_inner, hsl _ (hspan inWord), bs1_tok, hap, ho]
    exact ih (l.length - (a + span inWord (l.drop a))) (by omega) _ _ ⟨a + span inWord (l.drop a), acc ++ [⟨0, (l.drop a).take (span inWord (l.drop a)), a⟩], _, rfl, by omega, by simp; omega, hR, by simp only [go_sem, simprocAttr, h0], by simp only [go_sem, simprocAttr, h3],
     by simp only [go_sem, simprocAttr, List.map_append, encTok] <;> rfl, by simp only [go_sem, simprocAttr], by simp only [go_sem, simprocAttr, hg], by simp only [go_sem, simprocAttr, hm], by simp only [go_sem, simprocAttr]⟩
   by_cases c4 : cls b.toNat = 4
   ·have hp : 0 < span isDigit (l.drop a) := by rw [dc, span_pos (cls4 c4)]; omega
    have := hspan isDigit
    have hnum := c_number l (by omega) a (span isDigit (l.drop a)) (hspan isDigit)
    by_cases hn : span isDigit (l.drop a) ≤ 9 ∧ endsNum ((l.drop a).drop (span isDigit (l.drop a))) = true
    ·have hl := lexL_num (l := l.drop (a + 1)) (at_ := a) c4 (by rw [← dc]; exact hn.1) (by rw [← dc]; exact hn.2)
     rw [← dc] at hl
     rw [hl, List.drop_drop, LexR.pre_pre] at hR
     have hb2 : (decide (span isDigit (l.drop a) ≤ 9) && endsNum (l.drop (a + span isDigit (l.drop a)))) = true := by
      rw [List.drop_drop] at hn; simp [hn.1, hn.2]
     simp only [go_sem, simprocAttr, h0, h3, h4, h5, hg, hm, ba_size, hlt', hix, c_of, c4, hw1, hend _ _ c_lex2, hnum, hb2, hsl _ (hspan isDigit), bs1_tok, hap, ho]
     exact ih (l.length - (a + span isDigit (l.drop a))) (by omega) _ _ ⟨a + span isDigit (l.drop a), acc ++ [⟨1, (l.drop a).take (span isDigit (l.drop a)), a⟩], _, rfl, by omega, by simp; omega, hR, by simp only [go_sem, simprocAttr, h0], by simp only [go_sem, simprocAttr, h3],
      by simp only [go_sem, simprocAttr, List.map_append, encTok] <;> rfl, by simp only [go_sem, simprocAttr], by simp only [go_sem, simprocAttr, hg], by simp only [go_sem, simprocAttr, hm], by simp only [go_sem, simprocAttr]⟩
    ·have hl := lexL_notnum (l := l.drop (a + 1)) (at_ := a) c4 (by rw [← dc]; exact hn)
     rw [← dc] at hl
     rw [hl] at hR
     have hb2 : (decide (span isDigit (l.drop a) ≤ 9) && endsNum (l.drop (a + span isDigit (l.drop a)))) = false := by
      rw [List.drop_drop] at hn
      rw [Bool.eq_false_iff]; intro hh; simp at hh; exact hn hh
     simp only [go_sem, simprocAttr, h0, h3, h4, h5, hg, hm, ba_size, hlt', hix, c_of, c4, hw1, hend _ _ c_lex2, hnum, hb2]
     rw [← hR]; rfl
   by_cases c5 : cls b.toNat = 5
   ·have hl := lexL_sign (l := l.drop (a + 1)) (at_ := a) c5
    rw [← dc] at hl
    rw [hl, LexR.pre_pre] at hR
    have ht : (l.drop a).take 1 = [b] := by rw [dc]; rfl
    have hsl1 := hsl 1 (by omega)
    rw [ht] at hsl1
    simp only [go_sem, simprocAttr, h0, h3, h4, h5, hg, hm, ba_size, hlt', hix, c_of, c5, hw1, hsl1, bs1_tok, hap, ho]
    exact ih (l.length - (a + 1)) (by omega) _ _ ⟨a + 1, acc ++ [⟨2, [b], a⟩], _, rfl, by omega, by simp; omega, hR, by simp only [go_sem, simprocAttr, h0], by simp only [go_sem, simprocAttr, h3],
     by simp only [go_sem, simprocAttr, List.map_append, encTok] <;> rfl, by simp only [go_sem, simprocAttr], by simp only [go_sem, simprocAttr, hg], by simp only [go_sem, simprocAttr, hm], by simp only [go_sem, simprocAttr]⟩
   ·have c6 : cls b.toNat = 0 := by omega
    have hl := lexL_other (l := l.drop (a + 1)) (at_ := a) c6
    rw [← dc] at hl
    rw [hl] at hR
    simp only [go_sem, simprocAttr, h0, h3, h4, h5, hg, hm, ba_size, hlt', hix, c_of, c6, hw1]
    rw [← hR]; rfl
  ·have hlt' : decide ((a : Int) < (l.length : Nat)) = false := by simp; omega
   rw [List.drop_of_length_le (by omega), lexL_nil] at hR
   simp only [go_sem, simprocAttr, h0, h3, h4, h5, hg, hm, ba_size, hlt']
   rw [← hR]
   simp [LexR.pre, encLexR, encLex, encFault]
end Go.Proofs.YtghhkbigmmjanaaGreatDoor.VA

/-! La5 -/
namespace Go.Proofs.YtghhkbigmmjanaaGreatDoor.VA
open Go Go.RowKit
attribute [local go_sem] Nat.add_eq_left Nat.left_eq_add true_and and_true ite_true if_false Int.cast_ofNat_Int eq_self Nat.add_assoc Option.some.injEq decide_true decide_false Bool.not_true Bool.not_false List.size_toArray List.length_cons List.length_nil
set_option linter.unusedSimpArgs false
set_option maxRecDepth 100000

theorem c_rBlank (b : UInt8) (H : Heap) : calls Tryz.prog cfg 54 [.lit (.int .u8 (b.toNat : Nat))] H = some (.ret (.lit (.bool (isBlank b.toNat))) H) := by
 refine calls_pure (fn := Tryz.f54) rfl rfl rfl rfl rfl ?_ H
 generalize b.toNat = n
 by_cases h1 : ((n : Nat) : Int) = 9
 ·have : isBlank n = true := by simp [isBlank]; omega
  simp only [go_sem, simprocAttr, h1, this] <;> rfl
 by_cases h2 : ((n : Nat) : Int) = 10
 ·have : isBlank n = true := by simp [isBlank]; omega
  simp only [go_sem, simprocAttr, h2, this] <;> rfl
 by_cases h3 : ((n : Nat) : Int) = 13
 ·have : isBlank n = true := by simp [isBlank]; omega
  simp only [go_sem, simprocAttr, h3, this] <;> rfl
 have h4 : isBlank n = decide (((n : Nat) : Int) = 32) := by
  by_cases h4 : ((n : Nat) : Int) = 32
  ·have : isBlank n = true := by simp [isBlank]; omega
   rw [this, decide_eq_true h4]
  ·have : isBlank n = false := by simp [isBlank]; omega
   rw [this, decide_eq_false h4]
 simp only [go_sem, simprocAttr, h1, h2, h3, h4] <;> rfl
theorem c_rDigit (b : UInt8) (H : Heap) : calls Tryz.prog cfg 57 [.lit (.int .u8 (b.toNat : Nat))] H = some (.ret (.lit (.bool (isDigit b.toNat))) H) := by
 refine calls_pure (fn := Tryz.f57) rfl rfl rfl rfl rfl ?_ H
 generalize b.toNat = n
 by_cases h1 : (48 : Int) ≤ (n : Nat)
 ·by_cases h2 : ((n : Nat) : Int) ≤ 57
  ·have : isDigit n = true := by simp [isDigit]; omega
   simp only [go_sem, simprocAttr, h1, h2, this] <;> rfl
  ·have : isDigit n = false := by simp [isDigit]; omega
   simp only [go_sem, simprocAttr, h1, h2, this] <;> rfl
 ·have : isDigit n = false := by simp [isDigit]; omega
  simp only [go_sem, simprocAttr, h1, this] <;> rfl
theorem c_rLetter (b : UInt8) (H : Heap) : calls Tryz.prog cfg 55 [.lit (.int .u8 (b.toNat : Nat))] H = some (.ret (.lit (.bool (isLetter b.toNat))) H) := by
 refine calls_pure (fn := Tryz.f55) rfl rfl rfl rfl rfl ?_ H
 generalize b.toNat = n
 by_cases h1 : (97 : Int) ≤ (n : Nat)
 ·have h3 : (65 : Int) ≤ (n : Nat) := by omega
  by_cases h2 : ((n : Nat) : Int) ≤ 122
  ·have : isLetter n = true := by simp [isLetter]; omega
   simp only [go_sem, simprocAttr, h1, h2, this] <;> rfl
  ·have h4 : ¬ ((n : Nat) : Int) ≤ 90 := by omega
   have : isLetter n = false := by simp [isLetter]; omega
   simp only [go_sem, simprocAttr, h1, h2, h3, h4, this] <;> rfl
 ·by_cases h3 : (65 : Int) ≤ (n : Nat)
  ·by_cases h4 : ((n : Nat) : Int) ≤ 90
   ·have : isLetter n = true := by simp [isLetter]; omega
    simp only [go_sem, simprocAttr, h1, h3, h4, this] <;> rfl
   ·have : isLetter n = false := by simp [isLetter]; omega
    simp only [go_sem, simprocAttr, h1, h3, h4, this] <;> rfl
  ·have : isLetter n = false := by simp [isLetter]; omega
   simp only [go_sem, simprocAttr, h1, h3, this] <;> rfl
theorem c_rInner (b : UInt8) (H : Heap) : calls Tryz.prog cfg 56 [.lit (.int .u8 (b.toNat : Nat))] H = some (.ret (.lit (.bool (inWord b.toNat))) H) := by
 refine calls_pure (fn := Tryz.f56) rfl rfl rfl rfl rfl ?_ H
 cases h1 : isLetter b.toNat with
 | true =>
  have : inWord b.toNat = true := by simp [inWord, h1]
  simp only [go_sem, simprocAttr, c_rLetter, h1, this] <;> rfl
 | false =>
  cases h2 : isDigit b.toNat with
  | true =>
   have : inWord b.toNat = true := by simp [inWord, h2]
   simp only [go_sem, simprocAttr, c_rLetter, c_rDigit, h1, h2, this] <;> rfl
  | false =>
   have : inWord b.toNat = decide (((b.toNat : Nat) : Int) = 95) := by
    by_cases h3 : ((b.toNat : Nat) : Int) = 95
    ·have h4 : (b.toNat == 95) = true := by simp; omega
     rw [decide_eq_true h3]; simp only [inWord, h1, h2, h4]; rfl
    ·have h4 : (b.toNat == 95) = false := by simp; omega
     rw [decide_eq_false h3]; simp only [inWord, h1, h2, h4]; rfl
   simp only [go_sem, simprocAttr, c_rLetter, c_rDigit, h1, h2, this] <;> rfl
def signL : List UInt8 := [123, 125, 40, 41, 44, 59, 46, 61, 43, 45, 42, 60, 38, 58]
theorem isSign_any (n : Nat) : isSign n = signL.any fun x => x.toNat == n := by
 simp only [isSign, signs, signL, List.any_cons, List.any_nil, List.contains_cons, List.contains_nil]
 have hc : ∀ (a : Nat), (n == a) = (a == n) := fun a => by rw [Bool.eq_iff_iff]; simp; omega
 simp only [hc]
 rfl
theorem c_rSign (b : UInt8) (H : Heap) : calls Tryz.prog cfg 58 [.lit (.int .u8 (b.toNat : Nat))] H = some (.ret (.lit (.bool (isSign b.toNat))) H) := by
 refine calls_pure (fn := Tryz.f58) rfl rfl rfl rfl rfl ?_ H
 have rs : Tryz.f58.results.toList = [.tmp 2] := rfl
 generalize b.toNat = n
 have hsl : [123, 125, 40, 41, 44, 59, 46, 61, 43, 45, 42, 60, 38, 58] = signL := rfl
 simp only [go_sem, simprocAttr, rs, hsl]
 generalize hr : isSign n = r
 refine W_loop_ind (fun k e H => ∃ a : Nat, k = signL.length - a ∧ a ≤ signL.length ∧ ((signL.drop a).any fun x => x.toNat == n) = r ∧ gget .bad e 0 = .lit (.int .u8 (n : Nat)) ∧ gget .bad e 3 = .lit (.string (ba signL)) ∧ gget .bad e 4 = .lit (.int .i64 (a : Nat)))
  signL.length ⟨0, rfl, by omega, by rw [← hr, isSign_any]; rfl, by simp only [go_sem, simprocAttr], by simp only [go_sem, simprocAttr], by simp only [go_sem, simprocAttr] <;> rfl⟩ ?_
 rintro k ih e H ⟨a, rfl, hle, hR, h0, h3, h4⟩
 have h14 : signL.length = 14 := rfl
 by_cases hlt : a < signL.length
 ·have hlt' : decide ((a : Int) < (signL.length : Nat)) = true := by simp; omega
  have dc := drop_cons hlt
  have hix := ixs_ba hlt
  generalize signL.getD a 0 = b at dc hix
  rw [dc, List.any_cons] at hR
  have hw1 := wrap1 (show a + 1 ≤ 9223372036854775807 by omega)
  by_cases hb : ((b.toNat : Nat) : Int) = (n : Nat)
  ·have hb' : decide (((b.toNat : Nat) : Int) = (n : Nat)) = true := by simp; omega
   have hb2 : (b.toNat == n) = true := by simp; omega
   rw [hb2] at hR
   simp only [go_sem, simprocAttr, h0, h3, h4, ba_size, hlt', hix, hb']
   rw [← hR]; rfl
  ·have hb' : decide (((b.toNat : Nat) : Int) = (n : Nat)) = false := by simp; omega
   have hb2 : (b.toNat == n) = false := by simp; omega
   rw [hb2, Bool.false_or] at hR
   simp only [go_sem, simprocAttr, h0, h3, h4, ba_size, hlt', hix, hb', hw1]
   exact ih (signL.length - (a + 1)) (by omega) _ _ ⟨a + 1, rfl, by omega, hR, by simp only [go_sem, simprocAttr, h0], by simp only [go_sem, simprocAttr, h3], by simp only [go_sem, simprocAttr]⟩
 ·have hlt' : decide ((a : Int) < (signL.length : Nat)) = false := by simp; omega
  rw [List.drop_of_length_le (by omega)] at hR
  simp only [go_sem, simprocAttr, h0, h3, h4, ba_size, hlt']
  rw [← hR]; rfl
end Go.Proofs.YtghhkbigmmjanaaGreatDoor.VA

/-! La6 -/
namespace Go.Proofs.YtghhkbigmmjanaaGreatDoor.VA
open Go Go.RowKit
attribute [local go_sem] Nat.add_eq_left Nat.left_eq_add true_and and_true ite_true if_false Int.cast_ofNat_Int eq_self Nat.add_assoc Option.some.injEq decide_true decide_false Bool.not_true Bool.not_false List.size_toArray List.length_cons List.length_nil
set_option linter.unusedSimpArgs false
set_option maxRecDepth 100000

/-- May one append: to what one owns, to nil, to a literal without elements. -/
def AppOk (H : Heap) (o : Own) (n : Nat) (e : TypeId) (sz : Nat) : Prop :=
 match o with
 | .ex => n = 0
 | o => OwnOk H o e sz
@[go_sem] theorem AppOk_up (H : Heap) (k : Nat) (o : Own) (n : Nat) (e : TypeId) (sz : Nat) : AppOk (H.up k) o n e sz = AppOk H o n e sz := by cases o <;> rfl
@[go_sem] theorem AppOk_put (H : Heap) (r : Nat) (cs : List AV) (o : Own) (n : Nat) (e : TypeId) (sz : Nat) : AppOk (H.put r cs) o n e sz = AppOk H o n e sz := by cases o <;> rfl
@[go_sem] theorem AppOk_ex (H : Heap) (n : Nat) (e : TypeId) (sz : Nat) : AppOk H .ex n e sz = (n = 0) := rfl
@[go_sem] theorem AppOk_nil (H : Heap) (n : Nat) (e : TypeId) (sz : Nat) : AppOk H .nil n e sz = True := rfl
@[go_sem] theorem AppOk_ownUs (H : Heap) (o : Own) (id : Nat) (n : Nat) (e : TypeId) (sz : Nat) : AppOk (appU H (ownUs o id)) (.own id e sz) n e sz = True := OwnOk_ownUs o e sz
theorem append_any {P : Program} {t : TypeId} {e : TypeId} {sz bs : Nat} {o o' : Own} {es xs : List (List AV)} {x : List AV} (ht : tElem P t = some (e, sz, bs)) (hz : zeroOk P e sz = true) (hs : 0 < sz)
  (hb : (es.length + (xs.length + 1)) * bs ≤ 140737488355328) (hl : es.length + (xs.length + 1) ≤ 140737488355328) (hx : x.length = sz) (H : Heap) (id : Nat) (ho : AppOk H o es.length e sz) :
  aAppend P t (.sl o es) (.sl o' (x :: xs)) H id = some (.sl (.own id e sz) (es ++ sanLL (x :: xs)), ownUs o id, ownRs o) := by
 cases o with
 | ex =>
  have : es = [] := List.eq_nil_of_length_eq_zero ho
  subst this
  rw [append_ex ht hz hs hb hl hx H id]; rfl
 | nil => exact append_eq ht hz hs hb hl hx H id ho
 | own k e' z => exact append_eq ht hz hs hb hl hx H id ho
 | sh => exact ho.elim

/-! ### how far a span goes -/
theorem span_lt {p : Nat → Bool} : ∀ {l : List UInt8} {j : Nat}, j < span p l → p (l.getD j 0).toNat = true
 | [], j, h => by simp [span_nil] at h
 | b :: l, j, h => by
  rw [span_cons] at h
  split at h
  ·rename_i hp
   cases j with
   | zero => simpa using hp
   | succ j => have := span_lt (p := p) (l := l) (j := j) (by omega); simpa using this
  ·omega
theorem span_end {p : Nat → Bool} : ∀ {l : List UInt8}, span p l < l.length → p (l.getD (span p l) 0).toNat = false
 | [], h => by simp at h
 | b :: l, h => by
  rw [span_cons] at h ⊢
  cases hp : p b.toNat with
  | true =>
   rw [hp] at h
   simp at h
   have := span_end (l := l) h
   simpa using this
  | false => simpa using hp
theorem getD_drop (l : List UInt8) (a j : Nat) : (l.drop a).getD j 0 = l.getD (a + j) 0 := by
 simp [List.getD_eq_getElem?_getD]
theorem endsNum_drop {l : List UInt8} {n : Nat} (h : n < l.length) : endsNum (l.drop n) = !inWord (l.getD n 0).toNat := by
 rw [drop_cons h]; rfl
theorem digit_word {n : Nat} (h : isDigit n = true) : inWord n = true := by simp [inWord, h]
@[go_sem] theorem bs0_tok : aBuildSlice Tryz.prog 45 0 [] = some (.sl .ex []) := build0 el_tok zr_tok rfl rfl

set_option maxRecDepth 20000 in
theorem c_rLex (l : List UInt8) (H : Heap) : calls Tryz.prog cfg 28 [.lit (.string (ba l))] H = some (.ret (encLex (lexAns l)) H) := by
 refine calls_pure (fn := Tryz.f28) rfl rfl rfl rfl rfl ?_ H
 have rs : Tryz.f28.results.toList = [.tmp 2, .cell 3 27] := rfl
 by_cases hbig : 65536 < l.length
 ·have d : decide ((65536 : Int) < (l.length : Nat)) = true := by simp; omega
  simp only [go_sem, simprocAttr, rs, ba_size, d]
  simp only [lexAns, if_pos hbig, encLex, encFault]
  rfl
 ·have d : decide ((65536 : Int) < (l.length : Nat)) = false := by simp; omega
  have hans : encLex (lexAns l) = encLexR (lexL l 0) := by
   simp only [lexAns, if_neg hbig]
   cases lexL l 0 <;> rfl
  rw [hans]
  generalize hR : lexL l 0 = R
  simp only [go_sem, simprocAttr, rs, ba_size, d]
  refine W_loop_ind (fun n e H => ∃ (a : Nat) (acc : List Tok) (o : Own), n = l.length - a ∧ a ≤ l.length ∧ acc.length ≤ a ∧ LexR.pre acc (lexL (l.drop a) a) = R ∧ gget .bad e 0 = .lit (.string (ba l)) ∧ gget .bad e 3 = .ptr 1 0 ∧
    gget .bad e 4 = .sl o (acc.map encTok) ∧ gget .bad e 5 = .lit (.int .i64 (a : Nat)) ∧ H.get 1 = some [.lit (.int .i64 0), .lit (.int .i64 0)] ∧ 2 ≤ H.next ∧ AppOk H o acc.length 66 3)
   l.length ⟨0, [], .ex, rfl, by omega, by simp, by simpa [LexR.pre_nil] using hR, by simp only [go_sem, simprocAttr], by simp only [go_sem, simprocAttr], by simp only [go_sem, simprocAttr], by simp only [go_sem, simprocAttr] <;> rfl, by simp only [go_sem, simprocAttr], by simp only [go_sem, simprocAttr], by simp only [go_sem, simprocAttr]⟩ ?_
  rintro n ih e H ⟨a, acc, o, rfl, hle, hacc, hR, h0, h3, h4, h5, hg, hnx, ho⟩
  obtain ⟨m, hm⟩ : ∃ m, H.next = m + 2 := ⟨H.next - 2, by omega⟩
  by_cases hlt : a < l.length
  ·have hlt' : decide ((a : Int) < (l.length : Nat)) = true := by simp; omega
   have dc := drop_cons hlt
   generalize hb : l.getD a 0 = b at dc
   have hix := ixs_ba hlt
   rw [hb] at hix
   have hw1 := wrap1 (show a + 1 ≤ 9223372036854775807 by omega)
   have hsl : ∀ k, a + k ≤ l.length → aSlice Tryz.prog 9 (.lit (.string (ba l))) (some (.lit (.int .i64 (a : Nat)))) (some (.lit (.int .i64 (a + k : Nat)))) = some (.lit (.string (ba ((l.drop a).take k)))) := by
    intro k hk
    rw [slice_str und_string (h := a + k) (l := a) (by simp only [optNat, aNat_cast]) (by simp only [optNat, aNat_cast]) (by omega) (by simpa using hk), ba_extract]
    congr 5; omega
   have hap : ∀ (v0 v1 v2 : AV) (H' : Heap) (id : Nat), AppOk H' o acc.length 66 3 → aAppend Tryz.prog 45 (.sl o (acc.map encTok)) (.sl .ex [[v0, v1, v2]]) H' id =
     some (.sl (.own id 66 3) (acc.map encTok ++ sanLL [[v0, v1, v2]]), ownUs o id, ownRs o) := fun v0 v1 v2 H' id hh =>
    append_any el_tok zo_tok (by omega) (by simp; omega) (by simp; omega) rfl H' id (by simpa using hh)
   have hspan : ∀ p, a + span p (l.drop a) ≤ l.length := fun p => by have := span_le p (l.drop a); simp at this; omega
   have hixj : ∀ j, a + j < l.length → ixs (some .string) (.lit (.string (ba l))) (some (a + j)) = some (.lit (.int .u8 (((l.drop a).getD j 0).toNat : Nat))) := fun j hj => by rw [getD_drop]; exact ixs_ba hj
   have c0 := cls_lt b.toNat
   cases k1 : isBlank b.toNat with
   | true =>
    have c1 : cls b.toNat = 1 := by simp [cls, k1]
    have hl := lexL_blank (l := l.drop (a + 1)) (at_ := a) c1
    rw [← dc] at hl
    rw [hl] at hR
    simp only [go_sem, simprocAttr, h0, h3, h4, h5, hg, hm, ba_size, hlt', hix, c_rBlank, k1, hw1]
    exact ih (l.length - (a + 1)) (by omega) _ _ ⟨a + 1, acc, o, rfl, by omega, by omega, hR, by simp only [go_sem, simprocAttr, h0], by simp only [go_sem, simprocAttr, h3], by simp only [go_sem, simprocAttr, h4], by simp only [go_sem, simprocAttr], by simp only [go_sem, simprocAttr, hg], by simp only [go_sem, simprocAttr, hm], by simp only [go_sem, simprocAttr, ho]⟩
   | false =>
   by_cases k2 : ((b.toNat : Nat) : Int) = 35
   ·have c2 : cls b.toNat = 2 := cls_2 (by omega)
    have hl := lexL_remark (l := l.drop (a + 1)) (at_ := a) c2
    rw [← dc] at hl
    rw [hl, List.drop_drop] at hR
    have hp : 0 < span notNl (l.drop a) := by rw [dc, span_pos (cls2 c2)]; omega
    have hk := hspan notNl
    have d2 : decide (((b.toNat : Nat) : Int) = 35) = true := by simp; omega
    simp only [go_sem, simprocAttr, h0, h3, h4, h5, hg, hm, ba_size, hlt', hix, c_rBlank, k1, d2]
    refine W_loop_ind (fun n e H => ∃ j : Nat, n = span notNl (l.drop a) - j ∧ j ≤ span notNl (l.drop a) ∧ gget .bad e 0 = .lit (.string (ba l)) ∧ gget .bad e 3 = .ptr 1 0 ∧
      gget .bad e 4 = .sl o (acc.map encTok) ∧ gget .bad e 5 = .lit (.int .i64 (a + j : Nat)) ∧ H.get 1 = some [.lit (.int .i64 0), .lit (.int .i64 0)] ∧ 2 ≤ H.next ∧ AppOk H o acc.length 66 3)
     (span notNl (l.drop a)) ⟨0, rfl, by omega, by simp only [go_sem, simprocAttr, h0], by simp only [go_sem, simprocAttr, h3], by simp only [go_sem, simprocAttr, h4], by simp only [go_sem, simprocAttr, h5] <;> rfl, by simp only [go_sem, simprocAttr, hg], by simp only [go_sem, simprocAttr, hm], by simp only [go_sem, simprocAttr, ho]⟩ ?_
    rintro n ih2 e H ⟨j, rfl, hj, h0, h3, h4, h5, hg, hnx, ho⟩
    obtain ⟨m, hm⟩ : ∃ m, H.next = m + 2 := ⟨H.next - 2, by omega⟩
    by_cases hjl : a + j < l.length
    ·have hjl' : decide (((a + j : Nat) : Int) < (l.length : Nat)) = true := by simp; omega
     by_cases hjk : j < span notNl (l.drop a)
     ·have hnl := span_lt hjk
      have d3 : decide (((((l.drop a).getD j 0).toNat : Nat) : Int) = 10) = false := by simp [notNl] at hnl ⊢; omega
      have hwj : IntKind.wrap .i64 (((a + j : Nat) : Int) + 1) = ((a + (j + 1) : Nat) : Int) := wrap1 (by omega)
      simp only [go_sem, simprocAttr, h0, h3, h4, h5, hg, hm, ba_size, hjl', hixj _ hjl, d3, hwj]
      exact ih2 (span notNl (l.drop a) - (j + 1)) (by omega) _ _ ⟨j + 1, rfl, by omega, by simp only [go_sem, simprocAttr, h0], by simp only [go_sem, simprocAttr, h3], by simp only [go_sem, simprocAttr, h4], by simp only [go_sem, simprocAttr], by simp only [go_sem, simprocAttr, hg], by simp only [go_sem, simprocAttr, hm], by simp only [go_sem, simprocAttr, ho]⟩
     ·have hje : j = span notNl (l.drop a) := by omega
      have hnl := span_end (p := notNl) (l := l.drop a) (by simp; omega)
      rw [← hje] at hnl
      have d3 : decide (((((l.drop a).getD j 0).toNat : Nat) : Int) = 10) = true := by simp [notNl] at hnl ⊢; omega
      simp only [go_sem, simprocAttr, h0, h3, h4, h5, hg, hm, ba_size, hjl', hixj _ hjl, d3]
      rw [← hje] at hR
      exact ih (l.length - (a + j)) (by omega) _ _ ⟨a + j, acc, o, rfl, by omega, by omega, hR, by simp only [go_sem, simprocAttr, h0], by simp only [go_sem, simprocAttr, h3], by simp only [go_sem, simprocAttr, h4], by simp only [go_sem, simprocAttr, h5], by simp only [go_sem, simprocAttr, hg], by simp only [go_sem, simprocAttr, hm], by simp only [go_sem, simprocAttr, ho]⟩
    ·have hjl' : decide (((a + j : Nat) : Int) < (l.length : Nat)) = false := by simp; omega
     have hje : j = span notNl (l.drop a) := by omega
     simp only [go_sem, simprocAttr, h0, h3, h4, h5, hg, hm, ba_size, hjl']
     rw [← hje] at hR
     exact ih (l.length - (a + j)) (by omega) _ _ ⟨a + j, acc, o, rfl, by omega, by omega, hR, by simp only [go_sem, simprocAttr, h0], by simp only [go_sem, simprocAttr, h3], by simp only [go_sem, simprocAttr, h4], by simp only [go_sem, simprocAttr, h5], by simp only [go_sem, simprocAttr, hg], by simp only [go_sem, simprocAttr, hm], by simp only [go_sem, simprocAttr, ho]⟩
   have d2 : decide (((b.toNat : Nat) : Int) = 35) = false := by simp; omega
   cases k3 : isLetter b.toNat with
   | true =>
    have c3 : cls b.toNat = 3 := (cls3_iff _).2 k3
    have hl := lexL_word (l := l.drop (a + 1)) (at_ := a) c3
    rw [← dc] at hl
    rw [hl, List.drop_drop, LexR.pre_pre] at hR
    have hp : 0 < span inWord (l.drop a) := by rw [dc, span_pos (cls3 c3)]; omega
    have hk := hspan inWord
    simp only [go_sem, simprocAttr, h0, h3, h4, h5, hg, hm, ba_size, hlt', hix, c_rBlank, c_rLetter, k1, d2, k3, hw1]
    refine W_loop_ind (fun n e H => ∃ j : Nat, n = span inWord (l.drop a) - j ∧ 0 < j ∧ j ≤ span inWord (l.drop a) ∧ gget .bad e 0 = .lit (.string (ba l)) ∧ gget .bad e 3 = .ptr 1 0 ∧
      gget .bad e 4 = .sl o (acc.map encTok) ∧ gget .bad e 5 = .lit (.int .i64 (a : Nat)) ∧ gget .bad e 7 = .lit (.int .i64 (a + j : Nat)) ∧ gget .bad e 8 = .lit (.int .i64 0) ∧
      H.get 1 = some [.lit (.int .i64 0), .lit (.int .i64 0)] ∧ 2 ≤ H.next ∧ AppOk H o acc.length 66 3)
     (span inWord (l.drop a) - 1) ⟨1, rfl, by omega, by omega, by simp only [go_sem, simprocAttr, h0], by simp only [go_sem, simprocAttr, h3], by simp only [go_sem, simprocAttr, h4], by simp only [go_sem, simprocAttr, h5], by simp only [go_sem, simprocAttr], by simp only [go_sem, simprocAttr], by simp only [go_sem, simprocAttr, hg], by simp only [go_sem, simprocAttr, hm], by simp only [go_sem, simprocAttr, ho]⟩ ?_
    rintro n ih2 e H ⟨j, rfl, hj0, hj, h0, h3, h4, h5, h7, h8, hg, hnx, ho⟩
    obtain ⟨m, hm⟩ : ∃ m, H.next = m + 2 := ⟨H.next - 2, by omega⟩
    by_cases hjk : j < span inWord (l.drop a)
    ·have hjl : a + j < l.length := by omega
     have hjl' : decide (((a + j : Nat) : Int) < (l.length : Nat)) = true := by simp; omega
     have hnl := span_lt hjk
     have hwj : IntKind.wrap .i64 (((a + j : Nat) : Int) + 1) = ((a + (j + 1) : Nat) : Int) := wrap1 (by omega)
     simp only [go_sem, simprocAttr, h0, h3, h4, h5, h7, h8, hg, hm, ba_size, hjl', hixj _ hjl, c_rInner, hnl, hwj]
     exact ih2 (span inWord (l.drop a) - (j + 1)) (by omega) _ _ ⟨j + 1, rfl, by omega, by omega, by simp only [go_sem, simprocAttr, h0], by simp only [go_sem, simprocAttr, h3], by simp only [go_sem, simprocAttr, h4], by simp only [go_sem, simprocAttr, h5], by simp only [go_sem, simprocAttr], by simp only [go_sem, simprocAttr, h8], by simp only [go_sem, simprocAttr, hg], by simp only [go_sem, simprocAttr, hm], by simp only [go_sem, simprocAttr, ho]⟩
    ·have hje : j = span inWord (l.drop a) := by omega
     rw [← hje] at hR
     by_cases hjl : a + j < l.length
     ·have hjl' : decide (((a + j : Nat) : Int) < (l.length : Nat)) = true := by simp; omega
      have hnl := span_end (p := inWord) (l := l.drop a) (by simp; omega)
      rw [← hje] at hnl
      simp only [go_sem, simprocAttr, h0, h3, h4, h5, h7, h8, hg, hm, ba_size, hjl', hixj _ hjl, c_rInner, hnl, hsl j (by omega), bs1_tok, hap, ho]
      exact ih (l.length - (a + j)) (by omega) _ _ ⟨a + j, acc ++ [⟨0, (l.drop a).take j, a⟩], _, rfl, by omega, by simp; omega, hR, by simp only [go_sem, simprocAttr, h0], by simp only [go_sem, simprocAttr, h3], by simp only [go_sem, simprocAttr, List.map_append, encTok] <;> rfl,
       by simp only [go_sem, simprocAttr], by simp only [go_sem, simprocAttr, hg], by simp only [go_sem, simprocAttr, hm], by simp only [go_sem, simprocAttr]⟩
     ·have hjl' : decide (((a + j : Nat) : Int) < (l.length : Nat)) = false := by simp; omega
      simp only [go_sem, simprocAttr, h0, h3, h4, h5, h7, h8, hg, hm, ba_size, hjl', hsl j (by omega), bs1_tok, hap, ho]
      exact ih (l.length - (a + j)) (by omega) _ _ ⟨a + j, acc ++ [⟨0, (l.drop a).take j, a⟩], _, rfl, by omega, by simp; omega, hR, by simp only [go_sem, simprocAttr, h0], by simp only [go_sem, simprocAttr, h3], by simp only [go_sem, simprocAttr, List.map_append, encTok] <;> rfl,
       by simp only [go_sem, simprocAttr], by simp only [go_sem, simprocAttr, hg], by simp only [go_sem, simprocAttr, hm], by simp only [go_sem, simprocAttr]⟩
   | false =>
   cases k4 : isDigit b.toNat with
   | true =>
    have c4 : cls b.toNat = 4 := (cls4_iff _).2 k4
    have hp : 0 < span isDigit (l.drop a) := by rw [dc, span_pos (cls4 c4)]; omega
    have hk := hspan isDigit
    have hnok : ¬ (span isDigit (l.drop a) ≤ 9 ∧ endsNum ((l.drop a).drop (span isDigit (l.drop a))) = true) → encLexR R = encLexR (.err a) := fun hn => by
     have hl := lexL_notnum (l := l.drop (a + 1)) (at_ := a) c4 (by rw [← dc]; exact hn)
     rw [← dc] at hl
     rw [← hR, hl]; rfl
    have hok : span isDigit (l.drop a) ≤ 9 → endsNum ((l.drop a).drop (span isDigit (l.drop a))) = true →
      LexR.pre (acc ++ [⟨1, (l.drop a).take (span isDigit (l.drop a)), a⟩]) (lexL (l.drop (a + span isDigit (l.drop a))) (a + span isDigit (l.drop a))) = R := fun hn1 hn2 => by
     have hl := lexL_num (l := l.drop (a + 1)) (at_ := a) c4 (by rw [← dc]; exact hn1) (by rw [← dc]; exact hn2)
     rw [← dc] at hl
     rw [hl, List.drop_drop, LexR.pre_pre] at hR
     exact hR
    simp only [go_sem, simprocAttr, h0, h3, h4, h5, hg, hm, ba_size, hlt', hix, c_rBlank, c_rLetter, c_rDigit, k1, d2, k3, k4, hw1]
    refine W_loop_ind (fun n e H => ∃ j : Nat, n = span isDigit (l.drop a) - j ∧ 0 < j ∧ j ≤ span isDigit (l.drop a) ∧ gget .bad e 0 = .lit (.string (ba l)) ∧ gget .bad e 3 = .ptr 1 0 ∧
      gget .bad e 4 = .sl o (acc.map encTok) ∧ gget .bad e 5 = .lit (.int .i64 (a : Nat)) ∧ gget .bad e 7 = .lit (.int .i64 (a + j : Nat)) ∧ gget .bad e 8 = .lit (.int .i64 1) ∧
      H.get 1 = some [.lit (.int .i64 0), .lit (.int .i64 0)] ∧ 2 ≤ H.next ∧ AppOk H o acc.length 66 3)
     (span isDigit (l.drop a) - 1) ⟨1, rfl, by omega, by omega, by simp only [go_sem, simprocAttr, h0], by simp only [go_sem, simprocAttr, h3], by simp only [go_sem, simprocAttr, h4], by simp only [go_sem, simprocAttr, h5], by simp only [go_sem, simprocAttr], by simp only [go_sem, simprocAttr], by simp only [go_sem, simprocAttr, hg], by simp only [go_sem, simprocAttr, hm], by simp only [go_sem, simprocAttr, ho]⟩ ?_
    rintro n ih2 e H ⟨j, rfl, hj0, hj, h0, h3, h4, h5, h7, h8, hg, hnx, ho⟩
    obtain ⟨m, hm⟩ : ∃ m, H.next = m + 2 := ⟨H.next - 2, by omega⟩
    have hws : IntKind.wrap .i64 (((a + j : Nat) : Int) - (a : Nat)) = (j : Nat) := by rw [wrap64 (by omega) (by omega)]; omega
    by_cases hjk : j < span isDigit (l.drop a)
    ·have hjl : a + j < l.length := by omega
     have hjl' : decide (((a + j : Nat) : Int) < (l.length : Nat)) = true := by simp; omega
     have hnl := span_lt hjk
     have hnw := digit_word hnl
     have hwj : IntKind.wrap .i64 (((a + j : Nat) : Int) + 1) = ((a + (j + 1) : Nat) : Int) := wrap1 (by omega)
     simp only [go_sem, simprocAttr, h0, h3, h4, h5, h7, h8, hg, hm, ba_size, hjl', hixj _ hjl, c_rInner, c_rDigit, hnl, hnw, hwj]
     exact ih2 (span isDigit (l.drop a) - (j + 1)) (by omega) _ _ ⟨j + 1, rfl, by omega, by omega, by simp only [go_sem, simprocAttr, h0], by simp only [go_sem, simprocAttr, h3], by simp only [go_sem, simprocAttr, h4], by simp only [go_sem, simprocAttr, h5], by simp only [go_sem, simprocAttr], by simp only [go_sem, simprocAttr, h8], by simp only [go_sem, simprocAttr, hg], by simp only [go_sem, simprocAttr, hm], by simp only [go_sem, simprocAttr, ho]⟩
    ·have hje : j = span isDigit (l.drop a) := by omega
     rw [← hje] at hok hnok
     by_cases hjl : a + j < l.length
     ·have hjl' : decide (((a + j : Nat) : Int) < (l.length : Nat)) = true := by simp; omega
      have hnl := span_end (p := isDigit) (l := l.drop a) (by simp; omega)
      rw [← hje] at hnl
      have hen : endsNum ((l.drop a).drop j) = !inWord ((l.drop a).getD j 0).toNat := endsNum_drop (by simp; omega)
      cases hw : inWord ((l.drop a).getD j 0).toNat with
      | true =>
       simp only [go_sem, simprocAttr, h0, h3, h4, h5, h7, h8, hg, hm, ba_size, hjl', hixj _ hjl, c_rInner, c_rDigit, hnl, hw]
       rw [hnok (by rw [hen, hw]; simp)]; rfl
      | false =>
       by_cases h9 : j ≤ 9
       ·have d9 : decide ((9 : Int) < (j : Nat)) = false := by simp; omega
        simp only [go_sem, simprocAttr, h0, h3, h4, h5, h7, h8, hg, hm, ba_size, hjl', hixj _ hjl, c_rInner, hw, hws, d9, hsl j (by omega), bs1_tok, hap, ho]
        exact ih (l.length - (a + j)) (by omega) _ _ ⟨a + j, acc ++ [⟨1, (l.drop a).take j, a⟩], _, rfl, by omega, by simp; omega, hok h9 (by rw [hen, hw]; rfl), by simp only [go_sem, simprocAttr, h0], by simp only [go_sem, simprocAttr, h3], by simp only [go_sem, simprocAttr, List.map_append, encTok] <;> rfl,
         by simp only [go_sem, simprocAttr], by simp only [go_sem, simprocAttr, hg], by simp only [go_sem, simprocAttr, hm], by simp only [go_sem, simprocAttr]⟩
       ·have d9 : decide ((9 : Int) < (j : Nat)) = true := by simp; omega
        simp only [go_sem, simprocAttr, h0, h3, h4, h5, h7, h8, hg, hm, ba_size, hjl', hixj _ hjl, c_rInner, hw, hws, d9]
        rw [hnok (fun hh => h9 hh.1)]; rfl
     ·have hjl' : decide (((a + j : Nat) : Int) < (l.length : Nat)) = false := by simp; omega
      have hen : endsNum ((l.drop a).drop j) = true := by rw [List.drop_drop, List.drop_of_length_le (by omega)]; rfl
      by_cases h9 : j ≤ 9
      ·have d9 : decide ((9 : Int) < (j : Nat)) = false := by simp; omega
       simp only [go_sem, simprocAttr, h0, h3, h4, h5, h7, h8, hg, hm, ba_size, hjl', hws, d9, hsl j (by omega), bs1_tok, hap, ho]
       exact ih (l.length - (a + j)) (by omega) _ _ ⟨a + j, acc ++ [⟨1, (l.drop a).take j, a⟩], _, rfl, by omega, by simp; omega, hok h9 hen, by simp only [go_sem, simprocAttr, h0], by simp only [go_sem, simprocAttr, h3], by simp only [go_sem, simprocAttr, List.map_append, encTok] <;> rfl,
        by simp only [go_sem, simprocAttr], by simp only [go_sem, simprocAttr, hg], by simp only [go_sem, simprocAttr, hm], by simp only [go_sem, simprocAttr]⟩
      ·have d9 : decide ((9 : Int) < (j : Nat)) = true := by simp; omega
       simp only [go_sem, simprocAttr, h0, h3, h4, h5, h7, h8, hg, hm, ba_size, hjl', hws, d9]
       rw [hnok (fun hh => h9 hh.1)]; rfl
   | false =>
   have k5 : cls b.toNat = if isSign b.toNat then 5 else 0 := by
    have k35 : (b.toNat == 35) = false := by simp; omega
    simp [cls, k1, k35, k3, k4]
   cases k6 : isSign b.toNat with
   | true =>
    have c5 : cls b.toNat = 5 := by rw [k5, k6]; rfl
    have hl := lexL_sign (l := l.drop (a + 1)) (at_ := a) c5
    rw [← dc] at hl
    rw [hl, LexR.pre_pre] at hR
    have ht : (l.drop a).take 1 = [b] := by rw [dc]; rfl
    have hsl1 := hsl 1 (by omega)
    rw [ht] at hsl1
    simp only [go_sem, simprocAttr, h0, h3, h4, h5, hg, hm, ba_size, hlt', hix, c_rBlank, c_rLetter, c_rDigit, c_rSign, k1, d2, k3, k4, k6, hw1, hsl1, bs1_tok, hap, ho]
    exact ih (l.length - (a + 1)) (by omega) _ _ ⟨a + 1, acc ++ [⟨2, [b], a⟩], _, rfl, by omega, by simp; omega, hR, by simp only [go_sem, simprocAttr, h0], by simp only [go_sem, simprocAttr, h3],
     by simp only [go_sem, simprocAttr, List.map_append, encTok] <;> rfl, by simp only [go_sem, simprocAttr], by simp only [go_sem, simprocAttr, hg], by simp only [go_sem, simprocAttr, hm], by simp only [go_sem, simprocAttr]⟩
   | false =>
    have c6 : cls b.toNat = 0 := by rw [k5, k6]; rfl
    have hl := lexL_other (l := l.drop (a + 1)) (at_ := a) c6
    rw [← dc] at hl
    rw [hl] at hR
    simp only [go_sem, simprocAttr, h0, h3, h4, h5, hg, hm, ba_size, hlt', hix, c_rBlank, c_rLetter, c_rDigit, c_rSign, k1, d2, k3, k4, k6, hw1]
    rw [← hR]; rfl
  ·have hlt' : decide ((a : Int) < (l.length : Nat)) = false := by simp; omega
   rw [List.drop_of_length_le (by omega), lexL_nil] at hR
   simp only [go_sem, simprocAttr, h0, h3, h4, h5, hg, hm, ba_size, hlt']
   rw [← hR]
   simp [LexR.pre, encLexR, encLex, encFault]
end Go.Proofs.YtghhkbigmmjanaaGreatDoor.VA

/-! La7 -/
namespace Go.Proofs.YtghhkbigmmjanaaGreatDoor.VA
open Go Go.RowKit
set_option linter.unusedSimpArgs false
set_option maxRecDepth 100000

theorem eg_tok : Tryz.prog.eqGuardType Tryz.prog.depth 66 = false := by kernel_rfl
theorem sh_tok : Tryz.prog.stoodInHeld 66 = false := by kernel_rfl
theorem eg_fault : Tryz.prog.eqGuardType Tryz.prog.depth 27 = false := by kernel_rfl
theorem sh_fault : Tryz.prog.stoodInHeld 27 = false := by kernel_rfl
@[go_sem] theorem und_errno : Tryz.prog.underlying 25 = some (.int .i64) := by kernel_rfl
@[go_sem] theorem sz_errno : tSize Tryz.prog 25 = some 1 := by kernel_rfl
@[go_sem] theorem ag_errno : tAgg Tryz.prog 25 = some false := by kernel_rfl
theorem eq_tok (k k' a a' : Int) (t t' : ByteArray) : aEq Tryz.prog 8 66 (.agg [.lit (.int .i64 k), .lit (.string t), .lit (.int .i64 a)]) (.agg [.lit (.int .i64 k'), .lit (.string t'), .lit (.int .i64 a')]) =
  some (decide (k = k') && (decide (t = t') && decide (a = a'))) := by
 simp only [aEq, Tryz.underlying66, sh_tok, if_true, aEqs, go_sem]
 by_cases h1 : k = k' <;> by_cases h2 : t = t' <;> by_cases h3 : a = a' <;> simp [h1, h2, h3, aEqs, aEq, go_sem, strEq_decide]
theorem eq_fault (k k' a a' : Int) : aEq Tryz.prog 8 27 (.agg [.lit (.int .i64 k), .lit (.int .i64 a)]) (.agg [.lit (.int .i64 k'), .lit (.int .i64 a')]) =
  some (decide (k = k') && decide (a = a')) := by
 simp only [aEq, Tryz.underlying27, sh_fault, if_true, aEqs, go_sem]
 by_cases h1 : k = k' <;> by_cases h3 : a = a' <;> simp [h1, h3, aEqs, aEq, go_sem]
@[go_sem] theorem bin_netok (k k' a a' : Int) (t t' : ByteArray) : aBin Tryz.prog .neq 66 (.agg [.lit (.int .i64 k), .lit (.string t), .lit (.int .i64 a)]) (.agg [.lit (.int .i64 k'), .lit (.string t'), .lit (.int .i64 a')]) =
  some (.lit (.bool (!(decide (k = k') && (decide (t = t') && decide (a = a')))))) := by
 simp only [aBin, eg_tok, if_true, eq_tok]
@[go_sem] theorem bin_eqfault (k k' a a' : Int) : aBin Tryz.prog .eql 27 (.agg [.lit (.int .i64 k), .lit (.int .i64 a)]) (.agg [.lit (.int .i64 k'), .lit (.int .i64 a')]) =
  some (.lit (.bool (decide (k = k') && decide (a = a')))) := by
 simp only [aBin, eg_fault, if_true, eq_fault]
end Go.Proofs.YtghhkbigmmjanaaGreatDoor.VA

/-! La8 -/
namespace Go.Proofs.YtghhkbigmmjanaaGreatDoor.VA
open Go Go.RowKit
attribute [local go_sem] Nat.add_eq_left Nat.left_eq_add true_and and_true ite_true if_false Int.cast_ofNat_Int eq_self Nat.add_assoc Option.some.injEq decide_true decide_false Bool.not_true Bool.not_false List.size_toArray List.length_cons List.length_nil
set_option linter.unusedSimpArgs false
set_option maxRecDepth 100000

@[go_sem] theorem bxx_eq (v : AV) (id : Nat) : bxx v id = if v.cells.all AV.one = true then some (.val (.ptr id 0) [.box id v.cells] []) else none := rfl
@[go_sem] theorem iad_cons0 (t : TypeId) (n b : Nat) (o : Own) (e : List AV) (es : List (List AV)) : iad (some (t, n, b)) (.sl o (e :: es)) (some 0) = if e.length = n then some (.ep e) else none := rfl
@[go_sem] theorem iad_consS (t : TypeId) (n b i : Nat) (o : Own) (e : List AV) (es : List (List AV)) : iad (some (t, n, b)) (.sl o (e :: es)) (some (i + 1)) = iad (some (t, n, b)) (.sl o es) (some i) := rfl
theorem iad_encTok {t : TypeId} {bs : Nat} {o : Own} (x : Tok) (l : List Tok) : iad (some (t, 3, bs)) (.sl o ((x :: l).map encTok)) (some 0) = some (.ep (encTok x)) := rfl
set_option maxRecDepth 20000 in
theorem c_right (k a : Int) (t : List UInt8) (H : Heap) : calls Tryz.prog cfg 125 [.agg [.lit (.int .i64 k), .lit (.string (ba t)), .lit (.int .i64 a)]] H = some (.ret (.lit (.bool (rightB k t))) H) := by
 refine calls_pure (fn := Tryz.f125) rfl rfl rfl rfl rfl ?_ H
 have rs : Tryz.f125.results.toList = [.tmp 2] := rfl
 generalize hr : rightB k t = r
 unfold rightB at hr
 simp only [go_sem, simprocAttr, rs, c_lex]
 generalize lexAns t = A at hr
 obtain ⟨ts, cd, p⟩ := A
 simp only [go_sem, simprocAttr, encLex, encFault]
 refine W_draw [(12, 14), (21, 23)] (by kernel_rfl) ?_
 by_cases hc : cd = 0
 ·subst hc
  have dc : decide ((0 : Int) = 0) = true := rfl
  cases ts with
  | nil =>
   have hr' : r = false := hr.symm
   simp only [go_sem, simprocAttr, dc, List.map_nil, List.length_nil, hr']
  | cons x ts =>
   cases ts with
   | nil =>
    simp only at hr
    have d1 : decide ((1 : Int) = 1) = true := rfl
    by_cases h1 : (x.kind : Int) = k
    ·have e1 : decide (((x.kind : Nat) : Int) = k) = true := by simp [h1]
     have e2 : decide (ba x.text = ba t) = decide (x.text = t) := by simp [ba_inj]
     have hr' : r = decide (x.text = t) := by rw [← hr, e1, Bool.true_and]
     simp only [go_sem, simprocAttr, dc, d1, List.map_cons, List.map_nil, iad_encTok, encTok, e1, e2, hr']
    ·have e1 : decide (((x.kind : Nat) : Int) = k) = false := by simp [h1]
     have hr' : r = false := by rw [← hr, e1, Bool.false_and]
     simp only [go_sem, simprocAttr, dc, d1, List.map_cons, List.map_nil, iad_encTok, encTok, e1, hr']
   | cons y ts =>
    have hr' : r = false := hr.symm
    have d1 : decide (((ts.length + 1 + 1 : Nat) : Int) = 1) = false := by simp; omega
    simp only [go_sem, simprocAttr, dc, d1, List.map_cons, List.length_map, hr']
 ·have dc : decide (((cd : Nat) : Int) = 0) = false := by simp; omega
  have hr' : r = false := by
   rw [← hr]
   split
   ·rename_i heq; simp at heq; exact absurd heq.2.1 hc
   ·rfl
  simp only [go_sem, simprocAttr, dc, hr']
set_option maxRecDepth 20000 in
theorem c_may (l : List GTok) (hlen : l.length ≤ 9223372036854775806) (o : Own) (H : Heap) : calls Tryz.prog cfg 121 [.sl o (l.map encG)] H = some (.ret (.lit (.bool (l.all rightG))) H) := by
 refine calls_pure (fn := Tryz.f121) rfl rfl rfl rfl rfl ?_ H
 have rs : Tryz.f121.results.toList = [.tmp 2] := rfl
 generalize hr : l.all rightG = r
 simp only [go_sem, simprocAttr, rs, List.length_map]
 refine W_loop_ind (fun k e H => ∃ i : Nat, k = l.length - i ∧ i ≤ l.length ∧ (l.drop i).all rightG = r ∧ gget .bad e 5 = .sl .sh (l.map encG) ∧ gget .bad e 6 = .lit (.int .i64 (l.length : Nat)) ∧ gget .bad e 7 = .lit (.int .i64 (i : Nat)))
  l.length ⟨0, rfl, by omega, hr, by simp only [go_sem, simprocAttr], by simp only [go_sem, simprocAttr], by simp only [go_sem, simprocAttr]⟩ ?_
 rintro k ih e H ⟨i, rfl, hle, hR, h5, h6, h7⟩
 by_cases hlt : i < l.length
 ·have hlt' : decide ((i : Int) < (l.length : Nat)) = true := by simp; omega
  rw [drop_cons' default hlt, List.all_cons] at hR
  have ha := iad_encG (t := 66) (bs := 32) (o := .sh) hlt
  generalize l.getD i default = x at hR ha
  have hw1 := wrap1 (show i + 1 ≤ 9223372036854775807 by omega)
  cases hx : rightG x with
  | true =>
   rw [hx, Bool.true_and] at hR
   have hx' : rightB x.kind x.text = true := hx
   simp only [go_sem, simprocAttr, h5, h6, h7, hlt', ha, encG, c_right, hx', hw1]
   exact ih (l.length - (i + 1)) (by omega) _ _ ⟨i + 1, rfl, by omega, hR, by simp only [go_sem, simprocAttr, h5], by simp only [go_sem, simprocAttr, h6], by simp only [go_sem, simprocAttr]⟩
  | false =>
   rw [hx, Bool.false_and] at hR
   have hx' : rightB x.kind x.text = false := hx
   simp only [go_sem, simprocAttr, h5, h6, h7, hlt', ha, encG, c_right, hx', ← hR]
 ·have hlt' : decide ((i : Int) < (l.length : Nat)) = false := by simp; omega
  rw [List.drop_of_length_le (by omega)] at hR
  have hR' : r = true := hR.symm
  simp only [go_sem, simprocAttr, h5, h6, h7, hlt', hR']
end Go.Proofs.YtghhkbigmmjanaaGreatDoor.VA

/-! Pf -/
namespace Go.Proofs.YtghhkbigmmjanaaGreatDoor.VA
open Go Go.RowKit
set_option linter.unusedSimpArgs false
set_option maxRecDepth 100000

@[go_sem] theorem fl_st0 : tField Tryz.prog 80 0 = some (0, 1, false) := by kernel_rfl
@[go_sem] theorem fl_st1 : tField Tryz.prog 80 1 = some (1, 1, false) := by kernel_rfl
@[go_sem] theorem fl_st2 : tField Tryz.prog 80 2 = some (2, 1, false) := by kernel_rfl
@[go_sem] theorem fl_st3 : tField Tryz.prog 80 3 = some (3, 1, false) := by kernel_rfl
@[go_sem] theorem fl_st4 : tField Tryz.prog 80 4 = some (4, 2, true) := by kernel_rfl
@[go_sem] theorem bl_st : tBuild Tryz.prog 80 = some ([(0, 1), (1, 1), (2, 1), (3, 1), (4, 2)], [.sl .nil [], .lit (.int .i64 0), .lit (.int .i64 0), .lit (.int .i64 0), .lit (.int .i64 0), .lit (.int .i64 0)]) := by kernel_rfl
@[go_sem] theorem zr_st : tZero Tryz.prog 80 = some [.sl .nil [], .lit (.int .i64 0), .lit (.int .i64 0), .lit (.int .i64 0), .lit (.int .i64 0), .lit (.int .i64 0)] := by kernel_rfl
@[go_sem] theorem sz_st : tSize Tryz.prog 80 = some 6 := by kernel_rfl
@[go_sem] theorem ag_st : tAgg Tryz.prog 80 = some true := by kernel_rfl
@[go_sem] theorem fl_opd0 : tField Tryz.prog 50 0 = some (0, 1, false) := by kernel_rfl
@[go_sem] theorem fl_opd1 : tField Tryz.prog 50 1 = some (1, 1, false) := by kernel_rfl
@[go_sem] theorem fl_opd2 : tField Tryz.prog 50 2 = some (2, 1, false) := by kernel_rfl
@[go_sem] theorem bl_opd : tBuild Tryz.prog 50 = some ([(0, 1), (1, 1), (2, 1)], [.lit (.int .i64 0), .lit (.int .i64 0), .lit (.string ⟨#[]⟩)]) := by kernel_rfl
@[go_sem] theorem zr_opd : tZero Tryz.prog 50 = some [.lit (.int .i64 0), .lit (.int .i64 0), .lit (.string ⟨#[]⟩)] := by kernel_rfl
@[go_sem] theorem sz_opd : tSize Tryz.prog 50 = some 3 := by kernel_rfl
@[go_sem] theorem ag_opd : tAgg Tryz.prog 50 = some true := by kernel_rfl
@[go_sem] theorem fl_stm0 : tField Tryz.prog 40 0 = some (0, 1, false) := by kernel_rfl
@[go_sem] theorem fl_stm1 : tField Tryz.prog 40 1 = some (1, 1, false) := by kernel_rfl
@[go_sem] theorem fl_stm2 : tField Tryz.prog 40 2 = some (2, 1, false) := by kernel_rfl
@[go_sem] theorem fl_stm3 : tField Tryz.prog 40 3 = some (3, 1, false) := by kernel_rfl
@[go_sem] theorem fl_stm4 : tField Tryz.prog 40 4 = some (4, 1, false) := by kernel_rfl
@[go_sem] theorem fl_stm5 : tField Tryz.prog 40 5 = some (5, 1, false) := by kernel_rfl
@[go_sem] theorem fl_stm6 : tField Tryz.prog 40 6 = some (6, 1, false) := by kernel_rfl
@[go_sem] theorem fl_stm7 : tField Tryz.prog 40 7 = some (7, 1, false) := by kernel_rfl
@[go_sem] theorem bl_stm : tBuild Tryz.prog 40 = some ([(0, 1), (1, 1), (2, 1), (3, 1), (4, 1), (5, 1), (6, 1), (7, 1)], [.lit (.int .i64 0), .lit (.string ⟨#[]⟩), .lit (.string ⟨#[]⟩), .lit (.string ⟨#[]⟩), .sl .nil [], .sl .nil [], .sl .nil [], .sl .nil []]) := by kernel_rfl
@[go_sem] theorem zr_stm : tZero Tryz.prog 40 = some [.lit (.int .i64 0), .lit (.string ⟨#[]⟩), .lit (.string ⟨#[]⟩), .lit (.string ⟨#[]⟩), .sl .nil [], .sl .nil [], .sl .nil [], .sl .nil []] := by kernel_rfl
@[go_sem] theorem sz_stm : tSize Tryz.prog 40 = some 8 := by kernel_rfl
@[go_sem] theorem ag_stm : tAgg Tryz.prog 40 = some true := by kernel_rfl
@[go_sem] theorem fl_fun0 : tField Tryz.prog 42 0 = some (0, 1, false) := by kernel_rfl
@[go_sem] theorem fl_fun1 : tField Tryz.prog 42 1 = some (1, 1, false) := by kernel_rfl
@[go_sem] theorem fl_fun2 : tField Tryz.prog 42 2 = some (2, 1, false) := by kernel_rfl
@[go_sem] theorem bl_fun : tBuild Tryz.prog 42 = some ([(0, 1), (1, 1), (2, 1)], [.lit (.string ⟨#[]⟩), .sl .nil [], .sl .nil []]) := by kernel_rfl
@[go_sem] theorem zr_fun : tZero Tryz.prog 42 = some [.lit (.string ⟨#[]⟩), .sl .nil [], .sl .nil []] := by kernel_rfl
@[go_sem] theorem sz_fun : tSize Tryz.prog 42 = some 3 := by kernel_rfl
@[go_sem] theorem ag_fun : tAgg Tryz.prog 42 = some true := by kernel_rfl
@[go_sem] theorem fl_prg0 : tField Tryz.prog 24 0 = some (0, 1, false) := by kernel_rfl
@[go_sem] theorem bl_prg : tBuild Tryz.prog 24 = some ([(0, 1)], [.sl .nil []]) := by kernel_rfl
@[go_sem] theorem zr_prg : tZero Tryz.prog 24 = some [.sl .nil []] := by kernel_rfl
@[go_sem] theorem sz_prg : tSize Tryz.prog 24 = some 1 := by kernel_rfl
@[go_sem] theorem ag_prg : tAgg Tryz.prog 24 = some true := by kernel_rfl
@[go_sem] theorem fl_par0 : tField Tryz.prog 77 0 = some (0, 1, false) := by kernel_rfl
@[go_sem] theorem fl_par1 : tField Tryz.prog 77 1 = some (1, 1, false) := by kernel_rfl
@[go_sem] theorem fl_par2 : tField Tryz.prog 77 2 = some (2, 1, false) := by kernel_rfl
@[go_sem] theorem fl_par3 : tField Tryz.prog 77 3 = some (3, 1, false) := by kernel_rfl
@[go_sem] theorem bl_par : tBuild Tryz.prog 77 = some ([(0, 1), (1, 1), (2, 1), (3, 1)], [.sl .nil [], .lit (.int .i64 0), .lit (.int .i64 0), .lit (.int .i64 0)]) := by kernel_rfl
@[go_sem] theorem zr_par : tZero Tryz.prog 77 = some [.sl .nil [], .lit (.int .i64 0), .lit (.int .i64 0), .lit (.int .i64 0)] := by kernel_rfl
@[go_sem] theorem sz_par : tSize Tryz.prog 77 = some 4 := by kernel_rfl
@[go_sem] theorem ag_par : tAgg Tryz.prog 77 = some true := by kernel_rfl
@[go_sem] theorem fl_tro0 : tField Tryz.prog 73 0 = some (0, 2, true) := by kernel_rfl
@[go_sem] theorem bl_tro : tBuild Tryz.prog 73 = some ([(0, 2)], [.lit (.int .i64 0), .lit (.int .i64 0)]) := by kernel_rfl
@[go_sem] theorem zr_tro : tZero Tryz.prog 73 = some [.lit (.int .i64 0), .lit (.int .i64 0)] := by kernel_rfl
@[go_sem] theorem sz_tro : tSize Tryz.prog 73 = some 2 := by kernel_rfl
@[go_sem] theorem ag_tro : tAgg Tryz.prog 73 = some true := by kernel_rfl
@[go_sem] theorem el_sOpd : tElem Tryz.prog 36 = some (50, 3, 32) := by kernel_rfl
@[go_sem] theorem zo_sOpd : zeroOk Tryz.prog 50 3 = true := by kernel_rfl
@[go_sem] theorem el_sStm : tElem Tryz.prog 38 = some (40, 8, 152) := by kernel_rfl
@[go_sem] theorem zo_sStm : zeroOk Tryz.prog 40 8 = true := by kernel_rfl
@[go_sem] theorem el_sFun : tElem Tryz.prog 22 = some (42, 3, 64) := by kernel_rfl
@[go_sem] theorem zo_sFun : zeroOk Tryz.prog 42 3 = true := by kernel_rfl
@[go_sem] theorem sz_sTok : tSize Tryz.prog 45 = some 1 := by kernel_rfl
@[go_sem] theorem ag_sTok : tAgg Tryz.prog 45 = some false := by kernel_rfl
@[go_sem] theorem zr_sTok : tZero Tryz.prog 45 = some [.sl .nil []] := by kernel_rfl
@[go_sem] theorem sz_sStr : tSize Tryz.prog 37 = some 1 := by kernel_rfl
@[go_sem] theorem ag_sStr : tAgg Tryz.prog 37 = some false := by kernel_rfl
@[go_sem] theorem zr_sStr : tZero Tryz.prog 37 = some [.sl .nil []] := by kernel_rfl
@[go_sem] theorem sz_sOpd : tSize Tryz.prog 36 = some 1 := by kernel_rfl
@[go_sem] theorem ag_sOpd : tAgg Tryz.prog 36 = some false := by kernel_rfl
@[go_sem] theorem zr_sOpd : tZero Tryz.prog 36 = some [.sl .nil []] := by kernel_rfl
@[go_sem] theorem sz_sStm : tSize Tryz.prog 38 = some 1 := by kernel_rfl
@[go_sem] theorem ag_sStm : tAgg Tryz.prog 38 = some false := by kernel_rfl
@[go_sem] theorem zr_sStm : tZero Tryz.prog 38 = some [.sl .nil []] := by kernel_rfl
@[go_sem] theorem sz_sFun : tSize Tryz.prog 22 = some 1 := by kernel_rfl
@[go_sem] theorem ag_sFun : tAgg Tryz.prog 22 = some false := by kernel_rfl
@[go_sem] theorem zr_sFun : tZero Tryz.prog 22 = some [.sl .nil []] := by kernel_rfl
@[go_sem] theorem sz_pPar : tSize Tryz.prog 75 = some 1 := by kernel_rfl
@[go_sem] theorem ag_pPar : tAgg Tryz.prog 75 = some false := by kernel_rfl
@[go_sem] theorem zr_pPar : tZero Tryz.prog 75 = some [.lit (.pointer none)] := by kernel_rfl

/-! ### cells of a list, by place -/
def fcode (s : PS) : Nat := match s.f with | none => 0 | some (c, _) => c + 20
def fat (s : PS) : Int := match s.f with | none => 0 | some (_, a) => a
/-- The reference's state. -/
def cS (l : List GTok) (en : Int) (s : PS) : List AV :=
 [.sl .sh (l.map encG), .lit (.int .i64 (s.at_ : Nat)), .lit (.int .i64 en), .lit (.int .i64 (s.cnt : Nat)), .lit (.int .i64 (fcode s : Nat)), .lit (.int .i64 (fat s))]
/-- The parser's. -/
def cP (l : List GTok) (en : Int) (s : PS) : List AV := [.sl .sh (l.map encG), .lit (.int .i64 (s.at_ : Nat)), .lit (.int .i64 en), .lit (.int .i64 (s.cnt : Nat))]
section
variable {l : List GTok} {en : Int} (s : PS)
@[go_sem] theorem cS_len : (cS l en s).length = 6 := rfl
@[go_sem] theorem cS_one : (cS l en s).all AV.one = true := rfl
@[go_sem] theorem cS_take : (cS l en s).take 6 = cS l en s := rfl
@[go_sem] theorem cS_drop : (cS l en s).drop 6 = [] := rfl
@[go_sem] theorem cS_app : cS l en s ++ [] = cS l en s := rfl
@[go_sem] theorem cS_san : sanL (cS l en s) = cS l en s := by simp only [cS, go_sem]
@[go_sem] theorem cS_0 : (cS l en s)[0]? = some (.sl .sh (l.map encG)) := rfl
@[go_sem] theorem cS_1 : (cS l en s)[1]? = some (.lit (.int .i64 (s.at_ : Nat))) := rfl
@[go_sem] theorem cS_2 : (cS l en s)[2]? = some (.lit (.int .i64 en)) := rfl
@[go_sem] theorem cS_3 : (cS l en s)[3]? = some (.lit (.int .i64 (s.cnt : Nat))) := rfl
@[go_sem] theorem cS_4 : (cS l en s)[4]? = some (.lit (.int .i64 (fcode s : Nat))) := rfl
@[go_sem] theorem cS_F : ((cS l en s).drop 4).take 2 = [.lit (.int .i64 (fcode s : Nat)), .lit (.int .i64 (fat s))] := rfl
/-- One token taken. -/
@[go_sem] theorem cS_adv : (cS l en s).take 1 ++ .lit (.int .i64 ((s.at_ + 1 : Nat) : Int)) :: (cS l en s).drop 2 = cS l en s.adv := rfl
@[go_sem] theorem cS_count : (cS l en s).take 3 ++ .lit (.int .i64 ((s.cnt + 1 : Nat) : Int)) :: (cS l en s).drop 4 = cS l en s.count := rfl
@[go_sem] theorem cP_len : (cP l en s).length = 4 := rfl
@[go_sem] theorem cP_one : (cP l en s).all AV.one = true := rfl
@[go_sem] theorem cP_take : (cP l en s).take 4 = cP l en s := rfl
@[go_sem] theorem cP_0 : (cP l en s)[0]? = some (.sl .sh (l.map encG)) := rfl
@[go_sem] theorem cP_1 : (cP l en s)[1]? = some (.lit (.int .i64 (s.at_ : Nat))) := rfl
@[go_sem] theorem cP_2 : (cP l en s)[2]? = some (.lit (.int .i64 en)) := rfl
@[go_sem] theorem cP_3 : (cP l en s)[3]? = some (.lit (.int .i64 (s.cnt : Nat))) := rfl
@[go_sem] theorem cP_adv : (cP l en s).take 1 ++ .lit (.int .i64 ((s.at_ + 1 : Nat) : Int)) :: (cP l en s).drop 2 = cP l en s.adv := rfl
@[go_sem] theorem cP_count : (cP l en s).take 3 ++ .lit (.int .i64 ((s.cnt + 1 : Nat) : Int)) :: (cP l en s).drop 4 = cP l en s.count := rfl
end
@[go_sem] theorem eO_len (o : Opd) : (encOpd o).length = 3 := rfl
@[go_sem] theorem eO_one (o : Opd) : (encOpd o).all AV.one = true := rfl
@[go_sem] theorem eO_take (o : Opd) : (encOpd o).take 3 = encOpd o := rfl
@[go_sem] theorem eO_drop (o : Opd) : (encOpd o).drop 3 = [] := rfl
@[go_sem] theorem eO_app (o : Opd) : encOpd o ++ [] = encOpd o := rfl
@[go_sem] theorem eO_0 (o : Opd) : (encOpd o)[0]? = some (.lit (.int .i64 o.kind)) := rfl
@[go_sem] theorem eO_2 (o : Opd) : (encOpd o)[2]? = some (.lit (.string (ba o.name))) := rfl
@[go_sem] theorem eM_len (s : GStmt) : (encStmt s).length = 8 := by cases s; simp [encStmt]
@[go_sem] theorem eM_one (s : GStmt) : (encStmt s).all AV.one = true := by cases s; simp [encStmt, AV.one, Value.oneCell']
@[go_sem] theorem eM_take (s : GStmt) : (encStmt s).take 8 = encStmt s := by cases s; simp [encStmt]
@[go_sem] theorem eM_drop (s : GStmt) : (encStmt s).drop 8 = [] := by cases s; simp [encStmt]
@[go_sem] theorem eM_app (s : GStmt) : encStmt s ++ [] = encStmt s := by simp
/-- The variable set. -/
@[go_sem] theorem eM_setX (s : GStmt) (x : List UInt8) : (encStmt s).take 1 ++ .lit (.string (ba x)) :: (encStmt s).drop 2 = encStmt (s.setX x) := by cases s; simp [encStmt, GStmt.setX]
@[go_sem] theorem eF_len (f : GFunc) : (encFunc f).length = 3 := rfl
@[go_sem] theorem eF_one (f : GFunc) : (encFunc f).all AV.one = true := rfl
@[go_sem] theorem eF_take (f : GFunc) : (encFunc f).take 3 = encFunc f := rfl
@[go_sem] theorem eF_drop (f : GFunc) : (encFunc f).drop 3 = [] := rfl
@[go_sem] theorem eF_app (f : GFunc) : encFunc f ++ [] = encFunc f := rfl
theorem bs1_opd (o : Opd) : aBuildSlice Tryz.prog 36 1 [(0, .agg (encOpd o))] = some (.sl .ex [encOpd o]) := build1 el_sOpd (by decide) zr_opd rfl rfl _ rfl rfl
theorem bs1_stm (s : GStmt) : aBuildSlice Tryz.prog 38 1 [(0, .agg (encStmt s))] = some (.sl .ex [encStmt s]) := build1 el_sStm (by decide) zr_stm rfl rfl _ (eM_len s) (eM_one s)
theorem bs1_fun (f : GFunc) : aBuildSlice Tryz.prog 22 1 [(0, .agg (encFunc f))] = some (.sl .ex [encFunc f]) := build1 el_sFun (by decide) zr_fun rfl rfl _ rfl rfl
theorem bs1_str (t : List UInt8) : aBuildSlice Tryz.prog 37 1 [(0, .lit (.string (ba t)))] = some (.sl .ex [encStr t]) := build1 (z := [.lit (.string ⟨#[]⟩)]) el_str (by decide) (by kernel_rfl) rfl rfl _ rfl rfl
attribute [go_sem] bs1_opd bs1_stm bs1_fun bs1_str
end Go.Proofs.YtghhkbigmmjanaaGreatDoor.VA

/-! Lp0 -/
namespace Go.Proofs.YtghhkbigmmjanaaGreatDoor.VA
open Go Go.RowKit
set_option linter.unusedSimpArgs false

theorem lexF_len : ∀ (n : Nat) (l : List UInt8) (a : Nat) (ts : List Tok), lexF n l a = .ok ts → ts.length ≤ l.length := by
 intro n
 induction n with
 | zero => intro l a ts h; simp [lexF] at h
 | succ n ih =>
  intro l a ts h
  cases l with
  | nil => simp [lexF] at h; subst h; simp
  | cons b l =>
   have pre : ∀ (x : Tok) (r : LexR) (ts : List Tok), LexR.pre [x] r = .ok ts → ∃ ts', r = .ok ts' ∧ ts.length = ts'.length + 1 := by
    intro x r ts h
    cases r with
    | ok l => simp [LexR.pre] at h; subst h; exact ⟨l, rfl, by simp⟩
    | err a => simp [LexR.pre] at h
   simp only [lexF] at h
   split at h
   ·have := ih _ _ _ h; simp; omega
   ·have := ih _ _ _ h; simp at this ⊢; omega
   ·rename_i hc
    obtain ⟨ts', h1, h2⟩ := pre _ _ _ h
    have := ih _ _ _ h1
    rw [span_pos (cls3 hc)] at this
    simp at this ⊢; omega
   ·rename_i hc
    split at h
    ·obtain ⟨ts', h1, h2⟩ := pre _ _ _ h
     have := ih _ _ _ h1
     rw [span_pos (cls4 hc)] at this
     simp at this ⊢; omega
    ·cases h
   ·obtain ⟨ts', h1, h2⟩ := pre _ _ _ h
    have := ih _ _ _ h1
    simp; omega
   ·cases h
theorem lexAns_len (l : List UInt8) : (lexAns l).1.length ≤ 65536 := by
 unfold lexAns
 split
 ·simp
 ·split
  ·rename_i h1 ts h
   have := lexF_len _ _ _ _ h
   simp; omega
  ·simp
end Go.Proofs.YtghhkbigmmjanaaGreatDoor.VA

/-! Lp1 -/
namespace Go.Proofs.YtghhkbigmmjanaaGreatDoor.VA
open Go Go.RowKit
set_option linter.unusedSimpArgs false

def stops (p : Nat → Bool) (rest : List UInt8) : Prop :=
 match rest with
 | [] => True
 | c :: _ => p c.toNat = false
theorem span_app {p : Nat → Bool} {rest : List UInt8} (h : stops p rest) : ∀ l, span p (l ++ rest) = span p l
 | [] => by
  cases rest with
  | nil => rfl
  | cons c r => rw [List.nil_append, span_cons, span_nil, if_neg (by rw [show p c.toNat = false from h]; simp)]
 | b :: l => by
  rw [List.cons_append, span_cons, span_cons, span_app h l]
theorem stops_digit {rest : List UInt8} (h : stops inWord rest) : stops isDigit rest := by
 cases rest with
 | nil => trivial
 | cons c r =>
  have h' : inWord c.toNat = false := h
  show isDigit c.toNat = false
  cases hd : isDigit c.toNat with
  | false => rfl
  | true => rw [digit_word hd] at h'; cases h'
theorem stops_ends {rest : List UInt8} (h : stops inWord rest) : endsNum rest = true := by
 cases rest with
 | nil => rfl
 | cons c r => have h' : inWord c.toNat = false := h; simp [endsNum, h']
def tokOk (k : Nat) (t : List UInt8) : Prop :=
 (k = 0 ∧ ∃ b l, t = b :: l ∧ cls b.toNat = 3 ∧ span inWord t = t.length) ∨
 (k = 1 ∧ ∃ b l, t = b :: l ∧ cls b.toNat = 4 ∧ span isDigit t = t.length ∧ t.length ≤ 9) ∨
 (k = 2 ∧ ∃ b, t = [b] ∧ cls b.toNat = 5)
theorem lexL_tok {k : Nat} {t rest : List UInt8} {a : Nat} (h : tokOk k t) (hr : stops inWord rest) : lexL (t ++ rest) a = LexR.pre [⟨k, t, a⟩] (lexL rest (a + t.length)) := by
 rcases h with ⟨rfl, b, l, rfl, hc, hs⟩ | ⟨rfl, b, l, rfl, hc, hs, h9⟩ | ⟨rfl, b, rfl, hc⟩
 ·rw [List.cons_append, lexL_word hc, ← List.cons_append, span_app hr, hs, List.take_left' rfl, List.drop_left' rfl]
 ·have hs' := span_app (stops_digit hr) (b :: l)
  rw [hs] at hs'
  rw [List.cons_append, lexL_num hc, ← List.cons_append, hs', List.take_left' rfl, List.drop_left' rfl]
  ·rw [← List.cons_append, hs']; exact h9
  ·rw [← List.cons_append, hs', List.drop_left' rfl]; exact stops_ends hr
 ·exact lexL_sign hc
theorem lexF_text : ∀ (n : Nat) (l : List UInt8) (a : Nat) (ts : List Tok), lexF n l a = .ok ts → ∀ t ∈ ts, t.text.length ≤ l.length := by
 intro n
 induction n with
 | zero => intro l a ts h; simp [lexF] at h
 | succ n ih =>
  intro l a ts h t ht
  cases l with
  | nil => simp [lexF] at h; subst h; simp at ht
  | cons b l =>
   have pre : ∀ (x : Tok) (r : LexR), LexR.pre [x] r = .ok ts → ∃ ts', r = .ok ts' ∧ ts = x :: ts' := by
    intro x r h
    cases r with
    | ok l => simp [LexR.pre] at h; subst h; exact ⟨l, rfl, rfl⟩
    | err a => simp [LexR.pre] at h
   simp only [lexF] at h
   split at h
   ·have := ih _ _ _ h t ht; simp; omega
   ·have := ih _ _ _ h t ht; simp at this ⊢; omega
   ·obtain ⟨ts', h1, rfl⟩ := pre _ _ h
    rcases List.mem_cons.1 ht with rfl | ht
    ·simp; omega
    ·have := ih _ _ _ h1 t ht; simp at this ⊢; omega
   ·split at h
    ·obtain ⟨ts', h1, rfl⟩ := pre _ _ h
     rcases List.mem_cons.1 ht with rfl | ht
     ·simp; omega
     ·have := ih _ _ _ h1 t ht; simp at this ⊢; omega
    ·cases h
   ·obtain ⟨ts', h1, rfl⟩ := pre _ _ h
    rcases List.mem_cons.1 ht with rfl | ht
    ·simp
    ·have := ih _ _ _ h1 t ht; simp at this ⊢; omega
   ·cases h
theorem lexL_text {l : List UInt8} {a : Nat} {ts : List Tok} (h : lexL l a = .ok ts) : ∀ t ∈ ts, t.text.length ≤ l.length := lexF_text _ _ _ _ h
theorem pre_ok {x : Tok} {r : LexR} {ts : List Tok} (h : LexR.pre [x] r = .ok ts) : ∃ ts', r = .ok ts' ∧ ts = x :: ts' := by
 cases r with
 | ok l => simp [LexR.pre] at h; subst h; exact ⟨l, rfl, rfl⟩
 | err a => simp [LexR.pre] at h
theorem lexL_first {s : List UInt8} {a : Nat} {x : Tok} (h : lexL s a = .ok [x]) (hx : x.text = s) : tokOk x.kind s := by
 cases s with
 | nil => rw [lexL_nil] at h; cases h
 | cons b l =>
  have hc := cls_lt b.toNat
  have short : ∀ {l' : List UInt8} {a' : Nat}, l'.length < (b :: l).length → lexL l' a' = .ok [x] → False := fun hl h => by
   have := lexL_text h x (by simp)
   rw [hx] at this; omega
  by_cases c1 : cls b.toNat = 1
  ·rw [lexL_blank c1] at h
   exact (short (by simp) h).elim
  by_cases c2 : cls b.toNat = 2
  ·rw [lexL_remark c2] at h
   refine (short ?_ h).elim
   rw [List.length_drop, span_pos (cls2 c2)]; simp; omega
  by_cases c3 : cls b.toNat = 3
  ·rw [lexL_word c3] at h
   obtain ⟨ts', h1, h2⟩ := pre_ok h
   obtain ⟨rfl, rfl⟩ := List.cons.inj h2
   refine .inl ⟨rfl, b, l, rfl, c3, ?_⟩
   have := congrArg List.length hx
   have hle := span_le inWord (b :: l)
   simp only [List.length_take] at this
   omega
  by_cases c4 : cls b.toNat = 4
  ·by_cases hn : span isDigit (b :: l) ≤ 9 ∧ endsNum ((b :: l).drop (span isDigit (b :: l))) = true
   ·rw [lexL_num c4 hn.1 hn.2] at h
    obtain ⟨ts', h1, h2⟩ := pre_ok h
    obtain ⟨rfl, rfl⟩ := List.cons.inj h2
    have := congrArg List.length hx
    have hle := span_le isDigit (b :: l)
    simp only [List.length_take] at this
    exact .inr (.inl ⟨rfl, b, l, rfl, c4, by omega, by omega⟩)
   ·rw [lexL_notnum c4 hn] at h; cases h
  by_cases c5 : cls b.toNat = 5
  ·rw [lexL_sign c5] at h
   obtain ⟨ts', h1, h2⟩ := pre_ok h
   obtain ⟨rfl, rfl⟩ := List.cons.inj h2
   exact .inr (.inr ⟨rfl, b, hx.symm, c5⟩)
  ·rw [lexL_other (by omega)] at h; cases h
theorem right_tok {K : Int} {t : List UInt8} (h : rightB K t = true) : ∃ k : Nat, K = (k : Int) ∧ tokOk k t ∧ t.length ≤ 65536 := by
 unfold rightB lexAns at h
 by_cases hb : 65536 < t.length
 ·rw [if_pos hb] at h; cases h
 ·rw [if_neg hb] at h
  cases hl : lexL t 0 with
  | err a => rw [hl] at h; cases h
  | ok ts =>
   rw [hl] at h
   simp only at h
   cases ts with
   | nil => cases h
   | cons x ts =>
    cases ts with
    | cons y ts => cases h
    | nil =>
     simp only [Bool.and_eq_true, decide_eq_true_eq] at h
     exact ⟨x.kind, h.1.symm, lexL_first hl h.2, by omega⟩
theorem tok_right {k : Nat} {t : List UInt8} (h : tokOk k t) (hl : t.length ≤ 65536) : rightB (k : Int) t = true := by
 have h1 := lexL_tok (a := 0) (rest := []) h trivial
 rw [List.append_nil, lexL_nil] at h1
 simp only [rightB, lexAns, if_neg (show ¬ 65536 < t.length by omega), h1, LexR.pre]
 simp
theorem word_kind {k : Nat} {t : List UInt8} (h : tokOk k t) (hk : (k : Int) = 0) : tokOk 0 t := by
 have : k = 0 := by omega
 subst this; exact h
/-- LexWords, plain. -/
theorem words_lex {s t : List UInt8} (hs : rightB 0 s = true) (ht : rightB 0 t = true) (hl : s.length ≤ 1000) (hl2 : t.length ≤ 1000) :
  lexAns (s ++ [32] ++ t) = ([⟨0, s, 0⟩, ⟨0, t, s.length + 1⟩], 0, 0) := by
 obtain ⟨k, hk, h1, _⟩ := right_tok hs
 obtain ⟨k', hk', h2, _⟩ := right_tok ht
 have h1 := word_kind h1 hk.symm
 have h2 := word_kind h2 hk'.symm
 have e1 := lexL_tok (a := 0) (rest := [32] ++ t) h1 (by rfl)
 have e2 : lexL ([32] ++ t) (0 + s.length) = lexL t (s.length + 1) := by rw [Nat.zero_add]; exact lexL_blank (by rfl)
 have e3 := lexL_tok (a := s.length + 1) (rest := []) h2 trivial
 rw [List.append_nil, lexL_nil] at e3
 rw [← List.append_assoc] at e1
 rw [e2, e3] at e1
 simp only [lexAns, if_neg (show ¬ 65536 < (s ++ [32] ++ t).length by simp; omega), e1, LexR.pre]
 rfl
end Go.Proofs.YtghhkbigmmjanaaGreatDoor.VA

/-! Pd1 -/
namespace Go.Proofs.YtghhkbigmmjanaaGreatDoor.VA
open Go Go.RowKit
attribute [local go_sem] Nat.add_eq_left Nat.left_eq_add true_and and_true ite_true if_false Int.cast_ofNat_Int eq_self Nat.add_assoc Option.some.injEq decide_true decide_false Bool.not_true Bool.not_false List.size_toArray List.length_cons List.length_nil
set_option linter.unusedSimpArgs false
set_option maxRecDepth 100000

/-! ### a token that may be -/
def okB (k : Int) (c : Nat) : Bool := !((decide (k = 0) && !inWord c) || (decide (k = 1) && !isDigit c) || (decide (k = 2) && !isSign c))
def endB (k : Int) (t : List UInt8) : Bool := bif decide (k = 0) then isLetter (t.getD 0 0).toNat else bif decide (k = 1) then decide (t.length ≤ 9) else decide (k = 2) && decide (t.length = 1)
def rightR (k : Int) (t : List UInt8) : Bool := decide (1 ≤ t.length) && decide (t.length ≤ 65536) && (t.all (fun b => okB k b.toNat) && endB k t)
theorem span_all (p : Nat → Bool) : ∀ (l : List UInt8), span p l = l.length ↔ l.all (fun b => p b.toNat) = true
 | [] => by simp [span_nil]
 | b :: l => by
  rw [span_cons, List.all_cons]
  cases h : p b.toNat with
  | true => simp [span_all p l]
  | false => simp
theorem cls5_iff (n : Nat) : cls n = 5 ↔ isSign n = true := by
 constructor
 ·intro h
  unfold cls at h
  repeat' split at h
  all_goals first | omega | assumption
 ·intro h
  have hm : n ∈ signs := by simpa [isSign] using h
  simp only [signs, List.mem_cons, List.not_mem_nil, or_false] at hm
  rcases hm with rfl | rfl | rfl | rfl | rfl | rfl | rfl | rfl | rfl | rfl | rfl | rfl | rfl | rfl <;> rfl
theorem rightB_R (k : Int) (t : List UInt8) : rightB k t = rightR k t := by
 have key : rightB k t = true ↔ rightR k t = true := by
  constructor
  ·intro h
   obtain ⟨m, rfl, hm, hl⟩ := right_tok h
   have hl' : decide (t.length ≤ 65536) = true := by simpa using hl
   rcases hm with ⟨rfl, b, l, rfl, hc, hs⟩ | ⟨rfl, b, l, rfl, hc, hs, h9⟩ | ⟨rfl, b, rfl, hc⟩
   ·have h3 := (cls3_iff _).1 hc
    have ha := (span_all _ _).1 hs
    simp only [rightR, hl', okB, endB]
    simp at ha ⊢
    exact ⟨ha, h3⟩
   ·have ha := (span_all _ _).1 hs
    simp only [rightR, hl', okB, endB]
    simp at ha h9 ⊢
    exact ⟨ha, h9⟩
   ·have h5 := (cls5_iff _).1 hc
    simp [rightR, okB, endB, h5]
  ·intro h
   simp only [rightR, Bool.and_eq_true, decide_eq_true_eq] at h
   obtain ⟨⟨h1, h2⟩, h3, h4⟩ := h
   cases t with
   | nil => simp at h1
   | cons b l =>
    by_cases k0 : k = 0
    ·subst k0
     simp only [endB, decide_true, cond_true] at h4
     have ha : (b :: l).all (fun b => inWord b.toNat) = true := by simpa [okB] using h3
     exact tok_right (k := 0) (.inl ⟨rfl, b, l, rfl, (cls3_iff _).2 (by simpa using h4), (span_all _ _).2 ha⟩) h2
    ·by_cases k1 : k = 1
     ·subst k1
      have ha : (b :: l).all (fun b => isDigit b.toNat) = true := by simpa [okB] using h3
      have hb : isDigit b.toNat = true := by rw [List.all_cons, Bool.and_eq_true] at ha; exact ha.1
      have h9 : (b :: l).length ≤ 9 := by simpa [endB] using h4
      exact tok_right (k := 1) (.inr (.inl ⟨rfl, b, l, rfl, (cls4_iff _).2 hb, (span_all _ _).2 ha, h9⟩)) h2
     ·by_cases k2 : k = 2
      ·subst k2
       have hl : l = [] := by simpa [endB] using h4
       subst hl
       have hb : isSign b.toNat = true := by simpa [okB] using h3
       exact tok_right (k := 2) (.inr (.inr ⟨rfl, b, rfl, (cls5_iff _).2 hb⟩)) h2
      ·simp [endB, k0, k1, k2] at h4
 cases h : rightB k t with
 | true => exact (key.1 h).symm
 | false =>
  cases h2 : rightR k t with
  | false => rfl
  | true => rw [key.2 h2] at h; cases h
set_option maxRecDepth 20000 in
theorem c_rRight (k a : Int) (t : List UInt8) (H : Heap) : calls Tryz.prog cfg 67 [.agg [.lit (.int .i64 k), .lit (.string (ba t)), .lit (.int .i64 a)]] H = some (.ret (.lit (.bool (rightB k t))) H) := by
 refine calls_pure (fn := Tryz.f67) rfl rfl rfl rfl rfl ?_ H
 have rs : Tryz.f67.results.toList = [.tmp 2] := rfl
 generalize hr : rightB k t = r
 rw [rightB_R, rightR] at hr
 by_cases h1 : 1 ≤ t.length
 ·have d1 : decide (((t.length : Nat) : Int) < 1) = false := by simp; omega
  have d1' : decide (1 ≤ t.length) = true := by simp [h1]
  rw [d1', Bool.true_and] at hr
  by_cases h2 : t.length ≤ 65536
  ·have d2 : decide (65536 < ((t.length : Nat) : Int)) = false := by simp; omega
   have d2' : decide (t.length ≤ 65536) = true := by simp [h2]
   rw [d2', Bool.true_and] at hr
   have hk : (decide (k = 0) = true ∧ decide (k = 1) = false ∧ decide (k = 2) = false) ∨ (decide (k = 0) = false ∧ decide (k = 1) = true ∧ decide (k = 2) = false) ∨
     (decide (k = 0) = false ∧ decide (k = 1) = false ∧ decide (k = 2) = true) ∨ (decide (k = 0) = false ∧ decide (k = 1) = false ∧ decide (k = 2) = false) := by simp; omega
   simp only [go_sem, simprocAttr, rs, ba_size, d1, d2]
   refine W_loop_ind (fun n e H => ∃ i : Nat, n = t.length - i ∧ i ≤ t.length ∧ ((t.drop i).all (fun b => okB k b.toNat) && endB k t) = r ∧ gget .bad e 1 = .ptr 0 0 ∧ gget .bad e 3 = .lit (.int .i64 (i : Nat)) ∧
     H.get 0 = some [.lit (.int .i64 k), .lit (.string (ba t)), .lit (.int .i64 a)]) t.length ⟨0, rfl, by omega, hr, by simp only [go_sem, simprocAttr], by simp only [go_sem, simprocAttr] <;> rfl, by simp only [go_sem, simprocAttr]⟩ ?_
   rintro n ih e H ⟨i, rfl, hle, hR, e1, e3, hg⟩
   by_cases hlt : i < t.length
   ·have hlt' : decide ((i : Int) < (t.length : Nat)) = true := by simp; omega
    have hix := ixs_ba hlt
    rw [drop_cons hlt, List.all_cons] at hR
    generalize t.getD i 0 = b at hix hR
    have hw1 := wrap1 (show i + 1 ≤ 9223372036854775807 by omega)
    simp only [go_sem, simprocAttr, e1, e3, hg, ba_size, hlt', hix]
    have fin : okB k b.toNat = true → W Tryz.prog cfg (.skip) [] e H (fun _ _ _ => True) := fun _ => by simp only [go_sem, simprocAttr]
    rcases hk with ⟨k0, k1, k2⟩ | ⟨k0, k1, k2⟩ | ⟨k0, k1, k2⟩ | ⟨k0, k1, k2⟩
    ·cases hb : inWord b.toNat with
     | true =>
      have ho : okB k b.toNat = true := by simp [okB, k0, k1, k2, hb]
      rw [ho, Bool.true_and] at hR
      simp only [go_sem, simprocAttr, k0, k1, k2, c_rInner, hb, e1, e3, hg, hw1]
      exact ih (t.length - (i + 1)) (by omega) _ _ ⟨i + 1, rfl, by omega, hR, by simp only [go_sem, simprocAttr, e1], by simp only [go_sem, simprocAttr], by simp only [go_sem, simprocAttr, hg]⟩
     | false =>
      have ho : okB k b.toNat = false := by simp [okB, k0, k1, k2, hb]
      rw [ho, Bool.false_and, Bool.false_and] at hR
      simp only [go_sem, simprocAttr, k0, k1, k2, c_rInner, hb, e1, e3, hg, ← hR]
    ·cases hb : isDigit b.toNat with
     | true =>
      have ho : okB k b.toNat = true := by simp [okB, k0, k1, k2, hb]
      rw [ho, Bool.true_and] at hR
      simp only [go_sem, simprocAttr, k0, k1, k2, c_rDigit, hb, e1, e3, hg, hw1]
      exact ih (t.length - (i + 1)) (by omega) _ _ ⟨i + 1, rfl, by omega, hR, by simp only [go_sem, simprocAttr, e1], by simp only [go_sem, simprocAttr], by simp only [go_sem, simprocAttr, hg]⟩
     | false =>
      have ho : okB k b.toNat = false := by simp [okB, k0, k1, k2, hb]
      rw [ho, Bool.false_and, Bool.false_and] at hR
      simp only [go_sem, simprocAttr, k0, k1, k2, c_rDigit, hb, e1, e3, hg, ← hR]
    ·cases hb : isSign b.toNat with
     | true =>
      have ho : okB k b.toNat = true := by simp [okB, k0, k1, k2, hb]
      rw [ho, Bool.true_and] at hR
      simp only [go_sem, simprocAttr, k0, k1, k2, c_rSign, hb, e1, e3, hg, hw1]
      exact ih (t.length - (i + 1)) (by omega) _ _ ⟨i + 1, rfl, by omega, hR, by simp only [go_sem, simprocAttr, e1], by simp only [go_sem, simprocAttr], by simp only [go_sem, simprocAttr, hg]⟩
     | false =>
      have ho : okB k b.toNat = false := by simp [okB, k0, k1, k2, hb]
      rw [ho, Bool.false_and, Bool.false_and] at hR
      simp only [go_sem, simprocAttr, k0, k1, k2, c_rSign, hb, e1, e3, hg, ← hR]
    ·have ho : okB k b.toNat = true := by simp [okB, k0, k1, k2]
     rw [ho, Bool.true_and] at hR
     simp only [go_sem, simprocAttr, k0, k1, k2, e1, e3, hg, hw1]
     exact ih (t.length - (i + 1)) (by omega) _ _ ⟨i + 1, rfl, by omega, hR, by simp only [go_sem, simprocAttr, e1], by simp only [go_sem, simprocAttr], by simp only [go_sem, simprocAttr, hg]⟩
   ·have hlt' : decide ((i : Int) < (t.length : Nat)) = false := by simp; omega
    rw [List.drop_of_length_le (by omega), List.all_nil, Bool.true_and] at hR
    have h0 : 0 < t.length := by omega
    have hix := ixs_ba h0
    simp only [go_sem, simprocAttr, e1, e3, hg, ba_size, hlt']
    rcases hk with ⟨k0, k1, k2⟩ | ⟨k0, k1, k2⟩ | ⟨k0, k1, k2⟩ | ⟨k0, k1, k2⟩
    ·simp only [endB, k0, cond_true] at hR
     simp only [go_sem, simprocAttr, k0, e1, e3, hg, hix, c_rLetter, hR]
    ·have h9 : decide (((t.length : Nat) : Int) ≤ 9) = r := by rw [← hR]; simp only [endB, k0, k1, cond_true, cond_false]; rw [Bool.eq_iff_iff]; simp; omega
     simp only [go_sem, simprocAttr, k0, k1, e1, e3, hg, ba_size, h9]
    ·have h9 : decide (((t.length : Nat) : Int) = 1) = r := by rw [← hR]; simp only [endB, k0, k1, k2, cond_true, cond_false, Bool.true_and]; rw [Bool.eq_iff_iff]; simp; omega
     simp only [go_sem, simprocAttr, k0, k1, k2, e1, e3, hg, ba_size, h9]
    ·have h9 : r = false := by rw [← hR]; simp only [endB, k0, k1, k2, cond_true, cond_false, Bool.false_and]
     simp only [go_sem, simprocAttr, k0, k1, k2, e1, e3, hg, ba_size, h9]
  ·have d2 : decide (65536 < ((t.length : Nat) : Int)) = true := by simp; omega
   have d2' : decide (t.length ≤ 65536) = false := by simp; omega
   have hr' : r = false := by rw [← hr, d2']; rfl
   simp only [go_sem, simprocAttr, rs, ba_size, d1, d2, hr']
 ·have d1 : decide (((t.length : Nat) : Int) < 1) = true := by simp; omega
  have d1' : decide (1 ≤ t.length) = false := decide_eq_false h1
  have hr' : r = false := by rw [← hr, d1']; rfl
  simp only [go_sem, simprocAttr, rs, ba_size, d1, hr']

/-! ### names -/
def kwB (t : List UInt8) : Bool := keyword t
set_option maxRecDepth 20000 in
theorem c_keyword (t : List UInt8) (H : Heap) : calls Tryz.prog cfg 15 [.lit (.string (ba t))] H = some (.ret (.lit (.bool (keyword t))) H) := by
 refine calls_pure (fn := Tryz.f15) rfl rfl rfl rfl rfl ?_ H
 have rs : Tryz.f15.results.toList = [.tmp 2] := rfl
 have hd : ∀ u, decide (ba t = ba u) = (t == u) := fun u => by rw [Bool.eq_iff_iff]; simp [ba_inj]
 generalize hr : keyword t = r
 simp only [keyword, words, List.contains_cons, List.contains_nil] at hr
 simp only [go_sem, simprocAttr, rs, hd]
 cases h1 : (t == [102, 117, 110]) with
 | true => rw [h1] at hr; simp only [go_sem, simprocAttr, Bool.true_or] at hr ⊢; simp only [← hr]
 | false =>
 rw [h1, Bool.false_or] at hr
 simp only [go_sem, simprocAttr, hd]
 cases h2 : (t == [111, 117, 116]) with
 | true => rw [h2] at hr; simp only [go_sem, simprocAttr, Bool.true_or] at hr ⊢; simp only [← hr]
 | false =>
 rw [h2, Bool.false_or] at hr
 simp only [go_sem, simprocAttr, hd]
 cases h3 : (t == [114, 101, 116, 117, 114, 110]) with
 | true => rw [h3] at hr; simp only [go_sem, simprocAttr, Bool.true_or] at hr ⊢; simp only [← hr]
 | false =>
 rw [h3, Bool.false_or] at hr
 simp only [go_sem, simprocAttr, hd]
 cases h4 : (t == [105, 102]) with
 | true => rw [h4] at hr; simp only [go_sem, simprocAttr, Bool.true_or] at hr ⊢; simp only [← hr]
 | false =>
 rw [h4, Bool.false_or] at hr
 simp only [go_sem, simprocAttr, hd]
 cases h5 : (t == [101, 108, 115, 101]) with
 | true => rw [h5] at hr; simp only [go_sem, simprocAttr, Bool.true_or] at hr ⊢; simp only [← hr]
 | false =>
 rw [h5, Bool.false_or] at hr
 simp only [go_sem, simprocAttr, hd]
 cases h6 : (t == [119, 104, 105, 108, 101]) with
 | true => rw [h6] at hr; simp only [go_sem, simprocAttr, Bool.true_or] at hr ⊢; simp only [← hr]
 | false =>
 rw [h6, Bool.false_or] at hr
 simp only [go_sem, simprocAttr, hd]
 cases h7 : (t == [110, 101, 119]) with
 | true => rw [h7] at hr; simp only [go_sem, simprocAttr, Bool.true_or] at hr ⊢; simp only [← hr]
 | false =>
 rw [h7, Bool.false_or] at hr
 simp only [go_sem, simprocAttr, hd]
 cases h8 : (t == [112, 114, 111, 116, 111]) with
 | true => rw [h8] at hr; simp only [go_sem, simprocAttr, Bool.true_or] at hr ⊢; simp only [← hr]
 | false =>
 rw [h8, Bool.false_or] at hr
 simp only [go_sem, simprocAttr, hd]
 cases h9 : (t == [99, 97, 108, 108]) with
 | true => rw [h9] at hr; simp only [go_sem, simprocAttr, Bool.true_or] at hr ⊢; simp only [← hr]
 | false =>
 rw [h9, Bool.false_or] at hr
 simp only [go_sem, simprocAttr, hd]
 cases h10 : (t == [105, 110]) with
 | true => rw [h10] at hr; simp only [go_sem, simprocAttr, Bool.true_or] at hr ⊢; simp only [← hr]
 | false =>
 rw [h10, Bool.false_or] at hr
 simp only [go_sem, simprocAttr, hd]
 cases h11 : (t == [110, 117, 108, 108]) with
 | true => rw [h11] at hr; simp only [go_sem, simprocAttr, Bool.true_or] at hr ⊢; simp only [← hr]
 | false =>
 rw [h11, Bool.false_or] at hr
 simp only [go_sem, simprocAttr, hd]
 cases h12 : (t == [116, 114, 117, 101]) with
 | true => rw [h12] at hr; simp only [go_sem, simprocAttr, Bool.true_or] at hr ⊢; simp only [← hr]
 | false =>
 rw [h12, Bool.false_or] at hr
 simp only [go_sem, simprocAttr, hd]
 cases h13 : (t == [102, 97, 108, 115, 101]) with
 | true => rw [h13] at hr; simp only [go_sem, simprocAttr, Bool.true_or] at hr ⊢; simp only [← hr]
 | false =>
 rw [h13, Bool.false_or] at hr
 simp only [go_sem, simprocAttr, ← hr]
theorem wordsB : aBuildSlice Tryz.prog 37 13 [(0, .lit (.string (ba [102, 117, 110]))), (1, .lit (.string (ba [111, 117, 116]))), (2, .lit (.string (ba [114, 101, 116, 117, 114, 110]))), (3, .lit (.string (ba [105, 102]))),
  (4, .lit (.string (ba [101, 108, 115, 101]))), (5, .lit (.string (ba [119, 104, 105, 108, 101]))), (6, .lit (.string (ba [110, 101, 119]))), (7, .lit (.string (ba [112, 114, 111, 116, 111]))), (8, .lit (.string (ba [99, 97, 108, 108]))),
  (9, .lit (.string (ba [105, 110]))), (10, .lit (.string (ba [110, 117, 108, 108]))), (11, .lit (.string (ba [116, 114, 117, 101]))), (12, .lit (.string (ba [102, 97, 108, 115, 101])))] = some (.sl .ex (words.map encStr)) := by kernel_rfl
theorem iad_encStr {t : TypeId} {bs : Nat} {o : Own} {l : List (List UInt8)} {i : Nat} (h : i < l.length) : iad (some (t, 1, bs)) (.sl o (l.map encStr)) (some i) = some (.ep (encStr (l.getD i []))) := by
 refine iad_some ?_ rfl
 rw [List.getElem?_map, List.getElem?_eq_getElem h, List.getD_eq_getElem?_getD, List.getElem?_eq_getElem h]
 rfl
set_option maxRecDepth 20000 in
theorem c_rKeyword (t : List UInt8) (H : Heap) : calls Tryz.prog cfg 16 [.lit (.string (ba t))] H = some (.ret (.lit (.bool (keyword t))) H) := by
 refine calls_pure (fn := Tryz.f16) rfl rfl rfl rfl rfl ?_ H
 have rs : Tryz.f16.results.toList = [.tmp 2] := rfl
 have hwl : words.length = 13 := rfl
 generalize hr : keyword t = r
 unfold keyword at hr
 simp only [go_sem, simprocAttr, rs, wordsB]
 refine W_loop_ind (fun n e H => ∃ i : Nat, n = words.length - i ∧ i ≤ words.length ∧ (words.drop i).contains t = r ∧ gget .bad e 0 = .lit (.string (ba t)) ∧ gget .bad e 3 = .sl .ex (words.map encStr) ∧ gget .bad e 4 = .lit (.int .i64 (i : Nat)))
  words.length ⟨0, rfl, by omega, hr, by simp only [go_sem, simprocAttr], by simp only [go_sem, simprocAttr], by simp only [go_sem, simprocAttr] <;> rfl⟩ ?_
 generalize words = l at hwl
 rintro n ih e H ⟨i, rfl, hle, hR, e0, e3, e4⟩
 by_cases hlt : i < l.length
 ·have hlt' : decide ((i : Int) < (l.length : Nat)) = true := by simp; omega
  have hix := iad_encStr (t := 9) (bs := 16) (o := .ex) hlt
  rw [drop_cons' [] hlt, List.contains_cons] at hR
  generalize l.getD i [] = b at hix hR
  have hw1 := wrap1 (show i + 1 ≤ 9223372036854775807 by omega)
  have hd : decide (ba b = ba t) = (t == b) := by rw [Bool.eq_iff_iff]; simp [ba_inj]; exact eq_comm
  simp only [go_sem, simprocAttr, e0, e3, e4, List.length_map, hlt', hix, encStr, hd]
  cases hb : (t == b) with
  | true =>
   rw [hb, Bool.true_or] at hR
   simp only [go_sem, simprocAttr, ← hR]
  | false =>
   rw [hb, Bool.false_or] at hR
   simp only [go_sem, simprocAttr, e0, e3, e4, hw1]
   exact ih (l.length - (i + 1)) (by omega) _ _ ⟨i + 1, rfl, by omega, hR, by simp only [go_sem, simprocAttr, e0], by simp only [go_sem, simprocAttr, e3], by simp only [go_sem, simprocAttr]⟩
 ·have hlt' : decide ((i : Int) < (l.length : Nat)) = false := by simp; omega
  rw [List.drop_of_length_le (by omega), List.contains_nil] at hR
  simp only [go_sem, simprocAttr, e0, e3, e4, List.length_map, hlt', ← hR]
theorem c_rName (t : List UInt8) (H : Heap) : calls Tryz.prog cfg 40 [.lit (.string (ba t))] H = some (.ret (.lit (.bool (rightB 0 t && !keyword t))) H) := by
 refine calls_pure (fn := Tryz.f40) rfl rfl rfl rfl rfl ?_ H
 have rs : Tryz.f40.results.toList = [.tmp 2] := rfl
 simp only [go_sem, simprocAttr, rs, c_rRight]
 cases rightB 0 t with
 | true => simp only [go_sem, simprocAttr, c_rKeyword, Bool.true_and]
 | false => simp only [go_sem, simprocAttr, Bool.false_and]
end Go.Proofs.YtghhkbigmmjanaaGreatDoor.VA

/-! Pd2 -/
namespace Go.Proofs.YtghhkbigmmjanaaGreatDoor.VA
open Go Go.RowKit
attribute [local go_sem] Nat.add_eq_left Nat.left_eq_add true_and and_true ite_true if_false Int.cast_ofNat_Int eq_self Nat.add_assoc Option.some.injEq decide_true decide_false Bool.not_true Bool.not_false List.size_toArray List.length_cons List.length_nil
set_option linter.unusedSimpArgs false
set_option maxRecDepth 100000

theorem tk_bad {l : List GTok} {s : PS} {q : Nat × Int} (h : s.f = some q) : tk l s = none := by simp [tk, h]
theorem tk_end {l : List GTok} {s : PS} (h : ¬ s.at_ < l.length) : tk l s = none := by
 unfold tk
 split
 ·exact List.getElem?_eq_none (by omega)
 ·rfl
theorem tk_in {l : List GTok} {s : PS} (hf : s.f = none) (h : s.at_ < l.length) : tk l s = some (l.getD s.at_ default) := by
 simp only [tk, hf]
 rw [List.getD_eq_getElem?_getD, List.getElem?_eq_getElem h]
 rfl
theorem ok_none {s : PS} (h : s.f = none) : s.ok = true := by simp [PS.ok, h]
theorem ok_some {s : PS} {q : Nat × Int} (h : s.f = some q) : s.ok = false := by simp [PS.ok, h]
theorem f_none {s : PS} (h : s.ok = true) : s.f = none := by simpa [PS.ok] using h
section
variable {l : List GTok} {en : Int}
theorem c_rOk (s : PS) (H : Heap) : calls Tryz.prog cfg 59 [.agg (cS l en s)] H = some (.ret (.lit (.bool s.ok)) H) := by
 refine calls_pure (fn := Tryz.f59) rfl rfl rfl rfl rfl ?_ H
 have rs : Tryz.f59.results.toList = [.tmp 2] := rfl
 have d : decide (((fcode s : Nat) : Int) = 0) = s.ok := by
  unfold fcode PS.ok
  cases s.f with
  | none => rfl
  | some q => obtain ⟨c, a⟩ := q; simp; omega
 simp only [go_sem, simprocAttr, rs, d]
theorem fail_cells (s : PS) (code : Nat) (p : Int) : (cS l en s).take 4 ++ [.lit (.int .i64 ((code + 20 : Nat) : Int)), .lit (.int .i64 p)] = cS l en { s with f := some (code, p) } := rfl
set_option maxRecDepth 20000 in
theorem c_rFail (s : PS) (code : Nat) (H : Heap) : calls Tryz.prog cfg 87 [.agg (cS l en s), .lit (.int .i64 ((code + 20 : Nat) : Int))] H = some (.ret (.agg (cS l en (pfail l en s code))) H) := by
 refine calls_pure (fn := Tryz.f87) rfl rfl rfl rfl rfl ?_ H
 have rs : Tryz.f87.results.toList = [.cell 4 80] := rfl
 have hcode : IntKind.wrap .i64 0 = 0 := rfl
 generalize hkk : ((code + 20 : Nat) : Int) = kk
 cases hf : s.f with
 | some q =>
  have hr : pfail l en s code = s := by simp only [pfail, hf]
  simp only [go_sem, simprocAttr, rs, c_rOk, ok_some hf, hr]
 | none =>
  have hr : pfail l en s code = { s with f := some (code, place l en s.at_) } := by simp only [pfail, hf]
  have hc : ∀ p, (cS l en s).take 4 ++ [.lit (.int .i64 kk), .lit (.int .i64 p)] = cS l en { s with f := some (code, p) } := fun p => by rw [← hkk]; exact fail_cells s code p
  rw [hr]
  by_cases hlt : s.at_ < l.length
  ·have hlt' : decide ((s.at_ : Int) < (l.length : Nat)) = true := by simp; omega
   have ha := iad_encG (t := 66) (bs := 32) (o := .sh) hlt
   have hp : place l en s.at_ = (l.getD s.at_ default).at_ := by simp only [place, hlt, if_true]
   rw [hp]
   simp only [go_sem, simprocAttr, rs, c_rOk, ok_none hf, List.length_map, hlt', ha, encG, hc]
  ·have hlt' : decide ((s.at_ : Int) < (l.length : Nat)) = false := by simp; omega
   have hp : place l en s.at_ = en := by simp only [place, hlt, if_false]
   rw [hp]
   simp only [go_sem, simprocAttr, rs, c_rOk, ok_none hf, List.length_map, hlt', hc]
theorem c_rFail0 (s : PS) (H : Heap) : calls Tryz.prog cfg 87 [.agg (cS l en s), .lit (.int .i64 20)] H = some (.ret (.agg (cS l en (pfail l en s 0))) H) := c_rFail s 0 H
theorem c_rFail1 (s : PS) (H : Heap) : calls Tryz.prog cfg 87 [.agg (cS l en s), .lit (.int .i64 21)] H = some (.ret (.agg (cS l en (pfail l en s 1))) H) := c_rFail s 1 H
theorem c_rFail2 (s : PS) (H : Heap) : calls Tryz.prog cfg 87 [.agg (cS l en s), .lit (.int .i64 22)] H = some (.ret (.agg (cS l en (pfail l en s 2))) H) := c_rFail s 2 H
set_option maxRecDepth 20000 in
theorem c_rIs (s : PS) (t : List UInt8) (H : Heap) : calls Tryz.prog cfg 88 [.agg (cS l en s), .lit (.string (ba t))] H = some (.ret (.lit (.bool (isT l s t))) H) := by
 refine calls_pure (fn := Tryz.f88) rfl rfl rfl rfl rfl ?_ H
 have rs : Tryz.f88.results.toList = [.tmp 4] := rfl
 generalize hr : isT l s t = r
 unfold isT at hr
 cases hf : s.f with
 | some q =>
  rw [tk_bad hf] at hr
  have hr' : r = false := hr.symm
  simp only [go_sem, simprocAttr, rs, c_rOk, ok_some hf, hr']
 | none =>
  by_cases hlt : s.at_ < l.length
  ·have hlt' : decide ((s.at_ : Int) < (l.length : Nat)) = true := by simp; omega
   have ha := iad_encG (t := 66) (bs := 32) (o := .sh) hlt
   rw [tk_in hf hlt] at hr
   generalize l.getD s.at_ default = x at ha hr
   have hr' : (rightB x.kind x.text && decide (x.text = t) && !decide (x.kind = 1)) = r := hr
   have hd : decide (ba x.text = ba t) = decide (x.text = t) := by simp [ba_inj]
   simp only [go_sem, simprocAttr, rs, c_rOk, ok_none hf, List.length_map, hlt', ha, encG, c_rRight]
   cases h1 : rightB x.kind x.text with
   | false =>
    rw [h1, Bool.false_and, Bool.false_and] at hr'
    simp only [go_sem, simprocAttr, ← hr']
   | true =>
    rw [h1, Bool.true_and] at hr'
    simp only [go_sem, simprocAttr, List.length_map, ha, encG, hd]
    cases h2 : decide (x.text = t) with
    | false =>
     rw [h2, Bool.false_and] at hr'
     simp only [go_sem, simprocAttr, ← hr']
    | true =>
     rw [h2, Bool.true_and] at hr'
     simp only [go_sem, simprocAttr, List.length_map, ha, encG, hr']
  ·have hlt' : decide ((s.at_ : Int) < (l.length : Nat)) = false := by simp; omega
   rw [tk_end hlt] at hr
   have hr' : r = false := hr.symm
   simp only [go_sem, simprocAttr, rs, c_rOk, ok_none hf, List.length_map, hlt', hr']
theorem at_wrap (hlen : l.length ≤ LM) {s : PS} (h : s.at_ < l.length) : IntKind.wrap .i64 ((s.at_ : Int) + 1) = ((s.at_ + 1 : Nat) : Int) := wrap1 (by unfold LM at hlen; omega)
theorem isT_at {s : PS} {t : List UInt8} (h : isT l s t = true) : s.at_ < l.length := by obtain ⟨x, h1, _⟩ := isT_some h; exact (tk_some h1).2.2.1
theorem isName_at {s : PS} (h : isName l s = true) : s.at_ < l.length := by obtain ⟨x, h1, _⟩ := isName_some h; exact (tk_some h1).2.2.1
theorem c_rNeed (hlen : l.length ≤ LM) (s : PS) (t : List UInt8) (H : Heap) : calls Tryz.prog cfg 61 [.agg (cS l en s), .lit (.string (ba t))] H = some (.ret (.agg (cS l en (need l en s t))) H) := by
 refine calls_pure (fn := Tryz.f61) rfl rfl rfl rfl rfl ?_ H
 have rs : Tryz.f61.results.toList = [.cell 4 80] := rfl
 cases h : isT l s t with
 | true =>
  have hw := at_wrap hlen (isT_at h)
  have hr : need l en s t = s.adv := by simp only [need, h]
  simp only [go_sem, simprocAttr, rs, c_rIs, h, hw, hr]
 | false =>
  have hr : need l en s t = pfail l en s 0 := by simp only [need, h]
  simp only [go_sem, simprocAttr, rs, c_rIs, h, c_rFail0, hr]
set_option maxRecDepth 20000 in
theorem c_rIsName (s : PS) (H : Heap) : calls Tryz.prog cfg 86 [.agg (cS l en s)] H = some (.ret (.lit (.bool (isName l s))) H) := by
 refine calls_pure (fn := Tryz.f86) rfl rfl rfl rfl rfl ?_ H
 have rs : Tryz.f86.results.toList = [.tmp 2] := rfl
 generalize hr : isName l s = r
 unfold isName at hr
 cases hf : s.f with
 | some q =>
  rw [tk_bad hf] at hr
  have hr' : r = false := hr.symm
  simp only [go_sem, simprocAttr, rs, c_rOk, ok_some hf, hr']
 | none =>
  by_cases hlt : s.at_ < l.length
  ·have hlt' : decide ((s.at_ : Int) < (l.length : Nat)) = true := by simp; omega
   have ha := iad_encG (t := 66) (bs := 32) (o := .sh) hlt
   rw [tk_in hf hlt] at hr
   generalize l.getD s.at_ default = x at ha hr
   have hr' : (rightB x.kind x.text && decide (x.kind = 0) && !keyword x.text) = r := hr
   by_cases h0 : x.kind = 0
   ·have d0 : decide (x.kind = 0) = true := by simp [h0]
    rw [h0] at hr'
    have hr' : (rightB 0 x.text && !keyword x.text) = r := by rw [← hr']; simp
    simp only [go_sem, simprocAttr, rs, c_rOk, ok_none hf, List.length_map, hlt', ha, encG, d0, c_rName, hr']
   ·have d0 : decide (x.kind = 0) = false := by simp [h0]
    have hr2 : r = false := by rw [← hr', d0, Bool.and_false, Bool.false_and]
    simp only [go_sem, simprocAttr, rs, c_rOk, ok_none hf, List.length_map, hlt', ha, encG, d0, hr2]
  ·have hlt' : decide ((s.at_ : Int) < (l.length : Nat)) = false := by simp; omega
   rw [tk_end hlt] at hr
   have hr' : r = false := hr.symm
   simp only [go_sem, simprocAttr, rs, c_rOk, ok_none hf, List.length_map, hlt', hr']
theorem c_rName2 (hlen : l.length ≤ LM) (s : PS) (H : Heap) : calls Tryz.prog cfg 60 [.agg (cS l en s)] H =
  some (.ret (.tup [.agg (cS l en (nameP l en s).1), .lit (.string (ba (nameP l en s).2))]) H) := by
 refine calls_pure (fn := Tryz.f60) rfl rfl rfl rfl rfl ?_ H
 have rs : Tryz.f60.results.toList = [.cell 2 80, .tmp 3] := rfl
 cases h : isName l s with
 | true =>
  have hlt := isName_at h
  have hw := at_wrap hlen hlt
  have hr : nameP l en s = (s.adv, (l.getD s.at_ default).text) := by simp only [nameP, h, text]
  have ha := iad_encG (t := 66) (bs := 32) (o := .sh) hlt
  have hwb : IntKind.wrap .i64 (((s.at_ + 1 : Nat) : Int) - 1) = (s.at_ : Nat) := by unfold LM at hlen; rw [wrap64 (by omega) (by omega)]; omega
  have hadv : s.adv.at_ = s.at_ + 1 := rfl
  rw [hr]
  generalize l.getD s.at_ default = x at ha
  simp only [go_sem, simprocAttr, rs, c_rIsName, h, hw]
  refine W_draw [(0, 2), (0, 4), (2, 4), (0, 8), (2, 9), (4, 9), (8, 9)] (by kernel_rfl) ?_
  simp only [go_sem, simprocAttr, rs, hadv, hwb, ha, encG]
 | false =>
  have hr : nameP l en s = (pfail l en s 0, []) := by simp only [nameP, h]
  rw [hr]
  simp only [go_sem, simprocAttr, rs, c_rIsName, h, c_rFail0]
end
end Go.Proofs.YtghhkbigmmjanaaGreatDoor.VA

/-! Pd3 -/
namespace Go.Proofs.YtghhkbigmmjanaaGreatDoor.VA
open Go Go.RowKit
attribute [local go_sem] Nat.add_eq_left Nat.left_eq_add true_and and_true ite_true if_false Int.cast_ofNat_Int eq_self Nat.add_assoc Option.some.injEq decide_true decide_false Bool.not_true Bool.not_false List.size_toArray List.length_cons List.length_nil
set_option linter.unusedSimpArgs false
set_option maxRecDepth 100000

/-! ### numbers -/
theorem numOf_snoc (t : List UInt8) (b : UInt8) : numOf (t ++ [b]) = 10 * numOf t + (b.toNat - 48) := by simp [numOf]
theorem numOf_lt : ∀ (n : Nat) (t : List UInt8), t.length = n → t.all (fun b => isDigit b.toNat) = true → numOf t < 10 ^ n
 | 0, t, h, _ => by rw [List.eq_nil_of_length_eq_zero h]; simp [numOf]
 | n + 1, t, h, hd => by
  have hne : t ≠ [] := by intro e; rw [e] at h; cases h
  rw [← List.dropLast_concat_getLast hne] at hd ⊢
  rw [numOf_snoc]
  rw [List.all_append, Bool.and_eq_true] at hd
  have h1 := numOf_lt n t.dropLast (by rw [List.length_dropLast, h]; rfl) hd.1
  have h2 : isDigit (t.getLast hne).toNat = true := by simpa using hd.2
  simp only [isDigit, Bool.and_eq_true, decide_eq_true_eq] at h2
  rw [Nat.pow_succ]
  omega
theorem right_num {x : GTok} (h : rightG x = true) (hk : x.kind = 1) : x.text.all (fun b => isDigit b.toNat) = true ∧ 1 ≤ x.text.length ∧ x.text.length ≤ 9 := by
 have h' : rightR x.kind x.text = true := by rw [← rightB_R]; exact h
 rw [hk] at h'
 simp only [rightR, Bool.and_eq_true, decide_eq_true_eq] at h'
 obtain ⟨⟨h1, h2⟩, h3, h4⟩ := h'
 exact ⟨by simpa [okB] using h3, h1, by simpa [endB] using h4⟩
section
variable {l : List GTok} {en : Int}
set_option maxRecDepth 20000 in
theorem c_rOperand (hlen : l.length ≤ LM) (s : PS) (H : Heap) : calls Tryz.prog cfg 105 [.agg (cS l en s)] H =
  some (.ret (.tup [.agg (cS l en (operand l en s).1), .agg (encOpd (operand l en s).2)]) H) := by
 refine calls_pure (fn := Tryz.f105) rfl rfl rfl rfl rfl ?_ H
 have rs : Tryz.f105.results.toList = [.cell 2 80, .cell 3 50] := rfl
 generalize hr : operand l en s = r
 unfold operand at hr
 have hd : ∀ a b : List UInt8, decide (ba a = ba b) = (a == b) := fun a b => by rw [Bool.eq_iff_iff]; simp [ba_inj]
 have hmN : ba tNull = ba [110, 117, 108, 108] := rfl
 have hmT : ba tTrue = ba [116, 114, 117, 101] := rfl
 have hmF : ba tFalse = ba [102, 97, 108, 115, 101] := rfl
 cases h1 : isT l s [110, 117, 108, 108] with
 | true =>
  obtain ⟨x, hx, hx1, hx2, hx3⟩ := isT_some h1
  have hlt := isT_at h1
  have hw := at_wrap hlen hlt
  have ha := iad_encG (t := 66) (bs := 32) (o := .sh) hlt
  rw [(tk_some hx).2.2.2] at ha
  have d : (([110, 117, 108, 108] : List UInt8) == [110, 117, 108, 108]) = true := rfl
  have hr' : r = (s.adv, ⟨0, 0, []⟩) := by rw [← hr, show isT l s tNull = true from h1]
  have e0 : ([.lit (.int .i64 0), .lit (.int .i64 0), .lit (.string (ba []))] : List AV) = encOpd ⟨0, 0, []⟩ := rfl
  simp only [go_sem, simprocAttr, rs, c_rIs, h1, ha, encG, hx2, hd, d, hw, hr', e0]
 | false =>
 rw [show isT l s tNull = false from h1] at hr
 simp only at hr
 cases h2 : isT l s [116, 114, 117, 101] with
 | true =>
  obtain ⟨x, hx, hx1, hx2, hx3⟩ := isT_some h2
  have hlt := isT_at h2
  have hw := at_wrap hlen hlt
  have ha := iad_encG (t := 66) (bs := 32) (o := .sh) hlt
  rw [(tk_some hx).2.2.2] at ha
  have d : (([116, 114, 117, 101] : List UInt8) == [110, 117, 108, 108]) = false := rfl
  have d2 : (([116, 114, 117, 101] : List UInt8) == [116, 114, 117, 101]) = true := rfl
  have hr' : r = (s.adv, ⟨1, 1, []⟩) := by rw [← hr, show isT l s tTrue = true from h2]
  have e0 : ([.lit (.int .i64 1), .lit (.int .i64 1), .lit (.string (ba []))] : List AV) = encOpd ⟨1, 1, []⟩ := rfl
  simp only [go_sem, simprocAttr, rs, c_rIs, h1, h2, ha, encG, hx2, hd, d, d2, hw, hr', e0]
  refine W_draw [(0, 1), (1, 2)] (by kernel_rfl) ?_
  simp only [go_sem, simprocAttr, rs, e0]
 | false =>
 rw [show isT l s tTrue = false from h2] at hr
 simp only at hr
 cases h3 : isT l s [102, 97, 108, 115, 101] with
 | true =>
  obtain ⟨x, hx, hx1, hx2, hx3⟩ := isT_some h3
  have hlt := isT_at h3
  have hw := at_wrap hlen hlt
  have ha := iad_encG (t := 66) (bs := 32) (o := .sh) hlt
  rw [(tk_some hx).2.2.2] at ha
  have d : (([102, 97, 108, 115, 101] : List UInt8) == [110, 117, 108, 108]) = false := rfl
  have d2 : (([102, 97, 108, 115, 101] : List UInt8) == [116, 114, 117, 101]) = false := rfl
  have hr' : r = (s.adv, ⟨1, 0, []⟩) := by rw [← hr, show isT l s tFalse = true from h3]
  have e0 : ([.lit (.int .i64 1), .lit (.int .i64 0), .lit (.string (ba []))] : List AV) = encOpd ⟨1, 0, []⟩ := rfl
  simp only [go_sem, simprocAttr, rs, c_rIs, h1, h2, h3, ha, encG, hx2, hd, d, d2, hw, hr', e0]
  refine W_draw [(0, 1), (1, 2)] (by kernel_rfl) ?_
  simp only [go_sem, simprocAttr, rs, e0]
 | false =>
 rw [show isT l s tFalse = false from h3] at hr
 simp only at hr
 have nameC := c_rName2 (en := en) hlen
 cases h4 : isT l s [38] with
 | true =>
  have hw := at_wrap hlen (isT_at h4)
  rw [h4] at hr
  simp only at hr
  have e0 : ([.lit (.int .i64 3), .lit (.int .i64 0), .lit (.string (ba (nameP l en s.adv).2))] : List AV) = encOpd ⟨3, 0, (nameP l en s.adv).2⟩ := rfl
  simp only [go_sem, simprocAttr, rs, c_rIs, h1, h2, h3, h4, hw, nameC, e0, ← hr]
 | false =>
 rw [h4] at hr
 simp only at hr
 have e4 : ([.lit (.int .i64 4), .lit (.int .i64 0), .lit (.string (ba (nameP l en s).2))] : List AV) = encOpd ⟨4, 0, (nameP l en s).2⟩ := rfl
 have last : isNum l s = false → r = ((nameP l en s).1, ⟨4, 0, (nameP l en s).2⟩) := fun h => by rw [← hr, h]
 have hk : ∀ x, tk l s = some x → isNum l s = (rightG x && decide (x.kind = 1)) := fun x hx => by simp only [isNum, hx]
 cases hf : s.f with
 | some q =>
  have hn : isNum l s = false := by simp only [isNum, tk_bad hf]
  simp only [go_sem, simprocAttr, rs, c_rIs, h1, h2, h3, h4, c_rOk, ok_some hf, nameC, e4, last hn]
 | none =>
  by_cases hlt : s.at_ < l.length
  ·have hlt' : decide ((s.at_ : Int) < (l.length : Nat)) = true := by simp; omega
   have hx := tk_in hf hlt
   have ha := iad_encG (t := 66) (bs := 32) (o := .sh) hlt
   have htx : text l s = (l.getD s.at_ default).text := rfl
   generalize hxx : l.getD s.at_ default = x at hx ha htx
   have hk := hk x hx
   by_cases k1 : x.kind = 1
   ·have d1 : decide (x.kind = 1) = true := by simp [k1]
    rw [d1, Bool.and_true] at hk
    cases hg : rightB x.kind x.text with
    | true =>
     obtain ⟨n1, n2, n3⟩ := right_num (x := x) hg k1
     have hn : isNum l s = true := by rw [hk]; exact hg
     rw [hn, htx] at hr
     simp only at hr
     have hw := at_wrap hlen hlt
     simp only [go_sem, simprocAttr, rs, c_rIs, h1, h2, h3, h4, c_rOk, ok_none hf, List.length_map, hlt', ha, encG, d1, c_rRight, hg]
     refine W_loop_ind (fun n e H => ∃ i : Nat, n = x.text.length - i ∧ i ≤ x.text.length ∧ gget .bad e 1 = .ptr 0 0 ∧ gget .bad e 2 = .ptr 1 0 ∧ gget .bad e 3 = .ptr 2 0 ∧ gget .bad e 8 = .lit (.int .i64 (numOf (x.text.take i) : Nat)) ∧
       gget .bad e 9 = .lit (.string (ba x.text)) ∧ gget .bad e 10 = .lit (.int .i64 (i : Nat)) ∧ H.get 0 = some (cS l en s) ∧ (∃ c0, H.get 1 = some c0 ∧ c0.length = 6) ∧ H.get 2 = some [.lit (.int .i64 0), .lit (.int .i64 0), .lit (.string (ba []))])
      x.text.length ⟨0, rfl, by omega, by simp only [go_sem, simprocAttr], by simp only [go_sem, simprocAttr], by simp only [go_sem, simprocAttr], by simp only [go_sem, simprocAttr] <;> rfl, by simp only [go_sem, simprocAttr], by simp only [go_sem, simprocAttr] <;> rfl, by simp only [go_sem, simprocAttr], ⟨_, by simp only [go_sem, simprocAttr] <;> rfl, rfl⟩, by simp only [go_sem, simprocAttr]⟩ ?_
     rintro n ih e H ⟨i, rfl, hle, q1, q2, q3, q8, q9, q10, g0, ⟨c0, g1, g1l⟩, g2⟩
     by_cases hi : i < x.text.length
     ·have hi' : decide ((i : Int) < (x.text.length : Nat)) = true := by simp; omega
      have hix := ixs_ba hi
      have hbd : isDigit (x.text.getD i 0).toNat = true := by
       rw [List.getD_eq_getElem?_getD, List.getElem?_eq_getElem hi]
       exact List.all_eq_true.1 n1 _ (List.getElem_mem hi)
      have htk : x.text.take (i + 1) = x.text.take i ++ [x.text.getD i 0] := by
       rw [List.take_succ_eq_append_getElem hi, List.getD_eq_getElem?_getD, List.getElem?_eq_getElem hi]; rfl
      have hb1 : numOf (x.text.take i) < 10 ^ i := numOf_lt i _ (by rw [List.length_take]; omega) (by
       rw [List.all_eq_true] at n1 ⊢
       exact fun y hy => n1 y (List.mem_of_mem_take hy))
      have hb2 : 10 ^ i ≤ 10 ^ 9 := Nat.pow_le_pow_right (by decide) (by omega)
      generalize x.text.getD i 0 = b at hix hbd htk
      generalize hm : numOf (x.text.take i) = m at hb1 q8
      simp only [isDigit, Bool.and_eq_true, decide_eq_true_eq] at hbd
      have w1 : IntKind.wrap .i64 (10 * (m : Int)) = ((10 * m : Nat) : Int) := by rw [wrap64 (by omega) (by omega)]; omega
      have w2 : IntKind.wrap .u8 ((b.toNat : Int) - 48) = ((b.toNat - 48 : Nat) : Int) := by simp only [IntKind.wrap, IntKind.bits, IntKind.signed]; simp; omega
      have w3 : IntKind.wrap .i64 ((b.toNat - 48 : Nat) : Int) = ((b.toNat - 48 : Nat) : Int) := wrap64 (by omega) (by omega)
      have w4 := wrapN (a := 10 * m) (b := b.toNat - 48) (by omega)
      have w5 := wrap1 (show i + 1 ≤ 9223372036854775807 by omega)
      have hnn : numOf (x.text.take (i + 1)) = 10 * m + (b.toNat - 48) := by rw [htk, numOf_snoc, hm]
      simp only [go_sem, simprocAttr, q1, q2, q3, q8, q9, q10, g0, g1, g2, ba_size, hi', hix, w1, w2, w3, w4, w5]
      exact ih (x.text.length - (i + 1)) (by omega) _ _ ⟨i + 1, rfl, by omega, by simp only [go_sem, simprocAttr, q1], by simp only [go_sem, simprocAttr, q2], by simp only [go_sem, simprocAttr, q3], by simp only [go_sem, simprocAttr, hnn], by simp only [go_sem, simprocAttr, q9], by simp only [go_sem, simprocAttr], by simp only [go_sem, simprocAttr, g0],
       ⟨c0, by simp only [go_sem, simprocAttr, g1], g1l⟩, by simp only [go_sem, simprocAttr, g2]⟩
     ·have hi' : decide ((i : Int) < (x.text.length : Nat)) = false := by simp; omega
      have htk : x.text.take i = x.text := List.take_of_length_le (by omega)
      rw [htk] at q8
      have e2 : ([.lit (.int .i64 2), .lit (.int .i64 ((numOf x.text : Nat) : Int)), .lit (.string (ba []))] : List AV) = encOpd ⟨2, (numOf x.text : Nat), []⟩ := rfl
      have c6 : c0.drop 6 = [] := List.drop_of_length_le (by omega)
      have c7 : 6 ≤ c0.length := by omega
      simp only [go_sem, simprocAttr, rs, q1, q2, q3, q8, q9, q10, g0, g1, g2, ba_size, hi', hw, c6, c7, e2, ← hr]
    | false =>
     have hn : isNum l s = false := by rw [hk]; exact hg
     simp only [go_sem, simprocAttr, rs, c_rIs, h1, h2, h3, h4, c_rOk, ok_none hf, List.length_map, hlt', ha, encG, d1, c_rRight, hg, nameC, e4, last hn]
   ·have d1 : decide (x.kind = 1) = false := by simp [k1]
    have hn : isNum l s = false := by rw [hk, d1, Bool.and_false]
    simp only [go_sem, simprocAttr, rs, c_rIs, h1, h2, h3, h4, c_rOk, ok_none hf, List.length_map, hlt', ha, encG, d1, nameC, e4, last hn]
  ·have hlt' : decide ((s.at_ : Int) < (l.length : Nat)) = false := by simp; omega
   have hn : isNum l s = false := by simp only [isNum, tk_end hlt]
   simp only [go_sem, simprocAttr, rs, c_rIs, h1, h2, h3, h4, c_rOk, ok_none hf, List.length_map, hlt', nameC, e4, last hn]
end
end Go.Proofs.YtghhkbigmmjanaaGreatDoor.VA

/-! Pd4 -/
namespace Go.Proofs.YtghhkbigmmjanaaGreatDoor.VA
open Go Go.RowKit
attribute [local go_sem] Nat.add_eq_left Nat.left_eq_add true_and and_true ite_true if_false Int.cast_ofNat_Int eq_self Nat.add_assoc Option.some.injEq decide_true decide_false Bool.not_true Bool.not_false List.size_toArray List.length_cons List.length_nil
set_option linter.unusedSimpArgs false
set_option maxRecDepth 100000

section
variable {l : List GTok} {en : Int}
/-- How many rounds are left. -/
def ms (l : List GTok) (s : PS) : Nat := if s.ok = true then l.length - s.at_ + 1 else 0
theorem ms_lt {s s' : PS} (h : Lt1 l s s') (hk : s.ok = true) : ms l s' < ms l s := by
 unfold ms
 rw [if_pos hk]
 by_cases hk' : s'.ok = true
 ·obtain ⟨_, h2, h3⟩ := h hk'
  rw [if_pos hk']; omega
 ·rw [if_neg hk']; omega
theorem ms_le (s : PS) : ms l s ≤ l.length + 1 := by unfold ms; split <;> omega
theorem ms_FN (hlen : l.length ≤ LM) (s : PS) : ms l s < FN := by have := ms_le (l := l) s; unfold LM at hlen; unfold FN; omega
theorem listF_bad {X : Type} (one : PS → X → PS × X) (end_ : List UInt8) {s : PS} (h : s.ok = false) (x : X) : ∀ n, listF l en one end_ n s x = (s, x)
 | 0 => rfl
 | n + 1 => by simp only [listF, h]
theorem listF_end {X : Type} {one : PS → X → PS × X} {end_ : List UInt8} {s : PS} {x : X} {n : Nat} (h : s.ok = true) (hn : ms l s < n) (h2 : isT l (one s x).1 end_ = true) : listF l en one end_ n s x = ((one s x).1.adv, (one s x).2) := by
 obtain ⟨n, rfl⟩ : ∃ k, n = k + 1 := ⟨n - 1, by omega⟩
 simp only [listF, h, h2]
theorem listF_more {X : Type} {one : PS → X → PS × X} {end_ : List UInt8} {s : PS} {x : X} {n : Nat} (h : s.ok = true) (hn : ms l s < n) (h2 : isT l (one s x).1 end_ = false) :
  ∃ k, n = k + 1 ∧ listF l en one end_ n s x = listF l en one end_ k (need l en (one s x).1 [44]) (one s x).2 := by
 obtain ⟨k, rfl⟩ : ∃ k, n = k + 1 := ⟨n - 1, by omega⟩
 exact ⟨k, rfl, by simp only [listF, h, h2]⟩
theorem app_opd (hlen : l.length ≤ LM) {acc : List Opd} (h : acc.length ≤ l.length + 5) (o : Own) (x : Opd) (H : Heap) (id : Nat) (ho : AppOk H o acc.length 50 3) :
  aAppend Tryz.prog 36 (.sl o (acc.map encOpd)) (.sl .ex [encOpd x]) H id = some (.sl (.own id 50 3) ((acc ++ [x]).map encOpd), ownUs o id, ownRs o) := by
 rw [append_any el_sOpd zo_sOpd (by decide) (by simp; unfold LM at hlen; omega) (by simp; unfold LM at hlen; omega) (by rfl) H id (by simpa using ho)]
 simp [sanLL, sanL_encOpd]
theorem app_str (hlen : l.length ≤ LM) {acc : List (List UInt8)} (h : acc.length ≤ l.length + 5) (o : Own) (x : List UInt8) (H : Heap) (id : Nat) (ho : AppOk H o acc.length 9 1) :
  aAppend Tryz.prog 37 (.sl o (acc.map encStr)) (.sl .ex [encStr x]) H id = some (.sl (.own id 9 1) ((acc ++ [x]).map encStr), ownUs o id, ownRs o) := by
 rw [append_any el_str zo_str (by decide) (by simp; unfold LM at hlen; omega) (by simp; unfold LM at hlen; omega) (by rfl) H id (by simpa using ho)]
 simp [sanLL, sanL_encStr]
theorem bs0_opd : aBuildSlice Tryz.prog 36 0 [] = some (.sl .ex []) := build0 el_sOpd zr_opd rfl rfl
theorem bs0_stm : aBuildSlice Tryz.prog 38 0 [] = some (.sl .ex []) := build0 el_sStm zr_stm rfl rfl
theorem bs0_str : aBuildSlice Tryz.prog 37 0 [] = some (.sl .ex []) := build0 (z := [.lit (.string ⟨#[]⟩)]) el_str (by kernel_rfl) rfl rfl
set_option maxRecDepth 20000 in
theorem c_rArgs (hlen : l.length ≤ LM) (s : PS) (H : Heap) : calls Tryz.prog cfg 117 [.agg (cS l en s)] H =
  some (.ret (.tup [.agg (cS l en (args l en s).1), .sl .sh ((args l en s).2.map encOpd)]) H) := by
 refine calls_pure (fn := Tryz.f117) rfl rfl rfl rfl rfl ?_ H
 have rs : Tryz.f117.results.toList = [.cell 2 80, .tmp 3] := rfl
 generalize hr : args l en s = r
 unfold args listP at hr
 have hlt := need_lt (l := l) (en := en) s [40]
 simp only [go_sem, simprocAttr, rs, bs0_opd, c_rNeed hlen, c_rIs]
 generalize need l en s [40] = s at hr hlt
 have hneed : ∀ (s : PS) (t : List UInt8), isT l s t = true → need l en s t = s.adv := fun s t h => by simp only [need, h]
 cases h : isT l s [41] with
 | true =>
  rw [h] at hr
  simp only [go_sem, simprocAttr, rs, c_rNeed hlen, hneed s _ h, ← hr, List.map_nil]
 | false =>
  rw [h] at hr
  simp only [go_sem, simprocAttr]
  refine W_loop_ind (fun n e H => ∃ (s : PS) (acc : List (Opd)) (o : Own) (k : Nat), n = ms l s ∧ ms l s < k ∧ listF l en (oneArg l en) [41] k s acc = r ∧ (s.ok = true → acc.length ≤ s.at_ ∧ s.at_ ≤ l.length) ∧
    gget .bad e 1 = .ptr 0 0 ∧ gget .bad e 2 = .ptr 1 0 ∧ gget .bad e 4 = .sl o (acc.map encOpd) ∧ H.get 0 = some (cS l en s) ∧ H.get 1 = some [.sl .nil [], .lit (.int .i64 0), .lit (.int .i64 0), .lit (.int .i64 0), .lit (.int .i64 0), .lit (.int .i64 0)] ∧ 2 ≤ H.next ∧ AppOk H o acc.length 50 3)
   (ms l s) ⟨s, [], .ex, FN, rfl, ms_FN hlen s, hr, fun hk => ⟨by simp, (hlt hk).2.2⟩, by simp only [go_sem, simprocAttr], by simp only [go_sem, simprocAttr], by simp only [go_sem, simprocAttr, List.map_nil], by simp only [go_sem, simprocAttr], by simp only [go_sem, simprocAttr], by simp only [go_sem, simprocAttr], by simp only [go_sem, simprocAttr]⟩ ?_
  clear hlt h hr s
  rintro n ih e H ⟨s, acc, o, k, rfl, hk, hr, hb, e1, e2, e4, g0, g1, hnx, ho⟩
  obtain ⟨m, hm⟩ : ∃ m, H.next = m + 2 := ⟨H.next - 2, by omega⟩
  cases hok : s.ok with
  | false =>
   rw [listF_bad _ _ hok] at hr
   simp only [go_sem, simprocAttr, rs, e1, e2, e4, g0, g1, hm, c_rOk, hok, ← hr, sanLL_encOpd]
  | true =>
   obtain ⟨hb1, hb2⟩ := hb hok
   have hap := fun o x H id h => app_opd hlen (acc := acc) (by omega) o x H id h
   have hlt := operand_lt (l := l) (en := en) s
   have hone : oneArg l en s acc = ((operand l en s).1, acc ++ [(operand l en s).2]) := rfl
   cases h : isT l (operand l en s).1 [41] with
   | true =>
    have hr' : ((operand l en s).1.adv, acc ++ [(operand l en s).2]) = r := by rw [← hr, listF_end hok hk h]; rfl
    simp only [go_sem, simprocAttr, rs, e1, e2, e4, g0, g1, hm, c_rOk, hok, c_rOperand hlen, hap, ho, c_rIs, h, c_rNeed hlen, hneed _ _ h, ← hr', sanLL_encOpd]
   | false =>
    obtain ⟨k, rfl, h2⟩ := listF_more (one := oneArg l en) (x := acc) hok hk h
    rw [h2] at hr
    have hlt2 := hlt.trans_le (need_lt (en := en) _ [44]).le
    have hms := ms_lt hlt2 hok
    simp only [go_sem, simprocAttr, rs, e1, e2, e4, g0, g1, hm, c_rOk, hok, c_rOperand hlen, hap, ho, c_rIs, h, c_rNeed hlen]
    exact ih _ hms _ _ ⟨_, _, _, k, rfl, by omega, hr, fun hk' => by have := hlt2 hk'; simp [oneArg]; omega, by simp only [go_sem, simprocAttr, e1], by simp only [go_sem, simprocAttr, e2], by simp only [go_sem, simprocAttr, oneArg] <;> rfl, by simp only [go_sem, simprocAttr, oneArg], by simp only [go_sem, simprocAttr, g1], by simp only [go_sem, simprocAttr, hm], by simp only [go_sem, simprocAttr]⟩
set_option maxRecDepth 20000 in
theorem c_rNames (hlen : l.length ≤ LM) (s : PS) (H : Heap) : calls Tryz.prog cfg 62 [.agg (cS l en s)] H =
  some (.ret (.tup [.agg (cS l en (names l en s).1), .sl .sh ((names l en s).2.map encStr)]) H) := by
 refine calls_pure (fn := Tryz.f62) rfl rfl rfl rfl rfl ?_ H
 have rs : Tryz.f62.results.toList = [.cell 2 80, .tmp 3] := rfl
 generalize hr : names l en s = r
 unfold names listP at hr
 have hlt := need_lt (l := l) (en := en) s [40]
 simp only [go_sem, simprocAttr, rs, bs0_str, c_rNeed hlen, c_rIs]
 generalize need l en s [40] = s at hr hlt
 have hneed : ∀ (s : PS) (t : List UInt8), isT l s t = true → need l en s t = s.adv := fun s t h => by simp only [need, h]
 cases h : isT l s [41] with
 | true =>
  rw [h] at hr
  simp only [go_sem, simprocAttr, rs, c_rNeed hlen, hneed s _ h, ← hr, List.map_nil]
 | false =>
  rw [h] at hr
  simp only [go_sem, simprocAttr]
  refine W_loop_ind (fun n e H => ∃ (s : PS) (acc : List (List UInt8)) (o : Own) (k : Nat), n = ms l s ∧ ms l s < k ∧ listF l en (oneName l en) [41] k s acc = r ∧ (s.ok = true → acc.length ≤ s.at_ ∧ s.at_ ≤ l.length) ∧
    gget .bad e 1 = .ptr 0 0 ∧ gget .bad e 2 = .ptr 1 0 ∧ gget .bad e 4 = .sl o (acc.map encStr) ∧ H.get 0 = some (cS l en s) ∧ H.get 1 = some [.sl .nil [], .lit (.int .i64 0), .lit (.int .i64 0), .lit (.int .i64 0), .lit (.int .i64 0), .lit (.int .i64 0)] ∧ 2 ≤ H.next ∧ AppOk H o acc.length 9 1)
   (ms l s) ⟨s, [], .ex, FN, rfl, ms_FN hlen s, hr, fun hk => ⟨by simp, (hlt hk).2.2⟩, by simp only [go_sem, simprocAttr], by simp only [go_sem, simprocAttr], by simp only [go_sem, simprocAttr, List.map_nil], by simp only [go_sem, simprocAttr], by simp only [go_sem, simprocAttr], by simp only [go_sem, simprocAttr], by simp only [go_sem, simprocAttr]⟩ ?_
  clear hlt h hr s
  rintro n ih e H ⟨s, acc, o, k, rfl, hk, hr, hb, e1, e2, e4, g0, g1, hnx, ho⟩
  obtain ⟨m, hm⟩ : ∃ m, H.next = m + 2 := ⟨H.next - 2, by omega⟩
  cases hok : s.ok with
  | false =>
   rw [listF_bad _ _ hok] at hr
   simp only [go_sem, simprocAttr, rs, e1, e2, e4, g0, g1, hm, c_rOk, hok, ← hr, sanLL_encStr]
  | true =>
   obtain ⟨hb1, hb2⟩ := hb hok
   have hap := fun o x H id h => app_str hlen (acc := acc) (by omega) o x H id h
   have hlt := nameP_lt (l := l) (en := en) s
   have hone : oneName l en s acc = ((nameP l en s).1, acc ++ [(nameP l en s).2]) := rfl
   cases h : isT l (nameP l en s).1 [41] with
   | true =>
    have hr' : ((nameP l en s).1.adv, acc ++ [(nameP l en s).2]) = r := by rw [← hr, listF_end hok hk h]; rfl
    simp only [go_sem, simprocAttr, rs, e1, e2, e4, g0, g1, hm, c_rOk, hok, c_rName2 hlen, hap, ho, c_rIs, h, c_rNeed hlen, hneed _ _ h, ← hr', sanLL_encStr]
   | false =>
    obtain ⟨k, rfl, h2⟩ := listF_more (one := oneName l en) (x := acc) hok hk h
    rw [h2] at hr
    have hlt2 := hlt.trans_le (need_lt (en := en) _ [44]).le
    have hms := ms_lt hlt2 hok
    simp only [go_sem, simprocAttr, rs, e1, e2, e4, g0, g1, hm, c_rOk, hok, c_rName2 hlen, hap, ho, c_rIs, h, c_rNeed hlen]
    exact ih _ hms _ _ ⟨_, _, _, k, rfl, by omega, hr, fun hk' => by have := hlt2 hk'; simp [oneName]; omega, by simp only [go_sem, simprocAttr, e1], by simp only [go_sem, simprocAttr, e2], by simp only [go_sem, simprocAttr, oneName] <;> rfl, by simp only [go_sem, simprocAttr, oneName], by simp only [go_sem, simprocAttr, g1], by simp only [go_sem, simprocAttr, hm], by simp only [go_sem, simprocAttr]⟩
end
end Go.Proofs.YtghhkbigmmjanaaGreatDoor.VA

/-! Pd5 -/
namespace Go.Proofs.YtghhkbigmmjanaaGreatDoor.VA
open Go Go.RowKit
attribute [local go_sem] Nat.add_eq_left Nat.left_eq_add true_and and_true ite_true if_false Int.cast_ofNat_Int eq_self Nat.add_assoc Option.some.injEq decide_true decide_false Bool.not_true Bool.not_false List.size_toArray List.length_cons List.length_nil
set_option linter.unusedSimpArgs false
set_option maxRecDepth 100000

section
variable {l : List GTok} {en : Int}
theorem need_bad {s : PS} (h : s.ok = false) (t : List UInt8) : need l en s t = s := by
 obtain ⟨a, c, f⟩ := s
 cases f with
 | none => cases h
 | some q => rfl
theorem AppOk_owns' {H : Heap} {o o' : Own} {id n : Nat} {e : TypeId} {sz : Nat} (hne : ∀ k e z, o' = .own k e z → ∀ k' e' z', o = .own k' e' z' → k ≠ k') (hid : ∀ k e z, o = .own k e z → k < id) :
  AppOk (appU H (ownUs o' id)) o n e sz = AppOk H o n e sz := by
 cases o with
 | own k e' z =>
  have h4 := hid k e' z rfl
  have key : (appU H (ownUs o' id)).isLive k = H.isLive k := by
   cases o' with
   | own k2 e2 z2 =>
    have h5 := hne k2 e2 z2 rfl k e' z rfl
    simp only [ownUs, appU, U.app, Heap.isLive_setLive]
    rw [if_neg (by omega), if_neg h5]
   | _ =>
    simp only [ownUs, appU, U.app, Heap.isLive_setLive]
    rw [if_neg (by omega)]
  simp only [AppOk, OwnOk, key]
 | nil => rfl
 | sh => rfl
 | ex => rfl
theorem need_yes {s : PS} {t : List UInt8} (h : isT l s t = true) : need l en s t = s.adv := by simp only [need, h]
set_option maxRecDepth 20000 in
theorem c_rObject (hlen : l.length ≤ LM) (s : PS) (H : Heap) : calls Tryz.prog cfg 118 [.agg (cS l en s)] H =
  some (.ret (.tup [.agg (cS l en (object l en s).1), .agg (encStmt (object l en s).2)]) H) := by
 refine calls_pure (fn := Tryz.f118) rfl rfl rfl rfl rfl ?_ H
 have rs : Tryz.f118.results.toList = [.cell 2 80, .cell 3 40] := rfl
 generalize hr : propsP l en s = r
 have hobj : object l en s = ((protoP l en r.1).1, .mk 4 [] [] [] (r.2.2 ++ [(protoP l en r.1).2]) r.2.1 [] []) := by rw [← hr]; rfl
 rw [hobj]
 clear hobj
 unfold propsP listP at hr
 have hlt := need_lt (l := l) (en := en) s [123]
 simp only [go_sem, simprocAttr, rs, c_rNeed hlen, c_rIs]
 generalize need l en s [123] = s at hr hlt
 refine W_loop_ind (fun n e H => ∃ (s : PS) (ns : List (List UInt8)) (aa : List Opd) (oP oA : Own) (done : Bool), n = (bif done then 0 else ms l s) ∧
   ((done = true ∧ isT l s [125] = true ∧ (s.adv, ns, aa) = r) ∨ (done = false ∧ ∃ k, ms l s < k ∧ listF l en (oneProp l en) [125] k s (ns, aa) = r)) ∧
   (s.ok = true → ns.length ≤ s.at_ ∧ aa.length ≤ s.at_ ∧ s.at_ ≤ l.length) ∧ aa.length ≤ l.length + 1 ∧
   gget .bad e 1 = .ptr 0 0 ∧ gget .bad e 2 = .ptr 1 0 ∧ gget .bad e 3 = .ptr 2 0 ∧ gget .bad e 4 = .ptr 4 0 ∧ gget .bad e 5 = .lit (.bool done) ∧ H.get 0 = some (cS l en s) ∧ H.get 1 = some [.sl .nil [], .lit (.int .i64 0), .lit (.int .i64 0), .lit (.int .i64 0), .lit (.int .i64 0), .lit (.int .i64 0)] ∧ H.get 2 = some [.lit (.int .i64 0), .lit (.string (ba [])), .lit (.string (ba [])), .lit (.string (ba [])), .sl .nil [], .sl .nil [], .sl .nil [], .sl .nil []] ∧
   H.get 4 = some [.lit (.int .i64 4), .lit (.string (ba [])), .lit (.string (ba [])), .lit (.string (ba [])), .sl oA (aa.map encOpd), .sl oP (ns.map encStr), .sl .nil [], .sl .nil []] ∧
   5 ≤ H.next ∧ AppOk H oP ns.length 9 1 ∧ AppOk H oA aa.length 50 3 ∧ (∀ k e z, oP = .own k e z → ∀ k' e' z', oA = .own k' e' z' → k ≠ k') ∧ (∀ k e z, oP = .own k e z → k < H.next) ∧ (∀ k e z, oA = .own k e z → k < H.next))
  (bif isT l s [125] then 0 else ms l s) ⟨s, [], [], .nil, .nil, isT l s [125], rfl, ?_, fun hk => ⟨by simp, by simp, (hlt hk).2.2⟩, by simp, by simp only [go_sem, simprocAttr], by simp only [go_sem, simprocAttr], by simp only [go_sem, simprocAttr], by simp only [go_sem, simprocAttr], by simp only [go_sem, simprocAttr], by simp only [go_sem, simprocAttr], by simp only [go_sem, simprocAttr], by simp only [go_sem, simprocAttr],
   by simp only [go_sem, simprocAttr, List.map_nil], by simp only [go_sem, simprocAttr], by simp only [go_sem, simprocAttr], by simp only [go_sem, simprocAttr], (fun _ _ _ h => by cases h), (fun _ _ _ h => by cases h), (fun _ _ _ h => by cases h)⟩ ?_
 ·cases h : isT l s [125] with
  | true => rw [h] at hr; exact .inl ⟨rfl, rfl, hr⟩
  | false => rw [h] at hr; exact .inr ⟨rfl, FN, ms_FN hlen s, hr⟩
 clear hlt hr s
 rintro n ih e H ⟨s, ns, aa, oP, oA, done, rfl, hr, hb, hb4, e1, e2, e3, e4, e5, g0, g1, g2, g4, hnx, hoP, hoA, hne, hlP, hlA⟩
 obtain ⟨m, hm⟩ : ∃ m, H.next = m + 5 := ⟨H.next - 5, by omega⟩
 have tail : ∀ o, ([.lit (.int .i64 4), .lit (.string (ba [])), .lit (.string (ba [])), .lit (.string (ba [])), .sl .sh ((aa ++ [o]).map encOpd), .sl .sh (ns.map encStr), .sl .sh [], .sl .sh []] : List AV) = encStmt (.mk 4 [] [] [] (aa ++ [o]) ns [] []) := fun o => by simp only [encStmt, encStmts] <;> rfl
 have hapA := fun aa (h : aa.length ≤ l.length + 5) o x H id ho => app_opd hlen (acc := aa) h o x H id ho
 have hapP := fun ns (h : ns.length ≤ l.length + 5) o x H id ho => app_str hlen (acc := ns) h o x H id ho
 have hapA' := hapA aa (by omega)
 cases hok : s.ok with
 | false =>
  have hd : done = false := by
   cases done with
   | false => rfl
   | true =>
    rcases hr with ⟨_, h, _⟩ | ⟨h, _⟩
    ·obtain ⟨x, h2, _⟩ := isT_some h
     rw [(tk_some h2).2.1] at hok; cases hok
    ·cases h
  subst hd
  rcases hr with ⟨h, _⟩ | ⟨_, k, hk, hr⟩
  ·cases h
  rw [listF_bad _ _ hok] at hr
  subst hr
  simp only [go_sem, simprocAttr, rs, e1, e2, e3, e4, e5, g0, g1, g2, g4, hm, c_rOk, hok, c_rNeed hlen, need_bad hok, c_rOperand hlen, hapA', hoA]
  refine W_draw [(0, 1), (1, 2)] (by kernel_rfl) ?_
  simp only [go_sem, simprocAttr, rs, e1, e2, e3, e4, g0, g1, g2, hm, protoP, tProto, need_bad hok, tail]
 | true =>
  obtain ⟨hb1, hb2, hb3⟩ := hb hok
  cases done with
  | true =>
   rcases hr with ⟨_, h, hr⟩ | ⟨h, _⟩
   ·subst hr
    simp only [go_sem, simprocAttr, rs, e1, e2, e3, e4, e5, g0, g1, g2, g4, hm, c_rOk, hok, c_rNeed hlen, need_yes h, c_rOperand hlen, hapA', hoA]
    refine W_draw [(0, 1), (1, 2)] (by kernel_rfl) ?_
    simp only [go_sem, simprocAttr, rs, e1, e2, e3, e4, g0, g1, g2, hm, protoP, tProto, tail]
   ·cases h
  | false =>
   rcases hr with ⟨h, _⟩ | ⟨_, k, hk, hr⟩
   ·cases h
   have hapP' := hapP ns (by omega)
   have hAo : ∀ (H : Heap), AppOk (appU H (ownUs oP (m + 33))) oA aa.length 50 3 = AppOk H oA aa.length 50 3 := fun H => AppOk_owns' hne (fun k e z hk => by have := hlA k e z hk; omega)
   have hlt := oneProp_lt (l := l) (en := en) s (ns, aa)
   have hbn : (oneProp l en s (ns, aa)).1.ok = true → (oneProp l en s (ns, aa)).2.1.length ≤ (oneProp l en s (ns, aa)).1.at_ ∧ (oneProp l en s (ns, aa)).2.2.length ≤ (oneProp l en s (ns, aa)).1.at_ ∧ (oneProp l en s (ns, aa)).1.at_ ≤ l.length := fun hk' => by
    obtain ⟨_, h1, h2⟩ := hlt hk'
    have h3 : (oneProp l en s (ns, aa)).2.1.length = ns.length + 1 := by simp [oneProp]
    have h4 : (oneProp l en s (ns, aa)).2.2.length = aa.length + 1 := by simp [oneProp]
    omega
   have hba : (oneProp l en s (ns, aa)).2.2.length ≤ l.length + 1 := by simp [oneProp]; omega
   have ho1 : ∀ (k : Nat) (e : TypeId) (z : Nat) (k' : Nat) (e' : TypeId) (z' : Nat), Own.own k e z = .own k' e' z' → k = k' := fun k e z k' e' z' h => by cases h; rfl
   have hPo : ∀ (H : Heap) (n : Nat), AppOk (appU H (ownUs oA (m + 40))) (.own (m + 33) 9 1) n 9 1 = AppOk H (.own (m + 33) 9 1) n 9 1 := fun H n =>
    AppOk_owns' (fun k e z hk k' e' z' hk' => by have := hlA k e z hk; cases hk'; omega) (fun k e z hk => by cases hk; omega)
   cases h : isT l (operand l en (need l en (nameP l en s).1 [58])).1 [125] with
   | true =>
    have hr' := (listF_end (one := oneProp l en) (x := (ns, aa)) hok hk h).symm.trans hr
    simp only [go_sem, simprocAttr, rs, e1, e2, e3, e4, e5, g0, g1, g2, g4, hm, c_rOk, hok, c_rName2 hlen, c_rNeed hlen, c_rOperand hlen, c_rIs, h, hapP', hoP, hapA', hoA, hAo]
    exact ih 0 (by have := ms_lt hlt hok; simp; omega) _ _ ⟨(oneProp l en s (ns, aa)).1, (oneProp l en s (ns, aa)).2.1, (oneProp l en s (ns, aa)).2.2, _, _, true, rfl, .inl ⟨rfl, h, hr'⟩, hbn, hba, by simp only [go_sem, simprocAttr, e1], by simp only [go_sem, simprocAttr, e2], by simp only [go_sem, simprocAttr, e3], by simp only [go_sem, simprocAttr, e4],
     by simp only [go_sem, simprocAttr], by simp only [go_sem, simprocAttr, oneProp], by simp only [go_sem, simprocAttr, g1], by simp only [go_sem, simprocAttr, g2], by simp only [go_sem, simprocAttr, oneProp] <;> rfl, by simp only [go_sem, simprocAttr, hm], by simp only [go_sem, simprocAttr, oneProp, hPo], by simp only [go_sem, simprocAttr, oneProp],
     (fun k e z h k' e' z' h' => by have := ho1 _ _ _ _ _ _ h; have := ho1 _ _ _ _ _ _ h'; omega), (fun k e z h => by have := ho1 _ _ _ _ _ _ h; simp only [go_sem, simprocAttr, hm]; omega), (fun k e z h => by have := ho1 _ _ _ _ _ _ h; simp only [go_sem, simprocAttr, hm]; omega)⟩
   | false =>
    obtain ⟨k, rfl, h2⟩ := listF_more (one := oneProp l en) (x := (ns, aa)) hok hk h
    rw [h2] at hr
    have hlt2 := hlt.trans_le (need_lt (en := en) _ [44]).le
    have hms := ms_lt hlt2 hok
    have hbn2 : (need l en (oneProp l en s (ns, aa)).1 [44]).ok = true → (oneProp l en s (ns, aa)).2.1.length ≤ (need l en (oneProp l en s (ns, aa)).1 [44]).at_ ∧ (oneProp l en s (ns, aa)).2.2.length ≤ (need l en (oneProp l en s (ns, aa)).1 [44]).at_ ∧
      (need l en (oneProp l en s (ns, aa)).1 [44]).at_ ≤ l.length := fun hk' => by
     obtain ⟨q1, q2, q3⟩ := (need_lt (l := l) (en := en) _ [44]) hk'
     obtain ⟨q4, q5, q6⟩ := hbn q1
     omega
    simp only [go_sem, simprocAttr, rs, e1, e2, e3, e4, e5, g0, g1, g2, g4, hm, c_rOk, hok, c_rName2 hlen, c_rNeed hlen, c_rOperand hlen, c_rIs, h, hapP', hoP, hapA', hoA, hAo]
    exact ih _ hms _ _ ⟨need l en (oneProp l en s (ns, aa)).1 [44], (oneProp l en s (ns, aa)).2.1, (oneProp l en s (ns, aa)).2.2, _, _, false, rfl, .inr ⟨rfl, k, by omega, hr⟩, hbn2, hba, by simp only [go_sem, simprocAttr, e1], by simp only [go_sem, simprocAttr, e2], by simp only [go_sem, simprocAttr, e3], by simp only [go_sem, simprocAttr, e4],
     by simp only [go_sem, simprocAttr], by simp only [go_sem, simprocAttr, oneProp], by simp only [go_sem, simprocAttr, g1], by simp only [go_sem, simprocAttr, g2], by simp only [go_sem, simprocAttr, oneProp] <;> rfl, by simp only [go_sem, simprocAttr, hm], by simp only [go_sem, simprocAttr, oneProp, hPo], by simp only [go_sem, simprocAttr, oneProp],
     (fun k e z h k' e' z' h' => by have := ho1 _ _ _ _ _ _ h; have := ho1 _ _ _ _ _ _ h'; omega), (fun k e z h => by have := ho1 _ _ _ _ _ _ h; simp only [go_sem, simprocAttr, hm]; omega), (fun k e z h => by have := ho1 _ _ _ _ _ _ h; simp only [go_sem, simprocAttr, hm]; omega)⟩
end
end Go.Proofs.YtghhkbigmmjanaaGreatDoor.VA

/-! Ci -/
namespace Go.Proofs.YtghhkbigmmjanaaGreatDoor.VA
open Go Go.RowKit

@[go_sem] theorem imp6 : cfg.imp 26 = false := rfl
@[go_sem] theorem imp7 : cfg.imp 28 = false := rfl
@[go_sem] theorem imp10 : cfg.imp 121 = false := rfl
@[go_sem] theorem imp13 : cfg.imp 125 = false := rfl
@[go_sem] theorem imp14 : cfg.imp 46 = false := rfl
@[go_sem] theorem imp15 : cfg.imp 47 = false := rfl
@[go_sem] theorem imp16 : cfg.imp 48 = false := rfl
@[go_sem] theorem imp17 : cfg.imp 49 = false := rfl
@[go_sem] theorem imp18 : cfg.imp 50 = false := rfl
@[go_sem] theorem imp19 : cfg.imp 51 = false := rfl
@[go_sem] theorem imp20 : cfg.imp 54 = false := rfl
@[go_sem] theorem imp21 : cfg.imp 55 = false := rfl
@[go_sem] theorem imp22 : cfg.imp 56 = false := rfl
@[go_sem] theorem imp23 : cfg.imp 57 = false := rfl
@[go_sem] theorem imp24 : cfg.imp 58 = false := rfl
@[go_sem] theorem imp25 : cfg.imp 67 = false := rfl
@[go_sem] theorem imp30 : cfg.imp 3 = false := rfl
@[go_sem] theorem imp31 : cfg.imp 4 = false := rfl
@[go_sem] theorem imp32 : cfg.imp 13 = false := rfl
@[go_sem] theorem imp33 : cfg.imp 29 = false := rfl
@[go_sem] theorem imp34 : cfg.imp 14 = false := rfl
@[go_sem] theorem imp35 : cfg.imp 12 = false := rfl
@[go_sem] theorem imp36 : cfg.imp 11 = false := rfl
@[go_sem] theorem imp37 : cfg.imp 59 = false := rfl
@[go_sem] theorem imp38 : cfg.imp 60 = false := rfl
@[go_sem] theorem imp39 : cfg.imp 61 = false := rfl
@[go_sem] theorem imp40 : cfg.imp 62 = false := rfl
@[go_sem] theorem imp41 : cfg.imp 63 = false := rfl
@[go_sem] theorem imp42 : cfg.imp 17 = false := rfl
@[go_sem] theorem imp43 : cfg.imp 15 = false := rfl
@[go_sem] theorem imp44 : cfg.imp 30 = false := rfl
@[go_sem] theorem imp45 : cfg.imp 31 = false := rfl
@[go_sem] theorem imp46 : cfg.imp 86 = false := rfl
@[go_sem] theorem imp47 : cfg.imp 87 = false := rfl
@[go_sem] theorem imp48 : cfg.imp 88 = false := rfl
@[go_sem] theorem imp49 : cfg.imp 89 = false := rfl
@[go_sem] theorem imp50 : cfg.imp 33 = false := rfl
@[go_sem] theorem imp51 : cfg.imp 36 = false := rfl
@[go_sem] theorem imp52 : cfg.imp 40 = false := rfl
@[go_sem] theorem imp53 : cfg.imp 105 = false := rfl
@[go_sem] theorem imp54 : cfg.imp 106 = false := rfl
@[go_sem] theorem imp55 : cfg.imp 16 = false := rfl
@[go_sem] theorem imp56 : cfg.imp 117 = false := rfl
@[go_sem] theorem imp57 : cfg.imp 118 = false := rfl
@[go_sem] theorem imp58 : cfg.imp 32 = false := rfl
@[go_sem] theorem imp59 : cfg.imp 34 = false := rfl
@[go_sem] theorem imp60 : cfg.imp 35 = false := rfl
@[go_sem] theorem imp61 : cfg.imp 64 = false := rfl
@[go_sem] theorem imp62 : cfg.imp 53 = true := rfl
@[go_sem] theorem imp63 : cfg.imp 81 = true := rfl
@[go_sem] theorem imp64 : cfg.imp 82 = true := rfl
@[go_sem] theorem imp65 : cfg.imp 83 = true := rfl
@[go_sem] theorem imp66 : cfg.imp 84 = true := rfl
@[go_sem] theorem imp67 : cfg.imp 85 = true := rfl
@[go_sem] theorem imp68 : cfg.imp 100 = true := rfl
@[go_sem] theorem imp69 : cfg.imp 101 = true := rfl
@[go_sem] theorem imp70 : cfg.imp 102 = true := rfl
@[go_sem] theorem imp71 : cfg.imp 103 = true := rfl
@[go_sem] theorem imp72 : cfg.imp 104 = true := rfl
@[go_sem] theorem imp73 : cfg.imp 113 = true := rfl
@[go_sem] theorem imp74 : cfg.imp 114 = true := rfl
@[go_sem] theorem imp75 : cfg.imp 115 = true := rfl
@[go_sem] theorem imp76 : cfg.imp 116 = true := rfl
@[go_sem] theorem imp77 : cfg.imp 123 = true := rfl
@[go_sem] theorem imp78 : cfg.imp 128 = true := rfl
@[go_sem] theorem imp79 : cfg.imp 129 = true := rfl
@[go_sem] theorem imp80 : cfg.imp 139 = true := rfl
@[go_sem] theorem imp81 : cfg.imp 140 = true := rfl
@[go_sem] theorem imp82 : cfg.imp 80 = false := rfl
@[go_sem] theorem imp83 : cfg.imp 44 = false := rfl
@[go_sem] theorem imp84 : cfg.imp 122 = false := rfl
@[go_sem] theorem imp85 : cfg.imp 27 = false := rfl
@[go_sem] theorem imp86 : cfg.imp 5 = false := rfl
@[go_sem] theorem imp87 : cfg.imp 6 = false := rfl
@[go_sem] theorem imp88 : cfg.imp 7 = false := rfl
@[go_sem] theorem imp89 : cfg.imp 8 = false := rfl
@[go_sem] theorem imp90 : cfg.imp 9 = false := rfl
@[go_sem] theorem imp91 : cfg.imp 10 = false := rfl
@[go_sem] theorem imp92 : cfg.imp 18 = false := rfl
@[go_sem] theorem imp93 : cfg.imp 19 = false := rfl
@[go_sem] theorem imp94 : cfg.imp 20 = false := rfl
@[go_sem] theorem imp95 : cfg.imp 21 = false := rfl
@[go_sem] theorem imp96 : cfg.imp 22 = false := rfl
@[go_sem] theorem imp97 : cfg.imp 23 = false := rfl
@[go_sem] theorem imp98 : cfg.imp 24 = false := rfl
@[go_sem] theorem imp99 : cfg.imp 25 = false := rfl
@[go_sem] theorem imp100 : cfg.imp 37 = false := rfl
@[go_sem] theorem imp101 : cfg.imp 38 = false := rfl
@[go_sem] theorem imp102 : cfg.imp 39 = false := rfl
@[go_sem] theorem imp103 : cfg.imp 41 = false := rfl
@[go_sem] theorem imp104 : cfg.imp 42 = false := rfl
@[go_sem] theorem imp105 : cfg.imp 45 = false := rfl
@[go_sem] theorem imp106 : cfg.imp 65 = false := rfl
@[go_sem] theorem imp107 : cfg.imp 68 = false := rfl
@[go_sem] theorem imp108 : cfg.imp 69 = false := rfl
@[go_sem] theorem imp109 : cfg.imp 78 = false := rfl
@[go_sem] theorem imp110 : cfg.imp 79 = false := rfl
@[go_sem] theorem imp111 : cfg.imp 92 = false := rfl
@[go_sem] theorem imp112 : cfg.imp 98 = false := rfl
@[go_sem] theorem imp113 : cfg.imp 107 = false := rfl
@[go_sem] theorem imp113b : cfg.imp 119 = false := rfl
@[go_sem] theorem imp114 : cfg.imp 111 = false := rfl
@[go_sem] theorem imp115 : cfg.imp 43 = true := rfl
@[go_sem] theorem imp116 : cfg.imp 66 = true := rfl
@[go_sem] theorem imp117 : cfg.imp 70 = true := rfl
@[go_sem] theorem imp118 : cfg.imp 71 = true := rfl
@[go_sem] theorem imp119 : cfg.imp 72 = true := rfl
@[go_sem] theorem imp120 : cfg.imp 73 = true := rfl
@[go_sem] theorem imp121 : cfg.imp 74 = true := rfl
@[go_sem] theorem imp122 : cfg.imp 90 = true := rfl
@[go_sem] theorem imp123 : cfg.imp 91 = true := rfl
@[go_sem] theorem imp124 : cfg.imp 93 = true := rfl
@[go_sem] theorem imp125 : cfg.imp 94 = true := rfl
@[go_sem] theorem imp126 : cfg.imp 95 = true := rfl
end Go.Proofs.YtghhkbigmmjanaaGreatDoor.VA
