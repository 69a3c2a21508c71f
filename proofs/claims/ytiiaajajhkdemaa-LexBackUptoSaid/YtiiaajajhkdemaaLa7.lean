/- What is proved: what the functions on tokens answer, in the abstract interpreter (VA). Condition: no more tokens than a counter tells. -/
import Derived.Test.YtiiaajajhkdemaaLa6
namespace Go.Proofs.Ytiiaajajhkdemaa.VA
open Go Go.RowKit
set_option linter.unusedSimpArgs false

/-! ### tokens of any kind, at any place -/
structure GTok where
  kind : Int
  text : List UInt8
  at_ : Int
  deriving DecidableEq
instance : Inhabited GTok := ⟨⟨0, [], 0⟩⟩
def encG (t : GTok) : List AV := [.lit (.int .i64 t.kind), .lit (.string (ba t.text)), .lit (.int .i64 t.at_)]
def Tok.g (t : Tok) : GTok := ⟨(t.kind : Nat), t.text, (t.at_ : Nat)⟩
theorem enc_g (l : List Tok) : l.map encTok = (l.map Tok.g).map encG := by simp [Function.comp_def, encTok, encG, Tok.g]
theorem sanL_encG (t : GTok) : sanL (encG t) = encG t := by simp only [encG, go_sem]
@[go_sem] theorem sanLL_encG (l : List GTok) : sanLL (l.map encG) = l.map encG := sanLL_of encG sanL_encG l
theorem iad_encG {t : TypeId} {bs : Nat} {o : Own} {l : List GTok} {i : Nat} (h : i < l.length) : iad (some (t, 3, bs)) (.sl o (l.map encG)) (some i) = some (.ep (encG (l.getD i default))) := by
  refine iad_some ?_ rfl
  rw [List.getElem?_map, List.getElem?_eq_getElem h, List.getD_eq_getElem?_getD, List.getElem?_eq_getElem h]
  rfl
theorem drop_cons' {α : Type} {l : List α} {n : Nat} (d : α) (h : n < l.length) : l.drop n = l.getD n d :: l.drop (n + 1) := by
  rw [List.drop_eq_getElem_cons h, List.getD_eq_getElem?_getD, List.getElem?_eq_getElem h]
  rfl
theorem eg_tok : Try.prog.eqGuardType Try.prog.depth 37 = false := by kernel_rfl
theorem sh_tok : Try.prog.stoodInHeld 37 = false := by kernel_rfl
theorem eg_fault : Try.prog.eqGuardType Try.prog.depth 25 = false := by kernel_rfl
theorem sh_fault : Try.prog.stoodInHeld 25 = false := by kernel_rfl
@[go_sem] theorem und_errno : Try.prog.underlying 23 = some (.int .i64) := by kernel_rfl
@[go_sem] theorem sz_errno : tSize Try.prog 23 = some 1 := by kernel_rfl
@[go_sem] theorem ag_errno : tAgg Try.prog 23 = some false := by kernel_rfl
theorem eq_tok (k k' a a' : Int) (t t' : ByteArray) : aEq Try.prog 8 37 (.agg [.lit (.int .i64 k), .lit (.string t), .lit (.int .i64 a)]) (.agg [.lit (.int .i64 k'), .lit (.string t'), .lit (.int .i64 a')]) =
    some (decide (k = k') && (decide (t = t') && decide (a = a'))) := by
  simp only [aEq, Try.underlying37, sh_tok, if_true, aEqs, go_sem]
  by_cases h1 : k = k' <;> by_cases h2 : t = t' <;> by_cases h3 : a = a' <;> simp [h1, h2, h3, aEqs, aEq, go_sem, strEq_decide]
theorem eq_fault (k k' a a' : Int) : aEq Try.prog 8 25 (.agg [.lit (.int .i64 k), .lit (.int .i64 a)]) (.agg [.lit (.int .i64 k'), .lit (.int .i64 a')]) =
    some (decide (k = k') && decide (a = a')) := by
  simp only [aEq, Try.underlying25, sh_fault, if_true, aEqs, go_sem]
  by_cases h1 : k = k' <;> by_cases h3 : a = a' <;> simp [h1, h3, aEqs, aEq, go_sem]
@[go_sem] theorem bin_netok (k k' a a' : Int) (t t' : ByteArray) : aBin Try.prog .neq 37 (.agg [.lit (.int .i64 k), .lit (.string t), .lit (.int .i64 a)]) (.agg [.lit (.int .i64 k'), .lit (.string t'), .lit (.int .i64 a')]) =
    some (.lit (.bool (!(decide (k = k') && (decide (t = t') && decide (a = a')))))) := by
  simp only [aBin, eg_tok, if_true, eq_tok]
@[go_sem] theorem bin_eqfault (k k' a a' : Int) : aBin Try.prog .eql 25 (.agg [.lit (.int .i64 k), .lit (.int .i64 a)]) (.agg [.lit (.int .i64 k'), .lit (.int .i64 a')]) =
    some (.lit (.bool (decide (k = k') && decide (a = a')))) := by
  simp only [aBin, eg_fault, if_true, eq_fault]

/-! ### regions that draw their order -/
@[go_sem] theorem AllOk_nil (tr : List Tr) : AllOk [] tr = True := by simp [AllOk]
@[go_sem] theorem AllOk_cons (i j : Nat) (un : List (Nat × Nat)) (tr : List Tr) : AllOk ((i, j) :: un) tr = (NoConf (gget .dead tr i) (gget .dead tr j) ∧ AllOk un tr) := by
  have h : ∀ (l : List Tr) (i : Nat), l.getD i .dead = gget .dead l i := by
    intro l
    induction l with
    | nil => intro i; simp [gget]
    | cons x l ih => intro i; cases i with | zero => rfl | succ i => simpa [gget] using ih i
  simp only [AllOk, List.forall_mem_cons, h]
@[go_sem] theorem NoConf_quiet (v v' : AV) (rs rs' : List Nat) : NoConf (.val v [] rs) (.val v' [] rs') = True := by simp [NoConf]

/-! ### the same tokens -/
set_option maxRecDepth 20000 in
theorem c_same (a b : List GTok) (hlen : a.length ≤ 9223372036854775806) (o o' : Own) (H : Heap) :
    calls Try.prog cfg 11 [.sl o (a.map encG), .sl o' (b.map encG)] H = some (.ret (.lit (.bool (decide (a = b)))) H) := by
  refine calls_pure (fn := Try.f11) rfl rfl rfl rfl rfl ?_ H
  have rs : Try.f11.results.toList = [.tmp 4] := rfl
  by_cases hl : a.length = b.length
  · have d : decide (((a.length : Nat) : Int) = (b.length : Nat)) = true := by simp; omega
    generalize hr : decide (a = b) = r
    simp only [go_sem, Nat.reduceBEq, Nat.reduceLeDiff, Nat.reduceEqDiff, true_and, and_true, ite_true, if_false, Int.cast_ofNat_Int, eq_self, Nat.add_assoc, Option.some.injEq, Int.reduceEq, Int.reduceLT, Int.reduceLE, Int.reduceAdd, Nat.reduceSub, Nat.reduceAdd, decide_true, decide_false, Bool.not_true, Bool.not_false, List.size_toArray, List.length_cons, List.length_nil, rs, List.length_map, d]
    refine W_loop_ind (fun k e H => ∃ i : Nat, k = a.length - i ∧ i ≤ a.length ∧ decide (a.drop i = b.drop i) = r ∧ gget .bad e 0 = .sl .sh (a.map encG) ∧ gget .bad e 1 = .sl .sh (b.map encG) ∧ gget .bad e 5 = .lit (.int .i64 (i : Nat)))
      a.length ⟨0, rfl, by omega, hr, by simp only [go_sem, Nat.reduceBEq, Nat.reduceLeDiff, Nat.reduceEqDiff, true_and, and_true, ite_true, if_false, Int.cast_ofNat_Int, eq_self, Nat.add_assoc, Option.some.injEq, Int.reduceEq, Int.reduceLT, Int.reduceLE, Int.reduceAdd, Nat.reduceSub, Nat.reduceAdd, decide_true, decide_false, Bool.not_true, Bool.not_false, List.size_toArray, List.length_cons, List.length_nil], by simp only [go_sem, Nat.reduceBEq, Nat.reduceLeDiff, Nat.reduceEqDiff, true_and, and_true, ite_true, if_false, Int.cast_ofNat_Int, eq_self, Nat.add_assoc, Option.some.injEq, Int.reduceEq, Int.reduceLT, Int.reduceLE, Int.reduceAdd, Nat.reduceSub, Nat.reduceAdd, decide_true, decide_false, Bool.not_true, Bool.not_false, List.size_toArray, List.length_cons, List.length_nil], by simp only [go_sem, Nat.reduceBEq, Nat.reduceLeDiff, Nat.reduceEqDiff, true_and, and_true, ite_true, if_false, Int.cast_ofNat_Int, eq_self, Nat.add_assoc, Option.some.injEq, Int.reduceEq, Int.reduceLT, Int.reduceLE, Int.reduceAdd, Nat.reduceSub, Nat.reduceAdd, decide_true, decide_false, Bool.not_true, Bool.not_false, List.size_toArray, List.length_cons, List.length_nil] <;> rfl⟩ ?_
    rintro k ih e H ⟨i, rfl, hle, hR, h0, h1, h5⟩
    by_cases hlt : i < a.length
    · have hlt' : decide ((i : Int) < (a.length : Nat)) = true := by simp; omega
      have hlb : i < b.length := by omega
      rw [drop_cons' default hlt, drop_cons' default hlb] at hR
      have ha := iad_encG (t := 37) (bs := 32) (o := .sh) hlt
      have hb := iad_encG (t := 37) (bs := 32) (o := .sh) hlb
      generalize a.getD i default = x at hR ha
      generalize b.getD i default = y at hR hb
      have hw1 := wrap1 (show i + 1 ≤ 9223372036854775807 by omega)
      have hxy : (decide (x.kind = y.kind) && (decide (ba x.text = ba y.text) && decide (x.at_ = y.at_))) = decide (x = y) := by
        cases x; cases y; simp [ba_inj]
      simp only [go_sem, Nat.reduceBEq, Nat.reduceLeDiff, Nat.reduceEqDiff, true_and, and_true, ite_true, if_false, Int.cast_ofNat_Int, eq_self, Nat.add_assoc, Option.some.injEq, Int.reduceEq, Int.reduceLT, Int.reduceLE, Int.reduceAdd, Nat.reduceSub, Nat.reduceAdd, decide_true, decide_false, Bool.not_true, Bool.not_false, List.size_toArray, List.length_cons, List.length_nil, h0, h1, h5, List.length_map, hlt', ha, hb, encG]
      refine W_draw [(3, 7)] (by kernel_rfl) ?_
      simp only [go_sem, Nat.reduceBEq, Nat.reduceLeDiff, Nat.reduceEqDiff, true_and, and_true, ite_true, if_false, Int.cast_ofNat_Int, eq_self, Nat.add_assoc, Option.some.injEq, Int.reduceEq, Int.reduceLT, Int.reduceLE, Int.reduceAdd, Nat.reduceSub, Nat.reduceAdd, decide_true, decide_false, Bool.not_true, Bool.not_false, List.size_toArray, List.length_cons, List.length_nil, h0, h1, h5, List.length_map, hlt', ha, hb, encG, hxy]
      by_cases he : x = y
      · have de : decide (x = y) = true := by simp [he]
        have hR' : decide (a.drop (i + 1) = b.drop (i + 1)) = r := by rw [← hR]; simp [he]
        simp only [go_sem, Nat.reduceBEq, Nat.reduceLeDiff, Nat.reduceEqDiff, true_and, and_true, ite_true, if_false, Int.cast_ofNat_Int, eq_self, Nat.add_assoc, Option.some.injEq, Int.reduceEq, Int.reduceLT, Int.reduceLE, Int.reduceAdd, Nat.reduceSub, Nat.reduceAdd, decide_true, decide_false, Bool.not_true, Bool.not_false, List.size_toArray, List.length_cons, List.length_nil, de, h0, h1, h5, hw1]
        exact ih (a.length - (i + 1)) (by omega) _ _ ⟨i + 1, rfl, by omega, hR', by simp only [go_sem, Nat.reduceBEq, Nat.reduceLeDiff, Nat.reduceEqDiff, true_and, and_true, ite_true, if_false, Int.cast_ofNat_Int, eq_self, Nat.add_assoc, Option.some.injEq, Int.reduceEq, Int.reduceLT, Int.reduceLE, Int.reduceAdd, Nat.reduceSub, Nat.reduceAdd, decide_true, decide_false, Bool.not_true, Bool.not_false, List.size_toArray, List.length_cons, List.length_nil, h0], by simp only [go_sem, Nat.reduceBEq, Nat.reduceLeDiff, Nat.reduceEqDiff, true_and, and_true, ite_true, if_false, Int.cast_ofNat_Int, eq_self, Nat.add_assoc, Option.some.injEq, Int.reduceEq, Int.reduceLT, Int.reduceLE, Int.reduceAdd, Nat.reduceSub, Nat.reduceAdd, decide_true, decide_false, Bool.not_true, Bool.not_false, List.size_toArray, List.length_cons, List.length_nil, h1], by simp only [go_sem, Nat.reduceBEq, Nat.reduceLeDiff, Nat.reduceEqDiff, true_and, and_true, ite_true, if_false, Int.cast_ofNat_Int, eq_self, Nat.add_assoc, Option.some.injEq, Int.reduceEq, Int.reduceLT, Int.reduceLE, Int.reduceAdd, Nat.reduceSub, Nat.reduceAdd, decide_true, decide_false, Bool.not_true, Bool.not_false, List.size_toArray, List.length_cons, List.length_nil]⟩
      · have de : decide (x = y) = false := by simp [he]
        have hR' : r = false := by rw [← hR]; simp [he]
        simp only [go_sem, Nat.reduceBEq, Nat.reduceLeDiff, Nat.reduceEqDiff, true_and, and_true, ite_true, if_false, Int.cast_ofNat_Int, eq_self, Nat.add_assoc, Option.some.injEq, Int.reduceEq, Int.reduceLT, Int.reduceLE, Int.reduceAdd, Nat.reduceSub, Nat.reduceAdd, decide_true, decide_false, Bool.not_true, Bool.not_false, List.size_toArray, List.length_cons, List.length_nil, de, hR']
    · have hlt' : decide ((i : Int) < (a.length : Nat)) = false := by simp; omega
      rw [List.drop_of_length_le (by omega), List.drop_of_length_le (by omega)] at hR
      have hR' : r = true := by rw [← hR]; simp
      simp only [go_sem, Nat.reduceBEq, Nat.reduceLeDiff, Nat.reduceEqDiff, true_and, and_true, ite_true, if_false, Int.cast_ofNat_Int, eq_self, Nat.add_assoc, Option.some.injEq, Int.reduceEq, Int.reduceLT, Int.reduceLE, Int.reduceAdd, Nat.reduceSub, Nat.reduceAdd, decide_true, decide_false, Bool.not_true, Bool.not_false, List.size_toArray, List.length_cons, List.length_nil, h0, h1, h5, List.length_map, hlt', hR']
  · have d : decide (((a.length : Nat) : Int) = (b.length : Nat)) = false := by simp; omega
    have hne : decide (a = b) = false := by simp; intro h; exact hl (by rw [h])
    simp only [go_sem, Nat.reduceBEq, Nat.reduceLeDiff, Nat.reduceEqDiff, true_and, and_true, ite_true, if_false, Int.cast_ofNat_Int, eq_self, Nat.add_assoc, Option.some.injEq, Int.reduceEq, Int.reduceLT, Int.reduceLE, Int.reduceAdd, Nat.reduceSub, Nat.reduceAdd, decide_true, decide_false, Bool.not_true, Bool.not_false, List.size_toArray, List.length_cons, List.length_nil, rs, List.length_map, d, hne]
end Go.Proofs.Ytiiaajajhkdemaa.VA
