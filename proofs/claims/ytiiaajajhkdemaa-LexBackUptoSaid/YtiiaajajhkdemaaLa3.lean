/- What is proved: what the program's lexer answers, in the abstract interpreter (VA), for every string. No condition. -/
import Derived.Test.YtiiaajajhkdemaaLa2
namespace Go.Proofs.Ytiiaajajhkdemaa.VA
open Go Go.RowKit
set_option linter.unusedSimpArgs false

theorem c_end (l : List UInt8) (hs : l.length ≤ 9223372036854775806) (f : FuncId) (p : Nat → Bool)
    (hf : ∀ (b : UInt8) H, calls Try.prog cfg f [.lit (.int .u8 (b.toNat : Nat))] H = some (.ret (.lit (.bool (p b.toNat))) H)) (at_ : Nat) (ha : at_ ≤ l.length) (H : Heap) :
    calls Try.prog cfg 17 [.lit (.string (ba l)), .lit (.int .i64 (at_ : Nat)), .fn f []] H = some (.ret (.lit (.int .i64 (at_ + span p (l.drop at_) : Nat))) H) := by
  refine calls_pure (fn := Try.f17) rfl rfl rfl rfl rfl ?_ H
  generalize hr : at_ + span p (l.drop at_) = r
  have rs : Try.f17.results.toList = [.tmp 6] := rfl
  simp only [go_sem, Nat.reduceBEq, Nat.reduceLeDiff, Nat.reduceEqDiff, true_and, and_true, ite_true, if_false, Int.cast_ofNat_Int, eq_self, Nat.add_assoc, Option.some.injEq, Int.reduceEq, Int.reduceLT, Int.reduceLE, Int.reduceAdd, Nat.reduceSub, Nat.reduceAdd, decide_true, decide_false, Bool.not_true, Bool.not_false, List.size_toArray, List.length_cons, List.length_nil, rs]
  refine W_loop_ind (fun n e H => ∃ a : Nat, n = l.length - a ∧ a ≤ l.length ∧ a + span p (l.drop a) = r ∧ gget .bad e 0 = .lit (.string (ba l)) ∧ gget .bad e 1 = .lit (.int .i64 (a : Nat)) ∧ gget .bad e 2 = .fn f [])
    (l.length - at_) ⟨at_, rfl, ha, hr, by simp only [go_sem, Nat.reduceBEq, Nat.reduceLeDiff, Nat.reduceEqDiff, true_and, and_true, ite_true, if_false, Int.cast_ofNat_Int, eq_self, Nat.add_assoc, Option.some.injEq, Int.reduceEq, Int.reduceLT, Int.reduceLE, Int.reduceAdd, Nat.reduceSub, Nat.reduceAdd, decide_true, decide_false, Bool.not_true, Bool.not_false, List.size_toArray, List.length_cons, List.length_nil], by simp only [go_sem, Nat.reduceBEq, Nat.reduceLeDiff, Nat.reduceEqDiff, true_and, and_true, ite_true, if_false, Int.cast_ofNat_Int, eq_self, Nat.add_assoc, Option.some.injEq, Int.reduceEq, Int.reduceLT, Int.reduceLE, Int.reduceAdd, Nat.reduceSub, Nat.reduceAdd, decide_true, decide_false, Bool.not_true, Bool.not_false, List.size_toArray, List.length_cons, List.length_nil], by simp only [go_sem, Nat.reduceBEq, Nat.reduceLeDiff, Nat.reduceEqDiff, true_and, and_true, ite_true, if_false, Int.cast_ofNat_Int, eq_self, Nat.add_assoc, Option.some.injEq, Int.reduceEq, Int.reduceLT, Int.reduceLE, Int.reduceAdd, Nat.reduceSub, Nat.reduceAdd, decide_true, decide_false, Bool.not_true, Bool.not_false, List.size_toArray, List.length_cons, List.length_nil]⟩ ?_
  rintro n ih e H ⟨a, rfl, hle, hr, h0, h1, h2⟩
  by_cases hlt : a < l.length
  · have hlt' : (a : Int) < (l.length : Nat) := by omega
    rw [drop_cons hlt, span_cons] at hr
    cases hp : p (l.getD a 0).toNat with
    | true =>
      rw [if_pos hp] at hr
      simp only [go_sem, Nat.reduceBEq, Nat.reduceLeDiff, Nat.reduceEqDiff, true_and, and_true, ite_true, if_false, Int.cast_ofNat_Int, eq_self, Nat.add_assoc, Option.some.injEq, Int.reduceEq, Int.reduceLT, Int.reduceLE, Int.reduceAdd, Nat.reduceSub, Nat.reduceAdd, decide_true, decide_false, Bool.not_true, Bool.not_false, List.size_toArray, List.length_cons, List.length_nil, h0, h1, h2, ba_size, hlt', ixs_ba hlt, hf, hp, wrap1 (show a + 1 ≤ 9223372036854775807 by omega)]
      exact ih (l.length - (a + 1)) (by omega) _ _ ⟨a + 1, rfl, by omega, by omega, by simp only [go_sem, Nat.reduceBEq, Nat.reduceLeDiff, Nat.reduceEqDiff, true_and, and_true, ite_true, if_false, Int.cast_ofNat_Int, eq_self, Nat.add_assoc, Option.some.injEq, Int.reduceEq, Int.reduceLT, Int.reduceLE, Int.reduceAdd, Nat.reduceSub, Nat.reduceAdd, decide_true, decide_false, Bool.not_true, Bool.not_false, List.size_toArray, List.length_cons, List.length_nil, h0], by simp only [go_sem, Nat.reduceBEq, Nat.reduceLeDiff, Nat.reduceEqDiff, true_and, and_true, ite_true, if_false, Int.cast_ofNat_Int, eq_self, Nat.add_assoc, Option.some.injEq, Int.reduceEq, Int.reduceLT, Int.reduceLE, Int.reduceAdd, Nat.reduceSub, Nat.reduceAdd, decide_true, decide_false, Bool.not_true, Bool.not_false, List.size_toArray, List.length_cons, List.length_nil], by simp only [go_sem, Nat.reduceBEq, Nat.reduceLeDiff, Nat.reduceEqDiff, true_and, and_true, ite_true, if_false, Int.cast_ofNat_Int, eq_self, Nat.add_assoc, Option.some.injEq, Int.reduceEq, Int.reduceLT, Int.reduceLE, Int.reduceAdd, Nat.reduceSub, Nat.reduceAdd, decide_true, decide_false, Bool.not_true, Bool.not_false, List.size_toArray, List.length_cons, List.length_nil, h2]⟩
    | false =>
      rw [hp] at hr
      simp only [go_sem, Nat.reduceBEq, Nat.reduceLeDiff, Nat.reduceEqDiff, true_and, and_true, ite_true, if_false, Int.cast_ofNat_Int, eq_self, Nat.add_assoc, Option.some.injEq, Int.reduceEq, Int.reduceLT, Int.reduceLE, Int.reduceAdd, Nat.reduceSub, Nat.reduceAdd, decide_true, decide_false, Bool.not_true, Bool.not_false, List.size_toArray, List.length_cons, List.length_nil, h0, h1, h2, ba_size, hlt', ixs_ba hlt, hf, hp]
      have : a = r := by simpa using hr
      subst this
      simp only [go_sem, Nat.reduceBEq, Nat.reduceLeDiff, Nat.reduceEqDiff, true_and, and_true, ite_true, if_false, Int.cast_ofNat_Int, eq_self, Nat.add_assoc, Option.some.injEq, Int.reduceEq, Int.reduceLT, Int.reduceLE, Int.reduceAdd, Nat.reduceSub, Nat.reduceAdd, decide_true, decide_false, Bool.not_true, Bool.not_false, List.size_toArray, List.length_cons, List.length_nil]
  · have hlt' : ¬ (a : Int) < (l.length : Nat) := by omega
    have : a = r := by
      rw [List.drop_of_length_le (by omega), span_nil] at hr; omega
    subst this
    simp only [go_sem, Nat.reduceBEq, Nat.reduceLeDiff, Nat.reduceEqDiff, true_and, and_true, ite_true, if_false, Int.cast_ofNat_Int, eq_self, Nat.add_assoc, Option.some.injEq, Int.reduceEq, Int.reduceLT, Int.reduceLE, Int.reduceAdd, Nat.reduceSub, Nat.reduceAdd, decide_true, decide_false, Bool.not_true, Bool.not_false, List.size_toArray, List.length_cons, List.length_nil, h0, h1, h2, ba_size, hlt']
theorem c_number (l : List UInt8) (hs : l.length ≤ 9223372036854775806) (at_ k : Nat) (ha : at_ + k ≤ l.length) (H : Heap) :
    calls Try.prog cfg 21 [.lit (.string (ba l)), .lit (.int .i64 (at_ : Nat)), .lit (.int .i64 (at_ + k : Nat))] H =
      some (.ret (.lit (.bool (decide (k ≤ 9) && endsNum (l.drop (at_ + k))))) H) := by
  refine calls_pure (fn := Try.f21) rfl rfl rfl rfl rfl ?_ H
  have hw : IntKind.wrap .i64 (((at_ + k : Nat) : Int) - (at_ : Nat)) = (k : Nat) := by rw [wrap64 (by omega) (by omega)]; omega
  by_cases h1 : k ≤ 9
  · have d1 : decide (((k : Nat) : Int) ≤ 9) = true := by simp; omega
    by_cases h2 : at_ + k = l.length
    · have d2 : decide (((at_ + k : Nat) : Int) = (l.length : Nat)) = true := by simp; omega
      rw [List.drop_of_length_le (by omega)]
      simp only [go_sem, Nat.reduceBEq, Nat.reduceLeDiff, Nat.reduceEqDiff, true_and, and_true, ite_true, if_false, Int.cast_ofNat_Int, eq_self, Nat.add_assoc, Option.some.injEq, Int.reduceEq, Int.reduceLT, Int.reduceLE, Int.reduceAdd, Nat.reduceSub, Nat.reduceAdd, decide_true, decide_false, Bool.not_true, Bool.not_false, List.size_toArray, List.length_cons, List.length_nil, hw, d1, ba_size, d2, endsNum, h1, Bool.and_true]
      rfl
    · have d2 : decide (((at_ + k : Nat) : Int) = (l.length : Nat)) = false := by simp; omega
      have hlt : at_ + k < l.length := by omega
      rw [drop_cons hlt]
      simp only [go_sem, Nat.reduceBEq, Nat.reduceLeDiff, Nat.reduceEqDiff, true_and, and_true, ite_true, if_false, Int.cast_ofNat_Int, eq_self, Nat.add_assoc, Option.some.injEq, Int.reduceEq, Int.reduceLT, Int.reduceLE, Int.reduceAdd, Nat.reduceSub, Nat.reduceAdd, decide_true, decide_false, Bool.not_true, Bool.not_false, List.size_toArray, List.length_cons, List.length_nil, hw, d1, ba_size, d2, ixs_ba hlt, c_inner, endsNum, h1, Bool.true_and]
      rfl
  · have d1 : decide (((k : Nat) : Int) ≤ 9) = false := by simp; omega
    simp only [go_sem, Nat.reduceBEq, Nat.reduceLeDiff, Nat.reduceEqDiff, true_and, and_true, ite_true, if_false, Int.cast_ofNat_Int, eq_self, Nat.add_assoc, Option.some.injEq, Int.reduceEq, Int.reduceLT, Int.reduceLE, Int.reduceAdd, Nat.reduceSub, Nat.reduceAdd, decide_true, decide_false, Bool.not_true, Bool.not_false, List.size_toArray, List.length_cons, List.length_nil, hw, d1, h1, Bool.false_and]
    rfl
end Go.Proofs.Ytiiaajajhkdemaa.VA
