/- What is proved: what the reference's functions of one byte answer, in the abstract interpreter (VA), for every byte. No condition. -/
import Derived.Test.YtiiaajajhkdemaaLa4
namespace Go.Proofs.Ytiiaajajhkdemaa.VA
open Go Go.RowKit
set_option linter.unusedSimpArgs false

theorem c_rBlank (b : UInt8) (H : Heap) : calls Try.prog cfg 22 [.lit (.int .u8 (b.toNat : Nat))] H = some (.ret (.lit (.bool (isBlank b.toNat))) H) := by
  refine calls_pure (fn := Try.f22) rfl rfl rfl rfl rfl ?_ H
  generalize b.toNat = n
  by_cases h1 : ((n : Nat) : Int) = 9
  · have : isBlank n = true := by simp [isBlank]; omega
    simp only [go_sem, Nat.reduceBEq, Nat.reduceLeDiff, Nat.reduceEqDiff, true_and, and_true, ite_true, if_false, Int.cast_ofNat_Int, eq_self, Nat.add_assoc, Option.some.injEq, Int.reduceEq, Int.reduceLT, Int.reduceLE, Int.reduceAdd, Nat.reduceSub, Nat.reduceAdd, decide_true, decide_false, Bool.not_true, Bool.not_false, List.size_toArray, List.length_cons, List.length_nil, h1, this] <;> rfl
  by_cases h2 : ((n : Nat) : Int) = 10
  · have : isBlank n = true := by simp [isBlank]; omega
    simp only [go_sem, Nat.reduceBEq, Nat.reduceLeDiff, Nat.reduceEqDiff, true_and, and_true, ite_true, if_false, Int.cast_ofNat_Int, eq_self, Nat.add_assoc, Option.some.injEq, Int.reduceEq, Int.reduceLT, Int.reduceLE, Int.reduceAdd, Nat.reduceSub, Nat.reduceAdd, decide_true, decide_false, Bool.not_true, Bool.not_false, List.size_toArray, List.length_cons, List.length_nil, h2, this] <;> rfl
  by_cases h3 : ((n : Nat) : Int) = 13
  · have : isBlank n = true := by simp [isBlank]; omega
    simp only [go_sem, Nat.reduceBEq, Nat.reduceLeDiff, Nat.reduceEqDiff, true_and, and_true, ite_true, if_false, Int.cast_ofNat_Int, eq_self, Nat.add_assoc, Option.some.injEq, Int.reduceEq, Int.reduceLT, Int.reduceLE, Int.reduceAdd, Nat.reduceSub, Nat.reduceAdd, decide_true, decide_false, Bool.not_true, Bool.not_false, List.size_toArray, List.length_cons, List.length_nil, h3, this] <;> rfl
  have h4 : isBlank n = decide (((n : Nat) : Int) = 32) := by
    by_cases h4 : ((n : Nat) : Int) = 32
    · have : isBlank n = true := by simp [isBlank]; omega
      rw [this, decide_eq_true h4]
    · have : isBlank n = false := by simp [isBlank]; omega
      rw [this, decide_eq_false h4]
  simp only [go_sem, Nat.reduceBEq, Nat.reduceLeDiff, Nat.reduceEqDiff, true_and, and_true, ite_true, if_false, Int.cast_ofNat_Int, eq_self, Nat.add_assoc, Option.some.injEq, Int.reduceEq, Int.reduceLT, Int.reduceLE, Int.reduceAdd, Nat.reduceSub, Nat.reduceAdd, decide_true, decide_false, Bool.not_true, Bool.not_false, List.size_toArray, List.length_cons, List.length_nil, h1, h2, h3, h4] <;> rfl
theorem c_rDigit (b : UInt8) (H : Heap) : calls Try.prog cfg 25 [.lit (.int .u8 (b.toNat : Nat))] H = some (.ret (.lit (.bool (isDigit b.toNat))) H) := by
  refine calls_pure (fn := Try.f25) rfl rfl rfl rfl rfl ?_ H
  generalize b.toNat = n
  by_cases h1 : (48 : Int) ≤ (n : Nat)
  · by_cases h2 : ((n : Nat) : Int) ≤ 57
    · have : isDigit n = true := by simp [isDigit]; omega
      simp only [go_sem, Nat.reduceBEq, Nat.reduceLeDiff, Nat.reduceEqDiff, true_and, and_true, ite_true, if_false, Int.cast_ofNat_Int, eq_self, Nat.add_assoc, Option.some.injEq, Int.reduceEq, Int.reduceLT, Int.reduceLE, Int.reduceAdd, Nat.reduceSub, Nat.reduceAdd, decide_true, decide_false, Bool.not_true, Bool.not_false, List.size_toArray, List.length_cons, List.length_nil, h1, h2, this] <;> rfl
    · have : isDigit n = false := by simp [isDigit]; omega
      simp only [go_sem, Nat.reduceBEq, Nat.reduceLeDiff, Nat.reduceEqDiff, true_and, and_true, ite_true, if_false, Int.cast_ofNat_Int, eq_self, Nat.add_assoc, Option.some.injEq, Int.reduceEq, Int.reduceLT, Int.reduceLE, Int.reduceAdd, Nat.reduceSub, Nat.reduceAdd, decide_true, decide_false, Bool.not_true, Bool.not_false, List.size_toArray, List.length_cons, List.length_nil, h1, h2, this] <;> rfl
  · have : isDigit n = false := by simp [isDigit]; omega
    simp only [go_sem, Nat.reduceBEq, Nat.reduceLeDiff, Nat.reduceEqDiff, true_and, and_true, ite_true, if_false, Int.cast_ofNat_Int, eq_self, Nat.add_assoc, Option.some.injEq, Int.reduceEq, Int.reduceLT, Int.reduceLE, Int.reduceAdd, Nat.reduceSub, Nat.reduceAdd, decide_true, decide_false, Bool.not_true, Bool.not_false, List.size_toArray, List.length_cons, List.length_nil, h1, this] <;> rfl
theorem c_rLetter (b : UInt8) (H : Heap) : calls Try.prog cfg 23 [.lit (.int .u8 (b.toNat : Nat))] H = some (.ret (.lit (.bool (isLetter b.toNat))) H) := by
  refine calls_pure (fn := Try.f23) rfl rfl rfl rfl rfl ?_ H
  generalize b.toNat = n
  by_cases h1 : (97 : Int) ≤ (n : Nat)
  · have h3 : (65 : Int) ≤ (n : Nat) := by omega
    by_cases h2 : ((n : Nat) : Int) ≤ 122
    · have : isLetter n = true := by simp [isLetter]; omega
      simp only [go_sem, Nat.reduceBEq, Nat.reduceLeDiff, Nat.reduceEqDiff, true_and, and_true, ite_true, if_false, Int.cast_ofNat_Int, eq_self, Nat.add_assoc, Option.some.injEq, Int.reduceEq, Int.reduceLT, Int.reduceLE, Int.reduceAdd, Nat.reduceSub, Nat.reduceAdd, decide_true, decide_false, Bool.not_true, Bool.not_false, List.size_toArray, List.length_cons, List.length_nil, h1, h2, this] <;> rfl
    · have h4 : ¬ ((n : Nat) : Int) ≤ 90 := by omega
      have : isLetter n = false := by simp [isLetter]; omega
      simp only [go_sem, Nat.reduceBEq, Nat.reduceLeDiff, Nat.reduceEqDiff, true_and, and_true, ite_true, if_false, Int.cast_ofNat_Int, eq_self, Nat.add_assoc, Option.some.injEq, Int.reduceEq, Int.reduceLT, Int.reduceLE, Int.reduceAdd, Nat.reduceSub, Nat.reduceAdd, decide_true, decide_false, Bool.not_true, Bool.not_false, List.size_toArray, List.length_cons, List.length_nil, h1, h2, h3, h4, this] <;> rfl
  · by_cases h3 : (65 : Int) ≤ (n : Nat)
    · by_cases h4 : ((n : Nat) : Int) ≤ 90
      · have : isLetter n = true := by simp [isLetter]; omega
        simp only [go_sem, Nat.reduceBEq, Nat.reduceLeDiff, Nat.reduceEqDiff, true_and, and_true, ite_true, if_false, Int.cast_ofNat_Int, eq_self, Nat.add_assoc, Option.some.injEq, Int.reduceEq, Int.reduceLT, Int.reduceLE, Int.reduceAdd, Nat.reduceSub, Nat.reduceAdd, decide_true, decide_false, Bool.not_true, Bool.not_false, List.size_toArray, List.length_cons, List.length_nil, h1, h3, h4, this] <;> rfl
      · have : isLetter n = false := by simp [isLetter]; omega
        simp only [go_sem, Nat.reduceBEq, Nat.reduceLeDiff, Nat.reduceEqDiff, true_and, and_true, ite_true, if_false, Int.cast_ofNat_Int, eq_self, Nat.add_assoc, Option.some.injEq, Int.reduceEq, Int.reduceLT, Int.reduceLE, Int.reduceAdd, Nat.reduceSub, Nat.reduceAdd, decide_true, decide_false, Bool.not_true, Bool.not_false, List.size_toArray, List.length_cons, List.length_nil, h1, h3, h4, this] <;> rfl
    · have : isLetter n = false := by simp [isLetter]; omega
      simp only [go_sem, Nat.reduceBEq, Nat.reduceLeDiff, Nat.reduceEqDiff, true_and, and_true, ite_true, if_false, Int.cast_ofNat_Int, eq_self, Nat.add_assoc, Option.some.injEq, Int.reduceEq, Int.reduceLT, Int.reduceLE, Int.reduceAdd, Nat.reduceSub, Nat.reduceAdd, decide_true, decide_false, Bool.not_true, Bool.not_false, List.size_toArray, List.length_cons, List.length_nil, h1, h3, this] <;> rfl
theorem c_rInner (b : UInt8) (H : Heap) : calls Try.prog cfg 24 [.lit (.int .u8 (b.toNat : Nat))] H = some (.ret (.lit (.bool (inWord b.toNat))) H) := by
  refine calls_pure (fn := Try.f24) rfl rfl rfl rfl rfl ?_ H
  cases h1 : isLetter b.toNat with
  | true =>
    have : inWord b.toNat = true := by simp [inWord, h1]
    simp only [go_sem, Nat.reduceBEq, Nat.reduceLeDiff, Nat.reduceEqDiff, true_and, and_true, ite_true, if_false, Int.cast_ofNat_Int, eq_self, Nat.add_assoc, Option.some.injEq, Int.reduceEq, Int.reduceLT, Int.reduceLE, Int.reduceAdd, Nat.reduceSub, Nat.reduceAdd, decide_true, decide_false, Bool.not_true, Bool.not_false, List.size_toArray, List.length_cons, List.length_nil, c_rLetter, h1, this] <;> rfl
  | false =>
    cases h2 : isDigit b.toNat with
    | true =>
      have : inWord b.toNat = true := by simp [inWord, h2]
      simp only [go_sem, Nat.reduceBEq, Nat.reduceLeDiff, Nat.reduceEqDiff, true_and, and_true, ite_true, if_false, Int.cast_ofNat_Int, eq_self, Nat.add_assoc, Option.some.injEq, Int.reduceEq, Int.reduceLT, Int.reduceLE, Int.reduceAdd, Nat.reduceSub, Nat.reduceAdd, decide_true, decide_false, Bool.not_true, Bool.not_false, List.size_toArray, List.length_cons, List.length_nil, c_rLetter, c_rDigit, h1, h2, this] <;> rfl
    | false =>
      have : inWord b.toNat = decide (((b.toNat : Nat) : Int) = 95) := by
        by_cases h3 : ((b.toNat : Nat) : Int) = 95
        · have h4 : (b.toNat == 95) = true := by simp; omega
          rw [decide_eq_true h3]; simp only [inWord, h1, h2, h4]; rfl
        · have h4 : (b.toNat == 95) = false := by simp; omega
          rw [decide_eq_false h3]; simp only [inWord, h1, h2, h4]; rfl
      simp only [go_sem, Nat.reduceBEq, Nat.reduceLeDiff, Nat.reduceEqDiff, true_and, and_true, ite_true, if_false, Int.cast_ofNat_Int, eq_self, Nat.add_assoc, Option.some.injEq, Int.reduceEq, Int.reduceLT, Int.reduceLE, Int.reduceAdd, Nat.reduceSub, Nat.reduceAdd, decide_true, decide_false, Bool.not_true, Bool.not_false, List.size_toArray, List.length_cons, List.length_nil, c_rLetter, c_rDigit, h1, h2, this] <;> rfl
def signL : List UInt8 := [123, 125, 40, 41, 44, 59, 46, 61, 43, 45, 42, 60, 38, 58]
theorem isSign_any (n : Nat) : isSign n = signL.any fun x => x.toNat == n := by
  simp only [isSign, signs, signL, List.any_cons, List.any_nil, List.contains_cons, List.contains_nil]
  have hc : ∀ (a : Nat), (n == a) = (a == n) := fun a => by rw [Bool.eq_iff_iff]; simp; omega
  simp only [hc]
  rfl
theorem c_rSign (b : UInt8) (H : Heap) : calls Try.prog cfg 26 [.lit (.int .u8 (b.toNat : Nat))] H = some (.ret (.lit (.bool (isSign b.toNat))) H) := by
  refine calls_pure (fn := Try.f26) rfl rfl rfl rfl rfl ?_ H
  have rs : Try.f26.results.toList = [.tmp 2] := rfl
  generalize b.toNat = n
  have hsl : [123, 125, 40, 41, 44, 59, 46, 61, 43, 45, 42, 60, 38, 58] = signL := rfl
  simp only [go_sem, Nat.reduceBEq, Nat.reduceLeDiff, Nat.reduceEqDiff, true_and, and_true, ite_true, if_false, Int.cast_ofNat_Int, eq_self, Nat.add_assoc, Option.some.injEq, Int.reduceEq, Int.reduceLT, Int.reduceLE, Int.reduceAdd, Nat.reduceSub, Nat.reduceAdd, decide_true, decide_false, Bool.not_true, Bool.not_false, List.size_toArray, List.length_cons, List.length_nil, rs, hsl]
  generalize hr : isSign n = r
  refine W_loop_ind (fun k e H => ∃ a : Nat, k = signL.length - a ∧ a ≤ signL.length ∧ ((signL.drop a).any fun x => x.toNat == n) = r ∧ gget .bad e 0 = .lit (.int .u8 (n : Nat)) ∧ gget .bad e 3 = .lit (.string (ba signL)) ∧ gget .bad e 4 = .lit (.int .i64 (a : Nat)))
    signL.length ⟨0, rfl, by omega, by rw [← hr, isSign_any]; rfl, by simp only [go_sem, Nat.reduceBEq, Nat.reduceLeDiff, Nat.reduceEqDiff, true_and, and_true, ite_true, if_false, Int.cast_ofNat_Int, eq_self, Nat.add_assoc, Option.some.injEq, Int.reduceEq, Int.reduceLT, Int.reduceLE, Int.reduceAdd, Nat.reduceSub, Nat.reduceAdd, decide_true, decide_false, Bool.not_true, Bool.not_false, List.size_toArray, List.length_cons, List.length_nil], by simp only [go_sem, Nat.reduceBEq, Nat.reduceLeDiff, Nat.reduceEqDiff, true_and, and_true, ite_true, if_false, Int.cast_ofNat_Int, eq_self, Nat.add_assoc, Option.some.injEq, Int.reduceEq, Int.reduceLT, Int.reduceLE, Int.reduceAdd, Nat.reduceSub, Nat.reduceAdd, decide_true, decide_false, Bool.not_true, Bool.not_false, List.size_toArray, List.length_cons, List.length_nil], by simp only [go_sem, Nat.reduceBEq, Nat.reduceLeDiff, Nat.reduceEqDiff, true_and, and_true, ite_true, if_false, Int.cast_ofNat_Int, eq_self, Nat.add_assoc, Option.some.injEq, Int.reduceEq, Int.reduceLT, Int.reduceLE, Int.reduceAdd, Nat.reduceSub, Nat.reduceAdd, decide_true, decide_false, Bool.not_true, Bool.not_false, List.size_toArray, List.length_cons, List.length_nil] <;> rfl⟩ ?_
  rintro k ih e H ⟨a, rfl, hle, hR, h0, h3, h4⟩
  have h14 : signL.length = 14 := rfl
  by_cases hlt : a < signL.length
  · have hlt' : decide ((a : Int) < (signL.length : Nat)) = true := by simp; omega
    have dc := drop_cons hlt
    have hix := ixs_ba hlt
    generalize signL.getD a 0 = b at dc hix
    rw [dc, List.any_cons] at hR
    have hw1 := wrap1 (show a + 1 ≤ 9223372036854775807 by omega)
    by_cases hb : ((b.toNat : Nat) : Int) = (n : Nat)
    · have hb' : decide (((b.toNat : Nat) : Int) = (n : Nat)) = true := by simp; omega
      have hb2 : (b.toNat == n) = true := by simp; omega
      rw [hb2] at hR
      simp only [go_sem, Nat.reduceBEq, Nat.reduceLeDiff, Nat.reduceEqDiff, true_and, and_true, ite_true, if_false, Int.cast_ofNat_Int, eq_self, Nat.add_assoc, Option.some.injEq, Int.reduceEq, Int.reduceLT, Int.reduceLE, Int.reduceAdd, Nat.reduceSub, Nat.reduceAdd, decide_true, decide_false, Bool.not_true, Bool.not_false, List.size_toArray, List.length_cons, List.length_nil, h0, h3, h4, ba_size, hlt', hix, hb']
      rw [← hR]; rfl
    · have hb' : decide (((b.toNat : Nat) : Int) = (n : Nat)) = false := by simp; omega
      have hb2 : (b.toNat == n) = false := by simp; omega
      rw [hb2, Bool.false_or] at hR
      simp only [go_sem, Nat.reduceBEq, Nat.reduceLeDiff, Nat.reduceEqDiff, true_and, and_true, ite_true, if_false, Int.cast_ofNat_Int, eq_self, Nat.add_assoc, Option.some.injEq, Int.reduceEq, Int.reduceLT, Int.reduceLE, Int.reduceAdd, Nat.reduceSub, Nat.reduceAdd, decide_true, decide_false, Bool.not_true, Bool.not_false, List.size_toArray, List.length_cons, List.length_nil, h0, h3, h4, ba_size, hlt', hix, hb', hw1]
      exact ih (signL.length - (a + 1)) (by omega) _ _ ⟨a + 1, rfl, by omega, hR, by simp only [go_sem, Nat.reduceBEq, Nat.reduceLeDiff, Nat.reduceEqDiff, true_and, and_true, ite_true, if_false, Int.cast_ofNat_Int, eq_self, Nat.add_assoc, Option.some.injEq, Int.reduceEq, Int.reduceLT, Int.reduceLE, Int.reduceAdd, Nat.reduceSub, Nat.reduceAdd, decide_true, decide_false, Bool.not_true, Bool.not_false, List.size_toArray, List.length_cons, List.length_nil, h0], by simp only [go_sem, Nat.reduceBEq, Nat.reduceLeDiff, Nat.reduceEqDiff, true_and, and_true, ite_true, if_false, Int.cast_ofNat_Int, eq_self, Nat.add_assoc, Option.some.injEq, Int.reduceEq, Int.reduceLT, Int.reduceLE, Int.reduceAdd, Nat.reduceSub, Nat.reduceAdd, decide_true, decide_false, Bool.not_true, Bool.not_false, List.size_toArray, List.length_cons, List.length_nil, h3], by simp only [go_sem, Nat.reduceBEq, Nat.reduceLeDiff, Nat.reduceEqDiff, true_and, and_true, ite_true, if_false, Int.cast_ofNat_Int, eq_self, Nat.add_assoc, Option.some.injEq, Int.reduceEq, Int.reduceLT, Int.reduceLE, Int.reduceAdd, Nat.reduceSub, Nat.reduceAdd, decide_true, decide_false, Bool.not_true, Bool.not_false, List.size_toArray, List.length_cons, List.length_nil]⟩
  · have hlt' : decide ((a : Int) < (signL.length : Nat)) = false := by simp; omega
    rw [List.drop_of_length_le (by omega)] at hR
    simp only [go_sem, Nat.reduceBEq, Nat.reduceLeDiff, Nat.reduceEqDiff, true_and, and_true, ite_true, if_false, Int.cast_ofNat_Int, eq_self, Nat.add_assoc, Option.some.injEq, Int.reduceEq, Int.reduceLT, Int.reduceLE, Int.reduceAdd, Nat.reduceSub, Nat.reduceAdd, decide_true, decide_false, Bool.not_true, Bool.not_false, List.size_toArray, List.length_cons, List.length_nil, h0, h3, h4, ba_size, hlt']
    rw [← hR]; rfl
end Go.Proofs.Ytiiaajajhkdemaa.VA
