/- What is proved: the law LexWords, called with two strings, returns true and leaves what is there alone. No condition. -/
import Derived.Test.YtiiaajajhkdemaaLd1
import Derived.Test.YtiiaajajhkdemaaLp1
namespace Go.Proofs.Ytiiaajajhkdemaa.VA
open Go Go.RowKit
set_option linter.unusedSimpArgs false

theorem aFill_step {place : Nat → Option (Nat × Nat)} {cells : List AV} {i off size : Nat} {v : AV} {rest : List (Nat × AV)} (hp : place i = some (off, size)) (h : v.cells.length = size ∧ off + size ≤ cells.length ∧ v.cells.all AV.one = true)
    {res : List AV} (hr : cells.take off ++ (v.cells ++ cells.drop (off + size)) = res) : aFill place cells ((i, v) :: rest) = aFill place res rest := by
  simp only [aFill, hp]; rw [if_pos h, hr]
/-- A literal of two elements. -/
theorem build2 {P : Program} {t : TypeId} {e : TypeId} {sz bs : Nat} (ht : tElem P t = some (e, sz, bs)) (hs : 2 * sz ≤ 16777216) {z : List AV} (hz : tZero P e = some z) (hz1 : z.length = sz) (hz2 : z.all AV.one = true) (v u : AV)
    (h1 : v.cells.length = sz) (h2 : v.cells.all AV.one = true) (k1 : u.cells.length = sz) (k2 : u.cells.all AV.one = true) : aBuildSlice P t 2 [(0, v), (1, u)] = some (.sl .ex [v.cells, u.cells]) := by
  simp only [aBuildSlice, ht, hz]
  rw [if_pos hs, if_pos ⟨hz1, hz2⟩]
  have e1 : (List.replicate 2 z).flatten = z ++ z := by simp [List.replicate_succ]
  rw [e1, aFill_step (off := 0) (size := sz) (by simp) ⟨h1, by simp; omega, h2⟩ (res := v.cells ++ z) (by simp [List.drop_left' hz1]),
    aFill_step (off := sz) (size := sz) (by simp) ⟨k1, by simp; omega, k2⟩ (res := v.cells ++ u.cells) (by rw [List.take_left' h1, List.drop_of_length_le (by simp; omega), List.append_nil])]
  simp only [aFill, chunk]
  rw [List.take_left' h1, List.drop_left' h1, List.take_of_length_le (by omega)]
@[go_sem] theorem bs2_tok (k a k' a' : Int) (t t' : ByteArray) : aBuildSlice Try.prog 22 2 [(0, .agg [.lit (.int .i64 k), .lit (.string t), .lit (.int .i64 a)]), (1, .agg [.lit (.int .i64 k'), .lit (.string t'), .lit (.int .i64 a')])] =
    some (.sl .ex [[.lit (.int .i64 k), .lit (.string t), .lit (.int .i64 a)], [.lit (.int .i64 k'), .lit (.string t'), .lit (.int .i64 a')]]) :=
  build2 el_tok (by decide) zr_tok rfl rfl (.agg [.lit (.int .i64 k), .lit (.string t), .lit (.int .i64 a)]) (.agg [.lit (.int .i64 k'), .lit (.string t'), .lit (.int .i64 a')]) rfl rfl rfl rfl
theorem str_addba (a b : List UInt8) (h : a.length + b.length ≤ 9223372036854775807) : aStr .add (.mk a.toArray) (ba b) = some (.lit (.string (ba (a ++ b)))) := by
  have := str_add (ba a) (ba b) (by simpa using h)
  rw [ba_append] at this; exact this
theorem add_ba (a b : List UInt8) (h : a.length + b.length ≤ 9223372036854775807) : aStr .add (ba a) (ba b) = some (.lit (.string (ba (a ++ b)))) := str_addba a b h
set_option maxRecDepth 20000 in
theorem lex_words (s t : List UInt8) (H : Heap) : calls Try.prog cfg 7 [.lit (.string (ba s)), .lit (.string (ba t))] H = some (.ret (.lit (.bool true)) H) := by
  refine calls_pure (fn := Try.f7) rfl rfl rfl rfl rfl ?_ H
  have rs : Try.f7.results.toList = [.tmp 4] := rfl
  by_cases h1 : 1000 < s.length
  · have d1 : decide ((1000 : Int) < (s.length : Nat)) = true := by simp; omega
    simp only [go_sem, Nat.reduceBEq, Nat.reduceLeDiff, Nat.reduceEqDiff, true_and, and_true, ite_true, if_false, Int.cast_ofNat_Int, eq_self, Nat.add_assoc, Option.some.injEq, Int.reduceEq, Int.reduceLT, Int.reduceLE, Int.reduceAdd, Nat.reduceSub, Nat.reduceAdd, decide_true, decide_false, Bool.not_true, Bool.not_false, List.size_toArray, List.length_cons, List.length_nil, rs, c_fixed, ba_size, d1]
  have d1 : decide ((1000 : Int) < (s.length : Nat)) = false := by simp; omega
  by_cases h2 : 1000 < t.length
  · have d2 : decide ((1000 : Int) < (t.length : Nat)) = true := by simp; omega
    simp only [go_sem, Nat.reduceBEq, Nat.reduceLeDiff, Nat.reduceEqDiff, true_and, and_true, ite_true, if_false, Int.cast_ofNat_Int, eq_self, Nat.add_assoc, Option.some.injEq, Int.reduceEq, Int.reduceLT, Int.reduceLE, Int.reduceAdd, Nat.reduceSub, Nat.reduceAdd, decide_true, decide_false, Bool.not_true, Bool.not_false, List.size_toArray, List.length_cons, List.length_nil, rs, c_fixed, ba_size, d1, d2]
  have d2 : decide ((1000 : Int) < (t.length : Nat)) = false := by simp; omega
  cases r1 : rightB 0 s with
  | false => simp only [go_sem, Nat.reduceBEq, Nat.reduceLeDiff, Nat.reduceEqDiff, true_and, and_true, ite_true, if_false, Int.cast_ofNat_Int, eq_self, Nat.add_assoc, Option.some.injEq, Int.reduceEq, Int.reduceLT, Int.reduceLE, Int.reduceAdd, Nat.reduceSub, Nat.reduceAdd, decide_true, decide_false, Bool.not_true, Bool.not_false, List.size_toArray, List.length_cons, List.length_nil, rs, c_fixed, ba_size, d1, d2, c_word, r1]
  | true =>
  cases r2 : rightB 0 t with
  | false => simp only [go_sem, Nat.reduceBEq, Nat.reduceLeDiff, Nat.reduceEqDiff, true_and, and_true, ite_true, if_false, Int.cast_ofNat_Int, eq_self, Nat.add_assoc, Option.some.injEq, Int.reduceEq, Int.reduceLT, Int.reduceLE, Int.reduceAdd, Nat.reduceSub, Nat.reduceAdd, decide_true, decide_false, Bool.not_true, Bool.not_false, List.size_toArray, List.length_cons, List.length_nil, rs, c_fixed, ba_size, d1, d2, c_word, r1, r2]
  | true =>
  have hw := words_lex r1 r2 (by omega) (by omega)
  have ha1 := add_ba s [32] (by simp; omega)
  have ha2 := add_ba (s ++ [32]) t (by simp; omega)
  have hpl : printB [⟨0, s, 0⟩, ⟨0, t, (s.length + 1 : Nat)⟩] = s ++ [32] ++ t := by
    simp only [printB, List.all_cons, List.all_nil, rightG, r1, r2, Bool.and_true, if_true, joined, List.map_cons, List.map_nil]
    simp [Lib.join_cons, Lib.joinTail]
  have hpr := fun H => c_print [⟨0, s, 0⟩, ⟨0, t, (s.length + 1 : Nat)⟩] (by simp) (by simp [joined, Lib.join_cons, Lib.joinTail]; omega) .sh H
  rw [hpl] at hpr
  simp only [go_sem, Nat.reduceBEq, Nat.reduceLeDiff, Nat.reduceEqDiff, true_and, and_true, ite_true, if_false, Int.cast_ofNat_Int, eq_self, Nat.add_assoc, Option.some.injEq, Int.reduceEq, Int.reduceLT, Int.reduceLE, Int.reduceAdd, Nat.reduceSub, Nat.reduceAdd, decide_true, decide_false, Bool.not_true, Bool.not_false, List.size_toArray, List.length_cons, List.length_nil, encG] at hpr
  have hsm := fun H => c_same [⟨0, s, 0⟩, ⟨0, t, (s.length + 1 : Nat)⟩] [⟨0, s, 0⟩, ⟨0, t, (s.length + 1 : Nat)⟩] (by simp) .sh .ex H
  simp only [go_sem, Nat.reduceBEq, Nat.reduceLeDiff, Nat.reduceEqDiff, true_and, and_true, ite_true, if_false, Int.cast_ofNat_Int, eq_self, Nat.add_assoc, Option.some.injEq, Int.reduceEq, Int.reduceLT, Int.reduceLE, Int.reduceAdd, Nat.reduceSub, Nat.reduceAdd, decide_true, decide_false, Bool.not_true, Bool.not_false, List.size_toArray, List.length_cons, List.length_nil, encG] at hsm
  have hw1 := wrap1 (show s.length + 1 ≤ 9223372036854775807 by omega)
  simp only [go_sem, Nat.reduceBEq, Nat.reduceLeDiff, Nat.reduceEqDiff, true_and, and_true, ite_true, if_false, Int.cast_ofNat_Int, eq_self, Nat.add_assoc, Option.some.injEq, Int.reduceEq, Int.reduceLT, Int.reduceLE, Int.reduceAdd, Nat.reduceSub, Nat.reduceAdd, decide_true, decide_false, Bool.not_true, Bool.not_false, List.size_toArray, List.length_cons, List.length_nil, rs, c_fixed, ba_size, d1, d2, c_word, r1, r2, ha1, ha2, c_lex, hw, encLex, encFault, encTok, hw1, hpr, hsm]
theorem LexWords_walk (a0 a1 : ByteArray) (w : World) (_ : a0.size ≤ maxLen) (_ : a1.size ≤ maxLen) : Calls Try.prog 7 #[.string a0, .string a1] w fun e w' => e = .returned (.bool true) ∧ Below w.heap.size w w' := by
  refine law_calls cfg_ok (args := [.lit (.string a0), .lit (.string a1)]) ?_ (RelL.cons (.lit _) (RelL.cons (.lit _) (RelL.nil _ _)))
  rw [ba_eta a0, ba_eta a1]
  exact lex_words _ _ _
end Go.Proofs.Ytiiaajajhkdemaa.VA
