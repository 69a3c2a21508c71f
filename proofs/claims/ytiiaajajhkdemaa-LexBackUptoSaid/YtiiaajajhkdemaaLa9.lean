/- What is proved: what Print and the law's fixed calls answer, in the abstract interpreter (VA), and that the law LexReads answers true there. Condition, of Print: no more tokens than a machine holds, no longer print. -/
import Derived.Test.YtiiaajajhkdemaaLa8
namespace Go.Proofs.Ytiiaajajhkdemaa.VA
open Go Go.RowKit
set_option linter.unusedSimpArgs false

def encS (t : List UInt8) : List AV := [.lit (.string (ba t))]
theorem sanL_encS (t : List UInt8) : sanL (encS t) = encS t := by simp only [encS, go_sem]
@[go_sem] theorem sanLL_encS (l : List (List UInt8)) : sanLL (l.map encS) = l.map encS := sanLL_of encS sanL_encS l
theorem strs_encS (l : List (List UInt8)) : strs (l.map encS) = some l := by
  induction l with
  | nil => rfl
  | cons x l ih => simp [strs, encS] at ih ⊢; simp [ih]
theorem zr_str : tZero Try.prog 9 = some [.lit (.string ⟨#[]⟩)] := by kernel_rfl
@[go_sem] theorem bs1_str (t : ByteArray) : aBuildSlice Try.prog 35 1 [(0, .lit (.string t))] = some (.sl .ex [[.lit (.string t)]]) :=
  build1 el_str (by decide) zr_str rfl rfl (.lit (.string t)) rfl rfl
theorem c_join (l : List (List UInt8)) (sep : List UInt8) (hj : (joined sep l).length ≤ 140737488355328) (hl : l.length ≤ 140737488355328) (o : Own) (H : Heap) :
    calls Try.prog cfg 27 [.sl o (l.map encS), .lit (.string (ba sep))] H = some (.ret (.lit (.string (ba (joined sep l)))) H) := by
  refine calls_told (h := tJoin) rfl ?_ H
  simp only [go_sem, tJoin, strs_encS, ba_list, if_pos (And.intro hj hl)]
def printB (l : List GTok) : List UInt8 := if l.all rightG then joined [32] (l.map (·.text)) else []
set_option maxRecDepth 20000 in
theorem c_print (l : List GTok) (hlen : l.length ≤ 4398046511104) (hj : (joined [32] (l.map (·.text))).length ≤ 140737488355328) (o : Own) (H : Heap) :
    calls Try.prog cfg 12 [.sl o (l.map encG)] H = some (.ret (.lit (.string (ba (printB l)))) H) := by
  refine calls_pure (fn := Try.f12) rfl rfl rfl rfl rfl ?_ H
  have rs : Try.f12.results.toList = [.tmp 2] := rfl
  have hmay := fun H => c_may l (by omega) .sh H
  cases hm : l.all rightG with
  | false =>
    rw [hm] at hmay
    simp only [go_sem, Nat.reduceBEq, Nat.reduceLeDiff, Nat.reduceEqDiff, true_and, and_true, ite_true, if_false, Int.cast_ofNat_Int, eq_self, Nat.add_assoc, Option.some.injEq, Int.reduceEq, Int.reduceLT, Int.reduceLE, Int.reduceAdd, Nat.reduceSub, Nat.reduceAdd, decide_true, decide_false, Bool.not_true, Bool.not_false, List.size_toArray, List.length_cons, List.length_nil, rs, hmay, printB, hm]
    rfl
  | true =>
    rw [hm] at hmay
    have hp : printB l = joined [32] (l.map (·.text)) := by simp only [printB, hm, if_true]
    rw [hp]
    simp only [go_sem, Nat.reduceBEq, Nat.reduceLeDiff, Nat.reduceEqDiff, true_and, and_true, ite_true, if_false, Int.cast_ofNat_Int, eq_self, Nat.add_assoc, Option.some.injEq, Int.reduceEq, Int.reduceLT, Int.reduceLE, Int.reduceAdd, Nat.reduceSub, Nat.reduceAdd, decide_true, decide_false, Bool.not_true, Bool.not_false, List.size_toArray, List.length_cons, List.length_nil, rs, hmay, List.length_map]
    refine W_loop_ind (fun k e H => ∃ (i : Nat) (o : Own), k = l.length - i ∧ i ≤ l.length ∧ gget .bad e 9 = .sl .sh (l.map encG) ∧ gget .bad e 10 = .lit (.int .i64 (l.length : Nat)) ∧ gget .bad e 11 = .lit (.int .i64 (i : Nat)) ∧
        gget .bad e 3 = .sl o (((l.take i).map (·.text)).map encS) ∧ OwnOk H o 9 1)
      l.length ⟨0, .nil, rfl, by omega, by simp only [go_sem, Nat.reduceBEq, Nat.reduceLeDiff, Nat.reduceEqDiff, true_and, and_true, ite_true, if_false, Int.cast_ofNat_Int, eq_self, Nat.add_assoc, Option.some.injEq, Int.reduceEq, Int.reduceLT, Int.reduceLE, Int.reduceAdd, Nat.reduceSub, Nat.reduceAdd, decide_true, decide_false, Bool.not_true, Bool.not_false, List.size_toArray, List.length_cons, List.length_nil], by simp only [go_sem, Nat.reduceBEq, Nat.reduceLeDiff, Nat.reduceEqDiff, true_and, and_true, ite_true, if_false, Int.cast_ofNat_Int, eq_self, Nat.add_assoc, Option.some.injEq, Int.reduceEq, Int.reduceLT, Int.reduceLE, Int.reduceAdd, Nat.reduceSub, Nat.reduceAdd, decide_true, decide_false, Bool.not_true, Bool.not_false, List.size_toArray, List.length_cons, List.length_nil], by simp only [go_sem, Nat.reduceBEq, Nat.reduceLeDiff, Nat.reduceEqDiff, true_and, and_true, ite_true, if_false, Int.cast_ofNat_Int, eq_self, Nat.add_assoc, Option.some.injEq, Int.reduceEq, Int.reduceLT, Int.reduceLE, Int.reduceAdd, Nat.reduceSub, Nat.reduceAdd, decide_true, decide_false, Bool.not_true, Bool.not_false, List.size_toArray, List.length_cons, List.length_nil], by simp only [go_sem, Nat.reduceBEq, Nat.reduceLeDiff, Nat.reduceEqDiff, true_and, and_true, ite_true, if_false, Int.cast_ofNat_Int, eq_self, Nat.add_assoc, Option.some.injEq, Int.reduceEq, Int.reduceLT, Int.reduceLE, Int.reduceAdd, Nat.reduceSub, Nat.reduceAdd, decide_true, decide_false, Bool.not_true, Bool.not_false, List.size_toArray, List.length_cons, List.length_nil], by simp only [go_sem, Nat.reduceBEq, Nat.reduceLeDiff, Nat.reduceEqDiff, true_and, and_true, ite_true, if_false, Int.cast_ofNat_Int, eq_self, Nat.add_assoc, Option.some.injEq, Int.reduceEq, Int.reduceLT, Int.reduceLE, Int.reduceAdd, Nat.reduceSub, Nat.reduceAdd, decide_true, decide_false, Bool.not_true, Bool.not_false, List.size_toArray, List.length_cons, List.length_nil]⟩ ?_
    rintro k ih e H ⟨i, o, rfl, hle, h9, h10, h11, h3, ho⟩
    by_cases hlt : i < l.length
    · have hlt' : decide ((i : Int) < (l.length : Nat)) = true := by simp; omega
      have ha := iad_encG (t := 37) (bs := 32) (o := .sh) hlt
      have htake : l.take (i + 1) = l.take i ++ [l.getD i default] := by
        rw [List.take_succ_eq_append_getElem hlt, List.getD_eq_getElem?_getD, List.getElem?_eq_getElem hlt]; rfl
      generalize l.getD i default = x at htake ha
      have hap : ∀ (v : AV) (H' : Heap) (id : Nat), OwnOk H' o 9 1 → aAppend Try.prog 35 (.sl o (((l.take i).map (·.text)).map encS)) (.sl .ex [[v]]) H' id =
          some (.sl (.own id 9 1) (((l.take i).map (·.text)).map encS ++ sanLL [[v]]), ownUs o id, ownRs o) := fun v H' id hh =>
        append_eq el_str zo_str (by omega) (by simp; omega) (by simp; omega) rfl H' id hh
      have hw1 := wrap1 (show i + 1 ≤ 9223372036854775807 by omega)
      obtain ⟨m, hm'⟩ : ∃ m, H.next = m := ⟨_, rfl⟩
      simp only [go_sem, Nat.reduceBEq, Nat.reduceLeDiff, Nat.reduceEqDiff, true_and, and_true, ite_true, if_false, Int.cast_ofNat_Int, eq_self, Nat.add_assoc, Option.some.injEq, Int.reduceEq, Int.reduceLT, Int.reduceLE, Int.reduceAdd, Nat.reduceSub, Nat.reduceAdd, decide_true, decide_false, Bool.not_true, Bool.not_false, List.size_toArray, List.length_cons, List.length_nil, h9, h10, h11, h3, hlt', ha, encG, hm', hap, ho, hw1]
      exact ih (l.length - (i + 1)) (by omega) _ _ ⟨i + 1, _, rfl, by omega, by simp only [go_sem, Nat.reduceBEq, Nat.reduceLeDiff, Nat.reduceEqDiff, true_and, and_true, ite_true, if_false, Int.cast_ofNat_Int, eq_self, Nat.add_assoc, Option.some.injEq, Int.reduceEq, Int.reduceLT, Int.reduceLE, Int.reduceAdd, Nat.reduceSub, Nat.reduceAdd, decide_true, decide_false, Bool.not_true, Bool.not_false, List.size_toArray, List.length_cons, List.length_nil, h9], by simp only [go_sem, Nat.reduceBEq, Nat.reduceLeDiff, Nat.reduceEqDiff, true_and, and_true, ite_true, if_false, Int.cast_ofNat_Int, eq_self, Nat.add_assoc, Option.some.injEq, Int.reduceEq, Int.reduceLT, Int.reduceLE, Int.reduceAdd, Nat.reduceSub, Nat.reduceAdd, decide_true, decide_false, Bool.not_true, Bool.not_false, List.size_toArray, List.length_cons, List.length_nil, h10], by simp only [go_sem, Nat.reduceBEq, Nat.reduceLeDiff, Nat.reduceEqDiff, true_and, and_true, ite_true, if_false, Int.cast_ofNat_Int, eq_self, Nat.add_assoc, Option.some.injEq, Int.reduceEq, Int.reduceLT, Int.reduceLE, Int.reduceAdd, Nat.reduceSub, Nat.reduceAdd, decide_true, decide_false, Bool.not_true, Bool.not_false, List.size_toArray, List.length_cons, List.length_nil], by simp only [go_sem, Nat.reduceBEq, Nat.reduceLeDiff, Nat.reduceEqDiff, true_and, and_true, ite_true, if_false, Int.cast_ofNat_Int, eq_self, Nat.add_assoc, Option.some.injEq, Int.reduceEq, Int.reduceLT, Int.reduceLE, Int.reduceAdd, Nat.reduceSub, Nat.reduceAdd, decide_true, decide_false, Bool.not_true, Bool.not_false, List.size_toArray, List.length_cons, List.length_nil, htake, List.map_append, encS] <;> rfl, by simp only [go_sem, Nat.reduceBEq, Nat.reduceLeDiff, Nat.reduceEqDiff, true_and, and_true, ite_true, if_false, Int.cast_ofNat_Int, eq_self, Nat.add_assoc, Option.some.injEq, Int.reduceEq, Int.reduceLT, Int.reduceLE, Int.reduceAdd, Nat.reduceSub, Nat.reduceAdd, decide_true, decide_false, Bool.not_true, Bool.not_false, List.size_toArray, List.length_cons, List.length_nil]⟩
    · have hlt' : decide ((i : Int) < (l.length : Nat)) = false := by simp; omega
      rw [List.take_of_length_le (by omega)] at h3
      have hsep : (ByteArray.mk #[32]) = ba [32] := rfl
      simp only [go_sem, Nat.reduceBEq, Nat.reduceLeDiff, Nat.reduceEqDiff, true_and, and_true, ite_true, if_false, Int.cast_ofNat_Int, eq_self, Nat.add_assoc, Option.some.injEq, Int.reduceEq, Int.reduceLT, Int.reduceLE, Int.reduceAdd, Nat.reduceSub, Nat.reduceAdd, decide_true, decide_false, Bool.not_true, Bool.not_false, List.size_toArray, List.length_cons, List.length_nil, h9, h10, h11, h3, hlt', c_join _ _ hj (by simp; omega)]
end Go.Proofs.Ytiiaajajhkdemaa.VA
