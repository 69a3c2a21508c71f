/- What is proved: what Plain answers, in the abstract interpreter (VA); the law LexParts, called with two strings, returns true and leaves what is there alone. Condition, of Plain: no more tokens than a machine holds. -/
import Derived.Test.YtiiaajajhkdemaaLe1
import Derived.Test.YtiiaajajhkdemaaLp2
namespace Go.Proofs.Ytiiaajajhkdemaa.VA
open Go Go.RowKit
set_option linter.unusedSimpArgs false

def plainG (t : GTok) : GTok := ⟨t.kind, t.text, 0⟩
set_option maxRecDepth 20000 in
theorem c_plain (l : List GTok) (hlen : l.length ≤ 2199023255552) (o : Own) (H : Heap) :
    calls Try.prog cfg 14 [.sl o (l.map encG)] H = some (.ret (.sl .sh ((l.map plainG).map encG)) H) := by
  refine calls_pure (fn := Try.f14) rfl rfl rfl rfl rfl ?_ H
  have rs : Try.f14.results.toList = [.tmp 2] := rfl
  simp only [go_sem, Nat.reduceBEq, Nat.reduceLeDiff, Nat.reduceEqDiff, true_and, and_true, ite_true, if_false, Int.cast_ofNat_Int, eq_self, Nat.add_assoc, Option.some.injEq, Int.reduceEq, Int.reduceLT, Int.reduceLE, Int.reduceAdd, Nat.reduceSub, Nat.reduceAdd, decide_true, decide_false, Bool.not_true, Bool.not_false, List.size_toArray, List.length_cons, List.length_nil, rs]
  refine W_loop_ind (fun k e H => ∃ (i : Nat) (o : Own), k = l.length - i ∧ i ≤ l.length ∧ gget .bad e 0 = .sl .sh (l.map encG) ∧ gget .bad e 4 = .lit (.int .i64 (i : Nat)) ∧
      gget .bad e 3 = .sl o (((l.take i).map plainG).map encG) ∧ AppOk H o i 37 3)
    l.length ⟨0, .ex, rfl, by omega, by simp only [go_sem, Nat.reduceBEq, Nat.reduceLeDiff, Nat.reduceEqDiff, true_and, and_true, ite_true, if_false, Int.cast_ofNat_Int, eq_self, Nat.add_assoc, Option.some.injEq, Int.reduceEq, Int.reduceLT, Int.reduceLE, Int.reduceAdd, Nat.reduceSub, Nat.reduceAdd, decide_true, decide_false, Bool.not_true, Bool.not_false, List.size_toArray, List.length_cons, List.length_nil], by simp only [go_sem, Nat.reduceBEq, Nat.reduceLeDiff, Nat.reduceEqDiff, true_and, and_true, ite_true, if_false, Int.cast_ofNat_Int, eq_self, Nat.add_assoc, Option.some.injEq, Int.reduceEq, Int.reduceLT, Int.reduceLE, Int.reduceAdd, Nat.reduceSub, Nat.reduceAdd, decide_true, decide_false, Bool.not_true, Bool.not_false, List.size_toArray, List.length_cons, List.length_nil] <;> rfl, by simp only [go_sem, Nat.reduceBEq, Nat.reduceLeDiff, Nat.reduceEqDiff, true_and, and_true, ite_true, if_false, Int.cast_ofNat_Int, eq_self, Nat.add_assoc, Option.some.injEq, Int.reduceEq, Int.reduceLT, Int.reduceLE, Int.reduceAdd, Nat.reduceSub, Nat.reduceAdd, decide_true, decide_false, Bool.not_true, Bool.not_false, List.size_toArray, List.length_cons, List.length_nil, List.take_zero] <;> rfl, by simp only [go_sem, Nat.reduceBEq, Nat.reduceLeDiff, Nat.reduceEqDiff, true_and, and_true, ite_true, if_false, Int.cast_ofNat_Int, eq_self, Nat.add_assoc, Option.some.injEq, Int.reduceEq, Int.reduceLT, Int.reduceLE, Int.reduceAdd, Nat.reduceSub, Nat.reduceAdd, decide_true, decide_false, Bool.not_true, Bool.not_false, List.size_toArray, List.length_cons, List.length_nil]⟩ ?_
  rintro k ih e H ⟨i, o, rfl, hle, h0, h4, h3, ho⟩
  by_cases hlt : i < l.length
  · have hlt' : decide ((i : Int) < (l.length : Nat)) = true := by simp; omega
    have ha := iad_encG (t := 37) (bs := 32) (o := .sh) hlt
    have htake : l.take (i + 1) = l.take i ++ [l.getD i default] := by
      rw [List.take_succ_eq_append_getElem hlt, List.getD_eq_getElem?_getD, List.getElem?_eq_getElem hlt]; rfl
    generalize l.getD i default = x at htake ha
    have hap : ∀ (v0 v1 v2 : AV) (H' : Heap) (id : Nat), AppOk H' o i 37 3 → aAppend Try.prog 22 (.sl o (((l.take i).map plainG).map encG)) (.sl .ex [[v0, v1, v2]]) H' id =
        some (.sl (.own id 37 3) (((l.take i).map plainG).map encG ++ sanLL [[v0, v1, v2]]), ownUs o id, ownRs o) := fun v0 v1 v2 H' id hh =>
      append_any el_tok zo_tok (by omega) (by simp; omega) (by simp; omega) rfl H' id (by simpa [Nat.min_eq_left hle] using hh)
    have hw1 := wrap1 (show i + 1 ≤ 9223372036854775807 by omega)
    simp only [go_sem, Nat.reduceBEq, Nat.reduceLeDiff, Nat.reduceEqDiff, true_and, and_true, ite_true, if_false, Int.cast_ofNat_Int, eq_self, Nat.add_assoc, Option.some.injEq, Int.reduceEq, Int.reduceLT, Int.reduceLE, Int.reduceAdd, Nat.reduceSub, Nat.reduceAdd, decide_true, decide_false, Bool.not_true, Bool.not_false, List.size_toArray, List.length_cons, List.length_nil, h0, h4, h3, List.length_map, hlt']
    refine W_draw [(5, 10)] (by kernel_rfl) ?_
    simp only [go_sem, Nat.reduceBEq, Nat.reduceLeDiff, Nat.reduceEqDiff, true_and, and_true, ite_true, if_false, Int.cast_ofNat_Int, eq_self, Nat.add_assoc, Option.some.injEq, Int.reduceEq, Int.reduceLT, Int.reduceLE, Int.reduceAdd, Nat.reduceSub, Nat.reduceAdd, decide_true, decide_false, Bool.not_true, Bool.not_false, List.size_toArray, List.length_cons, List.length_nil, h0, h4, h3, ha, encG, bs1_tok, hap, ho, hw1]
    exact ih (l.length - (i + 1)) (by omega) _ _ ⟨i + 1, _, rfl, by omega, by simp only [go_sem, Nat.reduceBEq, Nat.reduceLeDiff, Nat.reduceEqDiff, true_and, and_true, ite_true, if_false, Int.cast_ofNat_Int, eq_self, Nat.add_assoc, Option.some.injEq, Int.reduceEq, Int.reduceLT, Int.reduceLE, Int.reduceAdd, Nat.reduceSub, Nat.reduceAdd, decide_true, decide_false, Bool.not_true, Bool.not_false, List.size_toArray, List.length_cons, List.length_nil, h0], by simp only [go_sem, Nat.reduceBEq, Nat.reduceLeDiff, Nat.reduceEqDiff, true_and, and_true, ite_true, if_false, Int.cast_ofNat_Int, eq_self, Nat.add_assoc, Option.some.injEq, Int.reduceEq, Int.reduceLT, Int.reduceLE, Int.reduceAdd, Nat.reduceSub, Nat.reduceAdd, decide_true, decide_false, Bool.not_true, Bool.not_false, List.size_toArray, List.length_cons, List.length_nil], by simp only [go_sem, Nat.reduceBEq, Nat.reduceLeDiff, Nat.reduceEqDiff, true_and, and_true, ite_true, if_false, Int.cast_ofNat_Int, eq_self, Nat.add_assoc, Option.some.injEq, Int.reduceEq, Int.reduceLT, Int.reduceLE, Int.reduceAdd, Nat.reduceSub, Nat.reduceAdd, decide_true, decide_false, Bool.not_true, Bool.not_false, List.size_toArray, List.length_cons, List.length_nil, htake, List.map_append, encG, plainG] <;> rfl, by simp only [go_sem, Nat.reduceBEq, Nat.reduceLeDiff, Nat.reduceEqDiff, true_and, and_true, ite_true, if_false, Int.cast_ofNat_Int, eq_self, Nat.add_assoc, Option.some.injEq, Int.reduceEq, Int.reduceLT, Int.reduceLE, Int.reduceAdd, Nat.reduceSub, Nat.reduceAdd, decide_true, decide_false, Bool.not_true, Bool.not_false, List.size_toArray, List.length_cons, List.length_nil]⟩
  · have hlt' : decide ((i : Int) < (l.length : Nat)) = false := by simp; omega
    rw [List.take_of_length_le (by omega)] at h3
    simp only [go_sem, Nat.reduceBEq, Nat.reduceLeDiff, Nat.reduceEqDiff, true_and, and_true, ite_true, if_false, Int.cast_ofNat_Int, eq_self, Nat.add_assoc, Option.some.injEq, Int.reduceEq, Int.reduceLT, Int.reduceLE, Int.reduceAdd, Nat.reduceSub, Nat.reduceAdd, decide_true, decide_false, Bool.not_true, Bool.not_false, List.size_toArray, List.length_cons, List.length_nil, h0, h4, h3, List.length_map, hlt']
theorem c_plainT (l : List Tok) (hlen : l.length ≤ 2199023255552) (o : Own) (H : Heap) :
    calls Try.prog cfg 14 [.sl o (l.map encTok)] H = some (.ret (.sl .sh (((l.map Tok.g).map plainG).map encG)) H) := by
  rw [enc_g]; exact c_plain _ (by simpa using hlen) o H
end Go.Proofs.Ytiiaajajhkdemaa.VA
