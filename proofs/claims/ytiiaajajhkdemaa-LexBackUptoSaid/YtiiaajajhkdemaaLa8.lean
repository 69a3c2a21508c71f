/- What is proved: what May, Word, Print and the law's fixed calls answer, in the abstract interpreter (VA). Condition: no more tokens than a counter tells, no longer print than a machine holds. -/
import Derived.Test.YtiiaajajhkdemaaLa7
namespace Go.Proofs.Ytiiaajajhkdemaa.VA
open Go Go.RowKit
set_option linter.unusedSimpArgs false

def rightB (k : Int) (t : List UInt8) : Bool :=
  match lexAns t with
  | ([x], 0, _) => decide ((x.kind : Int) = k) && decide (x.text = t)
  | _ => false
def rightG (t : GTok) : Bool := rightB t.kind t.text
@[go_sem] theorem bxx_eq (v : AV) (id : Nat) : bxx v id = if v.cells.all AV.one = true then some (.val (.ptr id 0) [.box id v.cells] []) else none := rfl
@[go_sem] theorem iad_cons0 (t : TypeId) (n b : Nat) (o : Own) (e : List AV) (es : List (List AV)) : iad (some (t, n, b)) (.sl o (e :: es)) (some 0) = if e.length = n then some (.ep e) else none := rfl
@[go_sem] theorem iad_consS (t : TypeId) (n b i : Nat) (o : Own) (e : List AV) (es : List (List AV)) : iad (some (t, n, b)) (.sl o (e :: es)) (some (i + 1)) = iad (some (t, n, b)) (.sl o es) (some i) := rfl
theorem iad_encTok {t : TypeId} {bs : Nat} {o : Own} (x : Tok) (l : List Tok) : iad (some (t, 3, bs)) (.sl o ((x :: l).map encTok)) (some 0) = some (.ep (encTok x)) := rfl
set_option maxRecDepth 20000 in
theorem c_right (k a : Int) (t : List UInt8) (H : Heap) : calls Try.prog cfg 28 [.agg [.lit (.int .i64 k), .lit (.string (ba t)), .lit (.int .i64 a)]] H = some (.ret (.lit (.bool (rightB k t))) H) := by
  refine calls_pure (fn := Try.f28) rfl rfl rfl rfl rfl ?_ H
  have rs : Try.f28.results.toList = [.tmp 2] := rfl
  generalize hr : rightB k t = r
  unfold rightB at hr
  simp only [go_sem, Nat.reduceBEq, Nat.reduceLeDiff, Nat.reduceEqDiff, true_and, and_true, ite_true, if_false, Int.cast_ofNat_Int, eq_self, Nat.add_assoc, Option.some.injEq, Int.reduceEq, Int.reduceLT, Int.reduceLE, Int.reduceAdd, Nat.reduceSub, Nat.reduceAdd, decide_true, decide_false, Bool.not_true, Bool.not_false, List.size_toArray, List.length_cons, List.length_nil, rs, c_lex]
  generalize lexAns t = A at hr
  obtain ⟨ts, cd, p⟩ := A
  simp only [go_sem, Nat.reduceBEq, Nat.reduceLeDiff, Nat.reduceEqDiff, true_and, and_true, ite_true, if_false, Int.cast_ofNat_Int, eq_self, Nat.add_assoc, Option.some.injEq, Int.reduceEq, Int.reduceLT, Int.reduceLE, Int.reduceAdd, Nat.reduceSub, Nat.reduceAdd, decide_true, decide_false, Bool.not_true, Bool.not_false, List.size_toArray, List.length_cons, List.length_nil, encLex, encFault]
  refine W_draw [(12, 14), (21, 23)] (by kernel_rfl) ?_
  by_cases hc : cd = 0
  · subst hc
    have dc : decide ((0 : Int) = 0) = true := rfl
    cases ts with
    | nil =>
      have hr' : r = false := hr.symm
      simp only [go_sem, Nat.reduceBEq, Nat.reduceLeDiff, Nat.reduceEqDiff, true_and, and_true, ite_true, if_false, Int.cast_ofNat_Int, eq_self, Nat.add_assoc, Option.some.injEq, Int.reduceEq, Int.reduceLT, Int.reduceLE, Int.reduceAdd, Nat.reduceSub, Nat.reduceAdd, decide_true, decide_false, Bool.not_true, Bool.not_false, List.size_toArray, List.length_cons, List.length_nil, dc, List.map_nil, List.length_nil, hr']
    | cons x ts =>
      cases ts with
      | nil =>
        simp only at hr
        have d1 : decide ((1 : Int) = 1) = true := rfl
        by_cases h1 : (x.kind : Int) = k
        · have e1 : decide (((x.kind : Nat) : Int) = k) = true := by simp [h1]
          have e2 : decide (ba x.text = ba t) = decide (x.text = t) := by simp [ba_inj]
          have hr' : r = decide (x.text = t) := by rw [← hr, e1, Bool.true_and]
          simp only [go_sem, Nat.reduceBEq, Nat.reduceLeDiff, Nat.reduceEqDiff, true_and, and_true, ite_true, if_false, Int.cast_ofNat_Int, eq_self, Nat.add_assoc, Option.some.injEq, Int.reduceEq, Int.reduceLT, Int.reduceLE, Int.reduceAdd, Nat.reduceSub, Nat.reduceAdd, decide_true, decide_false, Bool.not_true, Bool.not_false, List.size_toArray, List.length_cons, List.length_nil, dc, d1, List.map_cons, List.map_nil, iad_encTok, encTok, e1, e2, hr']
        · have e1 : decide (((x.kind : Nat) : Int) = k) = false := by simp [h1]
          have hr' : r = false := by rw [← hr, e1, Bool.false_and]
          simp only [go_sem, Nat.reduceBEq, Nat.reduceLeDiff, Nat.reduceEqDiff, true_and, and_true, ite_true, if_false, Int.cast_ofNat_Int, eq_self, Nat.add_assoc, Option.some.injEq, Int.reduceEq, Int.reduceLT, Int.reduceLE, Int.reduceAdd, Nat.reduceSub, Nat.reduceAdd, decide_true, decide_false, Bool.not_true, Bool.not_false, List.size_toArray, List.length_cons, List.length_nil, dc, d1, List.map_cons, List.map_nil, iad_encTok, encTok, e1, hr']
      | cons y ts =>
        have hr' : r = false := hr.symm
        have d1 : decide (((ts.length + 1 + 1 : Nat) : Int) = 1) = false := by simp; omega
        simp only [go_sem, Nat.reduceBEq, Nat.reduceLeDiff, Nat.reduceEqDiff, true_and, and_true, ite_true, if_false, Int.cast_ofNat_Int, eq_self, Nat.add_assoc, Option.some.injEq, Int.reduceEq, Int.reduceLT, Int.reduceLE, Int.reduceAdd, Nat.reduceSub, Nat.reduceAdd, decide_true, decide_false, Bool.not_true, Bool.not_false, List.size_toArray, List.length_cons, List.length_nil, dc, d1, List.map_cons, List.length_map, hr']
  · have dc : decide (((cd : Nat) : Int) = 0) = false := by simp; omega
    have hr' : r = false := by
      rw [← hr]
      split
      · rename_i heq; simp at heq; exact absurd heq.2.1 hc
      · rfl
    simp only [go_sem, Nat.reduceBEq, Nat.reduceLeDiff, Nat.reduceEqDiff, true_and, and_true, ite_true, if_false, Int.cast_ofNat_Int, eq_self, Nat.add_assoc, Option.some.injEq, Int.reduceEq, Int.reduceLT, Int.reduceLE, Int.reduceAdd, Nat.reduceSub, Nat.reduceAdd, decide_true, decide_false, Bool.not_true, Bool.not_false, List.size_toArray, List.length_cons, List.length_nil, dc, hr']
theorem c_word (t : List UInt8) (H : Heap) : calls Try.prog cfg 15 [.lit (.string (ba t))] H = some (.ret (.lit (.bool (rightB 0 t))) H) := by
  refine calls_pure (fn := Try.f15) rfl rfl rfl rfl rfl ?_ H
  have rs : Try.f15.results.toList = [.tmp 2] := rfl
  simp only [go_sem, Nat.reduceBEq, Nat.reduceLeDiff, Nat.reduceEqDiff, true_and, and_true, ite_true, if_false, Int.cast_ofNat_Int, eq_self, Nat.add_assoc, Option.some.injEq, Int.reduceEq, Int.reduceLT, Int.reduceLE, Int.reduceAdd, Nat.reduceSub, Nat.reduceAdd, decide_true, decide_false, Bool.not_true, Bool.not_false, List.size_toArray, List.length_cons, List.length_nil, rs, c_right]
set_option maxRecDepth 20000 in
theorem c_may (l : List GTok) (hlen : l.length ≤ 9223372036854775806) (o : Own) (H : Heap) : calls Try.prog cfg 13 [.sl o (l.map encG)] H = some (.ret (.lit (.bool (l.all rightG))) H) := by
  refine calls_pure (fn := Try.f13) rfl rfl rfl rfl rfl ?_ H
  have rs : Try.f13.results.toList = [.tmp 2] := rfl
  generalize hr : l.all rightG = r
  simp only [go_sem, Nat.reduceBEq, Nat.reduceLeDiff, Nat.reduceEqDiff, true_and, and_true, ite_true, if_false, Int.cast_ofNat_Int, eq_self, Nat.add_assoc, Option.some.injEq, Int.reduceEq, Int.reduceLT, Int.reduceLE, Int.reduceAdd, Nat.reduceSub, Nat.reduceAdd, decide_true, decide_false, Bool.not_true, Bool.not_false, List.size_toArray, List.length_cons, List.length_nil, rs, List.length_map]
  refine W_loop_ind (fun k e H => ∃ i : Nat, k = l.length - i ∧ i ≤ l.length ∧ (l.drop i).all rightG = r ∧ gget .bad e 5 = .sl .sh (l.map encG) ∧ gget .bad e 6 = .lit (.int .i64 (l.length : Nat)) ∧ gget .bad e 7 = .lit (.int .i64 (i : Nat)))
    l.length ⟨0, rfl, by omega, hr, by simp only [go_sem, Nat.reduceBEq, Nat.reduceLeDiff, Nat.reduceEqDiff, true_and, and_true, ite_true, if_false, Int.cast_ofNat_Int, eq_self, Nat.add_assoc, Option.some.injEq, Int.reduceEq, Int.reduceLT, Int.reduceLE, Int.reduceAdd, Nat.reduceSub, Nat.reduceAdd, decide_true, decide_false, Bool.not_true, Bool.not_false, List.size_toArray, List.length_cons, List.length_nil], by simp only [go_sem, Nat.reduceBEq, Nat.reduceLeDiff, Nat.reduceEqDiff, true_and, and_true, ite_true, if_false, Int.cast_ofNat_Int, eq_self, Nat.add_assoc, Option.some.injEq, Int.reduceEq, Int.reduceLT, Int.reduceLE, Int.reduceAdd, Nat.reduceSub, Nat.reduceAdd, decide_true, decide_false, Bool.not_true, Bool.not_false, List.size_toArray, List.length_cons, List.length_nil], by simp only [go_sem, Nat.reduceBEq, Nat.reduceLeDiff, Nat.reduceEqDiff, true_and, and_true, ite_true, if_false, Int.cast_ofNat_Int, eq_self, Nat.add_assoc, Option.some.injEq, Int.reduceEq, Int.reduceLT, Int.reduceLE, Int.reduceAdd, Nat.reduceSub, Nat.reduceAdd, decide_true, decide_false, Bool.not_true, Bool.not_false, List.size_toArray, List.length_cons, List.length_nil]⟩ ?_
  rintro k ih e H ⟨i, rfl, hle, hR, h5, h6, h7⟩
  by_cases hlt : i < l.length
  · have hlt' : decide ((i : Int) < (l.length : Nat)) = true := by simp; omega
    rw [drop_cons' default hlt, List.all_cons] at hR
    have ha := iad_encG (t := 37) (bs := 32) (o := .sh) hlt
    generalize l.getD i default = x at hR ha
    have hw1 := wrap1 (show i + 1 ≤ 9223372036854775807 by omega)
    cases hx : rightG x with
    | true =>
      rw [hx, Bool.true_and] at hR
      have hx' : rightB x.kind x.text = true := hx
      simp only [go_sem, Nat.reduceBEq, Nat.reduceLeDiff, Nat.reduceEqDiff, true_and, and_true, ite_true, if_false, Int.cast_ofNat_Int, eq_self, Nat.add_assoc, Option.some.injEq, Int.reduceEq, Int.reduceLT, Int.reduceLE, Int.reduceAdd, Nat.reduceSub, Nat.reduceAdd, decide_true, decide_false, Bool.not_true, Bool.not_false, List.size_toArray, List.length_cons, List.length_nil, h5, h6, h7, hlt', ha, encG, c_right, hx', hw1]
      exact ih (l.length - (i + 1)) (by omega) _ _ ⟨i + 1, rfl, by omega, hR, by simp only [go_sem, Nat.reduceBEq, Nat.reduceLeDiff, Nat.reduceEqDiff, true_and, and_true, ite_true, if_false, Int.cast_ofNat_Int, eq_self, Nat.add_assoc, Option.some.injEq, Int.reduceEq, Int.reduceLT, Int.reduceLE, Int.reduceAdd, Nat.reduceSub, Nat.reduceAdd, decide_true, decide_false, Bool.not_true, Bool.not_false, List.size_toArray, List.length_cons, List.length_nil, h5], by simp only [go_sem, Nat.reduceBEq, Nat.reduceLeDiff, Nat.reduceEqDiff, true_and, and_true, ite_true, if_false, Int.cast_ofNat_Int, eq_self, Nat.add_assoc, Option.some.injEq, Int.reduceEq, Int.reduceLT, Int.reduceLE, Int.reduceAdd, Nat.reduceSub, Nat.reduceAdd, decide_true, decide_false, Bool.not_true, Bool.not_false, List.size_toArray, List.length_cons, List.length_nil, h6], by simp only [go_sem, Nat.reduceBEq, Nat.reduceLeDiff, Nat.reduceEqDiff, true_and, and_true, ite_true, if_false, Int.cast_ofNat_Int, eq_self, Nat.add_assoc, Option.some.injEq, Int.reduceEq, Int.reduceLT, Int.reduceLE, Int.reduceAdd, Nat.reduceSub, Nat.reduceAdd, decide_true, decide_false, Bool.not_true, Bool.not_false, List.size_toArray, List.length_cons, List.length_nil]⟩
    | false =>
      rw [hx, Bool.false_and] at hR
      have hx' : rightB x.kind x.text = false := hx
      simp only [go_sem, Nat.reduceBEq, Nat.reduceLeDiff, Nat.reduceEqDiff, true_and, and_true, ite_true, if_false, Int.cast_ofNat_Int, eq_self, Nat.add_assoc, Option.some.injEq, Int.reduceEq, Int.reduceLT, Int.reduceLE, Int.reduceAdd, Nat.reduceSub, Nat.reduceAdd, decide_true, decide_false, Bool.not_true, Bool.not_false, List.size_toArray, List.length_cons, List.length_nil, h5, h6, h7, hlt', ha, encG, c_right, hx', ← hR]
  · have hlt' : decide ((i : Int) < (l.length : Nat)) = false := by simp; omega
    rw [List.drop_of_length_le (by omega)] at hR
    have hR' : r = true := hR.symm
    simp only [go_sem, Nat.reduceBEq, Nat.reduceLeDiff, Nat.reduceEqDiff, true_and, and_true, ite_true, if_false, Int.cast_ofNat_Int, eq_self, Nat.add_assoc, Option.some.injEq, Int.reduceEq, Int.reduceLT, Int.reduceLE, Int.reduceAdd, Nat.reduceSub, Nat.reduceAdd, decide_true, decide_false, Bool.not_true, Bool.not_false, List.size_toArray, List.length_cons, List.length_nil, h5, h6, h7, hlt', hR']
end Go.Proofs.Ytiiaajajhkdemaa.VA
