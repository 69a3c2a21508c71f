/- What is proved: what the reference's operand answers, in the abstract interpreter (VA). Condition: no more tokens than a machine holds.
What is proved: what the reference's lists of operands and names answer, in the abstract interpreter (VA). Condition: no more tokens than a machine holds.
What is proved: what the reference's object and value answer, in the abstract interpreter (VA). Condition: no more tokens than a machine holds.
What is proved: which functions write to their caller's memory, one by one, in the abstract interpreter (VA). No condition.
What is proved: what the reference's value answers, in the abstract interpreter (VA). Condition: no more tokens than a machine holds.
What is proved: what the reference's statements and blocks answer, in the abstract interpreter (VA). Condition: no more tokens than a machine holds.
What is proved: what the reference's reader answers for tokens, in the abstract interpreter (VA). Condition: no more tokens than a machine holds.
What is proved: whether lists of texts and of statements are the same, as the reference tells, in the abstract interpreter (VA). Condition: no list is longer than a counter tells.
What is proved: whether two programs are the same, as the parser tells, in the abstract interpreter (VA). Condition: no list is longer than a counter tells.
What is proved: rules for the parser's functions, which write to the parser and may panic with a fault, in the abstract interpreter (VA). No condition. -/
import Derived.Test.YtghhkbigmmjanaaGreatDoorM5
import Derived.Test.YtghhkbigmmjanaaGreatDoorM3
/-! Pd3 -/
namespace Go.Proofs.YtghhkbigmmjanaaGreatDoor.VA
open Go Go.RowKit
attribute [local go_sem] Nat.add_eq_left Nat.left_eq_add true_and and_true ite_true if_false Int.cast_ofNat_Int eq_self Nat.add_assoc Option.some.injEq decide_true decide_false Bool.not_true Bool.not_false List.size_toArray List.length_cons List.length_nil
set_option linter.unusedSimpArgs false
set_option maxRecDepth 100000

/-! ### numbers -/
theorem numOf_snoc (t : List UInt8) (b : UInt8) : numOf (t ++ [b]) = 10 * numOf t + (b.toNat - 48) := by simp [numOf]
theorem numOf_lt : ∀ (n : Nat) (t : List UInt8), t.length = n → t.all (fun b => isDigit b.toNat) = true → numOf t < 10 ^ n
  | 0, t, h, _ => by rw [List.eq_nil_of_length_eq_zero h]; simp [numOf]
  | n + 1, t, h, hd => by
    have hne : t ≠ [] := by intro e; rw [e] at h; cases h
    rw [← List.dropLast_concat_getLast hne] at hd ⊢
    rw [numOf_snoc]
    rw [List.all_append, Bool.and_eq_true] at hd
    have h1 := numOf_lt n t.dropLast (by rw [List.length_dropLast, h]; rfl) hd.1
    have h2 : isDigit (t.getLast hne).toNat = true := by simpa using hd.2
    simp only [isDigit, Bool.and_eq_true, decide_eq_true_eq] at h2
    rw [Nat.pow_succ]
    omega
theorem right_num {x : GTok} (h : rightG x = true) (hk : x.kind = 1) : x.text.all (fun b => isDigit b.toNat) = true ∧ 1 ≤ x.text.length ∧ x.text.length ≤ 9 := by
  have h' : rightR x.kind x.text = true := by rw [← rightB_R]; exact h
  rw [hk] at h'
  simp only [rightR, Bool.and_eq_true, decide_eq_true_eq] at h'
  obtain ⟨⟨h1, h2⟩, h3, h4⟩ := h'
  exact ⟨by simpa [okB] using h3, h1, by simpa [endB] using h4⟩
section
variable {l : List GTok} {en : Int}
set_option maxRecDepth 20000 in
theorem c_rOperand (hlen : l.length ≤ LM) (s : PS) (H : Heap) : calls Tryz.prog cfg 105 [.agg (cS l en s)] H =
    some (.ret (.tup [.agg (cS l en (operand l en s).1), .agg (encOpd (operand l en s).2)]) H) := by
  refine calls_pure (fn := Tryz.f105) rfl rfl rfl rfl rfl ?_ H
  have rs : Tryz.f105.results.toList = [.cell 2 80, .cell 3 50] := rfl
  generalize hr : operand l en s = r
  unfold operand at hr
  have hd : ∀ a b : List UInt8, decide (ba a = ba b) = (a == b) := fun a b => by rw [Bool.eq_iff_iff]; simp [ba_inj]
  have hmN : ba tNull = ba [110, 117, 108, 108] := rfl
  have hmT : ba tTrue = ba [116, 114, 117, 101] := rfl
  have hmF : ba tFalse = ba [102, 97, 108, 115, 101] := rfl
  cases h1 : isT l s [110, 117, 108, 108] with
  | true =>
    obtain ⟨x, hx, hx1, hx2, hx3⟩ := isT_some h1
    have hlt := isT_at h1
    have hw := at_wrap hlen hlt
    have ha := iad_encG (t := 66) (bs := 32) (o := .sh) hlt
    rw [(tk_some hx).2.2.2] at ha
    have d : (([110, 117, 108, 108] : List UInt8) == [110, 117, 108, 108]) = true := rfl
    have hr' : r = (s.adv, ⟨0, 0, []⟩) := by rw [← hr, show isT l s tNull = true from h1]
    have e0 : ([.lit (.int .i64 0), .lit (.int .i64 0), .lit (.string (ba []))] : List AV) = encOpd ⟨0, 0, []⟩ := rfl
    simp only [go_sem, Nat.reduceBEq, Nat.reduceLeDiff, Nat.reduceEqDiff, Nat.reduceSub, Nat.reduceAdd, Int.reduceEq, Int.reduceLT, Int.reduceLE, Int.reduceAdd, rs, c_rIs, h1, ha, encG, hx2, hd, d, hw, hr', e0]
  | false =>
  rw [show isT l s tNull = false from h1] at hr
  simp only at hr
  cases h2 : isT l s [116, 114, 117, 101] with
  | true =>
    obtain ⟨x, hx, hx1, hx2, hx3⟩ := isT_some h2
    have hlt := isT_at h2
    have hw := at_wrap hlen hlt
    have ha := iad_encG (t := 66) (bs := 32) (o := .sh) hlt
    rw [(tk_some hx).2.2.2] at ha
    have d : (([116, 114, 117, 101] : List UInt8) == [110, 117, 108, 108]) = false := rfl
    have d2 : (([116, 114, 117, 101] : List UInt8) == [116, 114, 117, 101]) = true := rfl
    have hr' : r = (s.adv, ⟨1, 1, []⟩) := by rw [← hr, show isT l s tTrue = true from h2]
    have e0 : ([.lit (.int .i64 1), .lit (.int .i64 1), .lit (.string (ba []))] : List AV) = encOpd ⟨1, 1, []⟩ := rfl
    simp only [go_sem, Nat.reduceBEq, Nat.reduceLeDiff, Nat.reduceEqDiff, Nat.reduceSub, Nat.reduceAdd, Int.reduceEq, Int.reduceLT, Int.reduceLE, Int.reduceAdd, rs, c_rIs, h1, h2, ha, encG, hx2, hd, d, d2, hw, hr', e0]
    refine W_draw [(0, 1), (1, 2)] (by kernel_rfl) ?_
    simp only [go_sem, Nat.reduceBEq, Nat.reduceLeDiff, Nat.reduceEqDiff, Nat.reduceSub, Nat.reduceAdd, Int.reduceEq, Int.reduceLT, Int.reduceLE, Int.reduceAdd, rs, e0]
  | false =>
  rw [show isT l s tTrue = false from h2] at hr
  simp only at hr
  cases h3 : isT l s [102, 97, 108, 115, 101] with
  | true =>
    obtain ⟨x, hx, hx1, hx2, hx3⟩ := isT_some h3
    have hlt := isT_at h3
    have hw := at_wrap hlen hlt
    have ha := iad_encG (t := 66) (bs := 32) (o := .sh) hlt
    rw [(tk_some hx).2.2.2] at ha
    have d : (([102, 97, 108, 115, 101] : List UInt8) == [110, 117, 108, 108]) = false := rfl
    have d2 : (([102, 97, 108, 115, 101] : List UInt8) == [116, 114, 117, 101]) = false := rfl
    have hr' : r = (s.adv, ⟨1, 0, []⟩) := by rw [← hr, show isT l s tFalse = true from h3]
    have e0 : ([.lit (.int .i64 1), .lit (.int .i64 0), .lit (.string (ba []))] : List AV) = encOpd ⟨1, 0, []⟩ := rfl
    simp only [go_sem, Nat.reduceBEq, Nat.reduceLeDiff, Nat.reduceEqDiff, Nat.reduceSub, Nat.reduceAdd, Int.reduceEq, Int.reduceLT, Int.reduceLE, Int.reduceAdd, rs, c_rIs, h1, h2, h3, ha, encG, hx2, hd, d, d2, hw, hr', e0]
    refine W_draw [(0, 1), (1, 2)] (by kernel_rfl) ?_
    simp only [go_sem, Nat.reduceBEq, Nat.reduceLeDiff, Nat.reduceEqDiff, Nat.reduceSub, Nat.reduceAdd, Int.reduceEq, Int.reduceLT, Int.reduceLE, Int.reduceAdd, rs, e0]
  | false =>
  rw [show isT l s tFalse = false from h3] at hr
  simp only at hr
  have nameC := c_rName2 (en := en) hlen
  cases h4 : isT l s [38] with
  | true =>
    have hw := at_wrap hlen (isT_at h4)
    rw [h4] at hr
    simp only at hr
    have e0 : ([.lit (.int .i64 3), .lit (.int .i64 0), .lit (.string (ba (nameP l en s.adv).2))] : List AV) = encOpd ⟨3, 0, (nameP l en s.adv).2⟩ := rfl
    simp only [go_sem, Nat.reduceBEq, Nat.reduceLeDiff, Nat.reduceEqDiff, Nat.reduceSub, Nat.reduceAdd, Int.reduceEq, Int.reduceLT, Int.reduceLE, Int.reduceAdd, rs, c_rIs, h1, h2, h3, h4, hw, nameC, e0, ← hr]
  | false =>
  rw [h4] at hr
  simp only at hr
  have e4 : ([.lit (.int .i64 4), .lit (.int .i64 0), .lit (.string (ba (nameP l en s).2))] : List AV) = encOpd ⟨4, 0, (nameP l en s).2⟩ := rfl
  have last : isNum l s = false → r = ((nameP l en s).1, ⟨4, 0, (nameP l en s).2⟩) := fun h => by rw [← hr, h]
  have hk : ∀ x, tk l s = some x → isNum l s = (rightG x && decide (x.kind = 1)) := fun x hx => by simp only [isNum, hx]
  cases hf : s.f with
  | some q =>
    have hn : isNum l s = false := by simp only [isNum, tk_bad hf]
    simp only [go_sem, Nat.reduceBEq, Nat.reduceLeDiff, Nat.reduceEqDiff, Nat.reduceSub, Nat.reduceAdd, Int.reduceEq, Int.reduceLT, Int.reduceLE, Int.reduceAdd, rs, c_rIs, h1, h2, h3, h4, c_rOk, ok_some hf, nameC, e4, last hn]
  | none =>
    by_cases hlt : s.at_ < l.length
    · have hlt' : decide ((s.at_ : Int) < (l.length : Nat)) = true := by simp; omega
      have hx := tk_in hf hlt
      have ha := iad_encG (t := 66) (bs := 32) (o := .sh) hlt
      have htx : text l s = (l.getD s.at_ default).text := rfl
      generalize hxx : l.getD s.at_ default = x at hx ha htx
      have hk := hk x hx
      by_cases k1 : x.kind = 1
      · have d1 : decide (x.kind = 1) = true := by simp [k1]
        rw [d1, Bool.and_true] at hk
        cases hg : rightB x.kind x.text with
        | true =>
          obtain ⟨n1, n2, n3⟩ := right_num (x := x) hg k1
          have hn : isNum l s = true := by rw [hk]; exact hg
          rw [hn, htx] at hr
          simp only at hr
          have hw := at_wrap hlen hlt
          simp only [go_sem, Nat.reduceBEq, Nat.reduceLeDiff, Nat.reduceEqDiff, Nat.reduceSub, Nat.reduceAdd, Int.reduceEq, Int.reduceLT, Int.reduceLE, Int.reduceAdd, rs, c_rIs, h1, h2, h3, h4, c_rOk, ok_none hf, List.length_map, hlt', ha, encG, d1, c_rRight, hg]
          refine W_loop_ind (fun n e H => ∃ i : Nat, n = x.text.length - i ∧ i ≤ x.text.length ∧ gget .bad e 1 = .ptr 0 0 ∧ gget .bad e 2 = .ptr 1 0 ∧ gget .bad e 3 = .ptr 2 0 ∧ gget .bad e 8 = .lit (.int .i64 (numOf (x.text.take i) : Nat)) ∧
              gget .bad e 9 = .lit (.string (ba x.text)) ∧ gget .bad e 10 = .lit (.int .i64 (i : Nat)) ∧ H.get 0 = some (cS l en s) ∧ (∃ c0, H.get 1 = some c0 ∧ c0.length = 6) ∧ H.get 2 = some [.lit (.int .i64 0), .lit (.int .i64 0), .lit (.string (ba []))])
            x.text.length ⟨0, rfl, by omega, by simp only [go_sem, Nat.reduceBEq, Nat.reduceLeDiff, Nat.reduceEqDiff, Nat.reduceSub, Nat.reduceAdd, Int.reduceEq, Int.reduceLT, Int.reduceLE, Int.reduceAdd], by simp only [go_sem, Nat.reduceBEq, Nat.reduceLeDiff, Nat.reduceEqDiff, Nat.reduceSub, Nat.reduceAdd, Int.reduceEq, Int.reduceLT, Int.reduceLE, Int.reduceAdd], by simp only [go_sem, Nat.reduceBEq, Nat.reduceLeDiff, Nat.reduceEqDiff, Nat.reduceSub, Nat.reduceAdd, Int.reduceEq, Int.reduceLT, Int.reduceLE, Int.reduceAdd], by simp only [go_sem, Nat.reduceBEq, Nat.reduceLeDiff, Nat.reduceEqDiff, Nat.reduceSub, Nat.reduceAdd, Int.reduceEq, Int.reduceLT, Int.reduceLE, Int.reduceAdd] <;> rfl, by simp only [go_sem, Nat.reduceBEq, Nat.reduceLeDiff, Nat.reduceEqDiff, Nat.reduceSub, Nat.reduceAdd, Int.reduceEq, Int.reduceLT, Int.reduceLE, Int.reduceAdd], by simp only [go_sem, Nat.reduceBEq, Nat.reduceLeDiff, Nat.reduceEqDiff, Nat.reduceSub, Nat.reduceAdd, Int.reduceEq, Int.reduceLT, Int.reduceLE, Int.reduceAdd] <;> rfl, by simp only [go_sem, Nat.reduceBEq, Nat.reduceLeDiff, Nat.reduceEqDiff, Nat.reduceSub, Nat.reduceAdd, Int.reduceEq, Int.reduceLT, Int.reduceLE, Int.reduceAdd], ⟨_, by simp only [go_sem, Nat.reduceBEq, Nat.reduceLeDiff, Nat.reduceEqDiff, Nat.reduceSub, Nat.reduceAdd, Int.reduceEq, Int.reduceLT, Int.reduceLE, Int.reduceAdd] <;> rfl, rfl⟩, by simp only [go_sem, Nat.reduceBEq, Nat.reduceLeDiff, Nat.reduceEqDiff, Nat.reduceSub, Nat.reduceAdd, Int.reduceEq, Int.reduceLT, Int.reduceLE, Int.reduceAdd]⟩ ?_
          rintro n ih e H ⟨i, rfl, hle, q1, q2, q3, q8, q9, q10, g0, ⟨c0, g1, g1l⟩, g2⟩
          by_cases hi : i < x.text.length
          · have hi' : decide ((i : Int) < (x.text.length : Nat)) = true := by simp; omega
            have hix := ixs_ba hi
            have hbd : isDigit (x.text.getD i 0).toNat = true := by
              rw [List.getD_eq_getElem?_getD, List.getElem?_eq_getElem hi]
              exact List.all_eq_true.1 n1 _ (List.getElem_mem hi)
            have htk : x.text.take (i + 1) = x.text.take i ++ [x.text.getD i 0] := by
              rw [List.take_succ_eq_append_getElem hi, List.getD_eq_getElem?_getD, List.getElem?_eq_getElem hi]; rfl
            have hb1 : numOf (x.text.take i) < 10 ^ i := numOf_lt i _ (by rw [List.length_take]; omega) (by
              rw [List.all_eq_true] at n1 ⊢
              exact fun y hy => n1 y (List.mem_of_mem_take hy))
            have hb2 : 10 ^ i ≤ 10 ^ 9 := Nat.pow_le_pow_right (by decide) (by omega)
            generalize x.text.getD i 0 = b at hix hbd htk
            generalize hm : numOf (x.text.take i) = m at hb1 q8
            simp only [isDigit, Bool.and_eq_true, decide_eq_true_eq] at hbd
            have w1 : IntKind.wrap .i64 (10 * (m : Int)) = ((10 * m : Nat) : Int) := by rw [wrap64 (by omega) (by omega)]; omega
            have w2 : IntKind.wrap .u8 ((b.toNat : Int) - 48) = ((b.toNat - 48 : Nat) : Int) := by simp only [IntKind.wrap, IntKind.bits, IntKind.signed]; simp; omega
            have w3 : IntKind.wrap .i64 ((b.toNat - 48 : Nat) : Int) = ((b.toNat - 48 : Nat) : Int) := wrap64 (by omega) (by omega)
            have w4 := wrapN (a := 10 * m) (b := b.toNat - 48) (by omega)
            have w5 := wrap1 (show i + 1 ≤ 9223372036854775807 by omega)
            have hnn : numOf (x.text.take (i + 1)) = 10 * m + (b.toNat - 48) := by rw [htk, numOf_snoc, hm]
            simp only [go_sem, Nat.reduceBEq, Nat.reduceLeDiff, Nat.reduceEqDiff, Nat.reduceSub, Nat.reduceAdd, Int.reduceEq, Int.reduceLT, Int.reduceLE, Int.reduceAdd, q1, q2, q3, q8, q9, q10, g0, g1, g2, ba_size, hi', hix, w1, w2, w3, w4, w5]
            exact ih (x.text.length - (i + 1)) (by omega) _ _ ⟨i + 1, rfl, by omega, by simp only [go_sem, Nat.reduceBEq, Nat.reduceLeDiff, Nat.reduceEqDiff, Nat.reduceSub, Nat.reduceAdd, Int.reduceEq, Int.reduceLT, Int.reduceLE, Int.reduceAdd, q1], by simp only [go_sem, Nat.reduceBEq, Nat.reduceLeDiff, Nat.reduceEqDiff, Nat.reduceSub, Nat.reduceAdd, Int.reduceEq, Int.reduceLT, Int.reduceLE, Int.reduceAdd, q2], by simp only [go_sem, Nat.reduceBEq, Nat.reduceLeDiff, Nat.reduceEqDiff, Nat.reduceSub, Nat.reduceAdd, Int.reduceEq, Int.reduceLT, Int.reduceLE, Int.reduceAdd, q3], by simp only [go_sem, Nat.reduceBEq, Nat.reduceLeDiff, Nat.reduceEqDiff, Nat.reduceSub, Nat.reduceAdd, Int.reduceEq, Int.reduceLT, Int.reduceLE, Int.reduceAdd, hnn], by simp only [go_sem, Nat.reduceBEq, Nat.reduceLeDiff, Nat.reduceEqDiff, Nat.reduceSub, Nat.reduceAdd, Int.reduceEq, Int.reduceLT, Int.reduceLE, Int.reduceAdd, q9], by simp only [go_sem, Nat.reduceBEq, Nat.reduceLeDiff, Nat.reduceEqDiff, Nat.reduceSub, Nat.reduceAdd, Int.reduceEq, Int.reduceLT, Int.reduceLE, Int.reduceAdd], by simp only [go_sem, Nat.reduceBEq, Nat.reduceLeDiff, Nat.reduceEqDiff, Nat.reduceSub, Nat.reduceAdd, Int.reduceEq, Int.reduceLT, Int.reduceLE, Int.reduceAdd, g0],
              ⟨c0, by simp only [go_sem, Nat.reduceBEq, Nat.reduceLeDiff, Nat.reduceEqDiff, Nat.reduceSub, Nat.reduceAdd, Int.reduceEq, Int.reduceLT, Int.reduceLE, Int.reduceAdd, g1], g1l⟩, by simp only [go_sem, Nat.reduceBEq, Nat.reduceLeDiff, Nat.reduceEqDiff, Nat.reduceSub, Nat.reduceAdd, Int.reduceEq, Int.reduceLT, Int.reduceLE, Int.reduceAdd, g2]⟩
          · have hi' : decide ((i : Int) < (x.text.length : Nat)) = false := by simp; omega
            have htk : x.text.take i = x.text := List.take_of_length_le (by omega)
            rw [htk] at q8
            have e2 : ([.lit (.int .i64 2), .lit (.int .i64 ((numOf x.text : Nat) : Int)), .lit (.string (ba []))] : List AV) = encOpd ⟨2, (numOf x.text : Nat), []⟩ := rfl
            have c6 : c0.drop 6 = [] := List.drop_of_length_le (by omega)
            have c7 : 6 ≤ c0.length := by omega
            simp only [go_sem, Nat.reduceBEq, Nat.reduceLeDiff, Nat.reduceEqDiff, Nat.reduceSub, Nat.reduceAdd, Int.reduceEq, Int.reduceLT, Int.reduceLE, Int.reduceAdd, rs, q1, q2, q3, q8, q9, q10, g0, g1, g2, ba_size, hi', hw, c6, c7, e2, ← hr]
        | false =>
          have hn : isNum l s = false := by rw [hk]; exact hg
          simp only [go_sem, Nat.reduceBEq, Nat.reduceLeDiff, Nat.reduceEqDiff, Nat.reduceSub, Nat.reduceAdd, Int.reduceEq, Int.reduceLT, Int.reduceLE, Int.reduceAdd, rs, c_rIs, h1, h2, h3, h4, c_rOk, ok_none hf, List.length_map, hlt', ha, encG, d1, c_rRight, hg, nameC, e4, last hn]
      · have d1 : decide (x.kind = 1) = false := by simp [k1]
        have hn : isNum l s = false := by rw [hk, d1, Bool.and_false]
        simp only [go_sem, Nat.reduceBEq, Nat.reduceLeDiff, Nat.reduceEqDiff, Nat.reduceSub, Nat.reduceAdd, Int.reduceEq, Int.reduceLT, Int.reduceLE, Int.reduceAdd, rs, c_rIs, h1, h2, h3, h4, c_rOk, ok_none hf, List.length_map, hlt', ha, encG, d1, nameC, e4, last hn]
    · have hlt' : decide ((s.at_ : Int) < (l.length : Nat)) = false := by simp; omega
      have hn : isNum l s = false := by simp only [isNum, tk_end hlt]
      simp only [go_sem, Nat.reduceBEq, Nat.reduceLeDiff, Nat.reduceEqDiff, Nat.reduceSub, Nat.reduceAdd, Int.reduceEq, Int.reduceLT, Int.reduceLE, Int.reduceAdd, rs, c_rIs, h1, h2, h3, h4, c_rOk, ok_none hf, List.length_map, hlt', nameC, e4, last hn]
end
end Go.Proofs.YtghhkbigmmjanaaGreatDoor.VA

/-! Pd4 -/
namespace Go.Proofs.YtghhkbigmmjanaaGreatDoor.VA
open Go Go.RowKit
attribute [local go_sem] Nat.add_eq_left Nat.left_eq_add true_and and_true ite_true if_false Int.cast_ofNat_Int eq_self Nat.add_assoc Option.some.injEq decide_true decide_false Bool.not_true Bool.not_false List.size_toArray List.length_cons List.length_nil
set_option linter.unusedSimpArgs false
set_option maxRecDepth 100000

section
variable {l : List GTok} {en : Int}
/-- How many rounds are left. -/
def ms (l : List GTok) (s : PS) : Nat := if s.ok = true then l.length - s.at_ + 1 else 0
theorem ms_lt {s s' : PS} (h : Lt1 l s s') (hk : s.ok = true) : ms l s' < ms l s := by
  unfold ms
  rw [if_pos hk]
  by_cases hk' : s'.ok = true
  · obtain ⟨_, h2, h3⟩ := h hk'
    rw [if_pos hk']; omega
  · rw [if_neg hk']; omega
theorem ms_le (s : PS) : ms l s ≤ l.length + 1 := by unfold ms; split <;> omega
theorem ms_FN (hlen : l.length ≤ LM) (s : PS) : ms l s < FN := by have := ms_le (l := l) s; unfold LM at hlen; unfold FN; omega
theorem listF_bad {X : Type} (one : PS → X → PS × X) (end_ : List UInt8) {s : PS} (h : s.ok = false) (x : X) : ∀ n, listF l en one end_ n s x = (s, x)
  | 0 => rfl
  | n + 1 => by simp only [listF, h]
theorem listF_end {X : Type} {one : PS → X → PS × X} {end_ : List UInt8} {s : PS} {x : X} {n : Nat} (h : s.ok = true) (hn : ms l s < n) (h2 : isT l (one s x).1 end_ = true) : listF l en one end_ n s x = ((one s x).1.adv, (one s x).2) := by
  obtain ⟨n, rfl⟩ : ∃ k, n = k + 1 := ⟨n - 1, by omega⟩
  simp only [listF, h, h2]
theorem listF_more {X : Type} {one : PS → X → PS × X} {end_ : List UInt8} {s : PS} {x : X} {n : Nat} (h : s.ok = true) (hn : ms l s < n) (h2 : isT l (one s x).1 end_ = false) :
    ∃ k, n = k + 1 ∧ listF l en one end_ n s x = listF l en one end_ k (need l en (one s x).1 [44]) (one s x).2 := by
  obtain ⟨k, rfl⟩ : ∃ k, n = k + 1 := ⟨n - 1, by omega⟩
  exact ⟨k, rfl, by simp only [listF, h, h2]⟩
theorem app_opd (hlen : l.length ≤ LM) {acc : List Opd} (h : acc.length ≤ l.length + 5) (o : Own) (x : Opd) (H : Heap) (id : Nat) (ho : AppOk H o acc.length 50 3) :
    aAppend Tryz.prog 36 (.sl o (acc.map encOpd)) (.sl .ex [encOpd x]) H id = some (.sl (.own id 50 3) ((acc ++ [x]).map encOpd), ownUs o id, ownRs o) := by
  rw [append_any el_sOpd zo_sOpd (by decide) (by simp; unfold LM at hlen; omega) (by simp; unfold LM at hlen; omega) (by rfl) H id (by simpa using ho)]
  simp [sanLL, sanL_encOpd]
theorem app_str (hlen : l.length ≤ LM) {acc : List (List UInt8)} (h : acc.length ≤ l.length + 5) (o : Own) (x : List UInt8) (H : Heap) (id : Nat) (ho : AppOk H o acc.length 9 1) :
    aAppend Tryz.prog 37 (.sl o (acc.map encStr)) (.sl .ex [encStr x]) H id = some (.sl (.own id 9 1) ((acc ++ [x]).map encStr), ownUs o id, ownRs o) := by
  rw [append_any el_str zo_str (by decide) (by simp; unfold LM at hlen; omega) (by simp; unfold LM at hlen; omega) (by rfl) H id (by simpa using ho)]
  simp [sanLL, sanL_encStr]
theorem bs0_opd : aBuildSlice Tryz.prog 36 0 [] = some (.sl .ex []) := build0 el_sOpd zr_opd rfl rfl
theorem bs0_stm : aBuildSlice Tryz.prog 38 0 [] = some (.sl .ex []) := build0 el_sStm zr_stm rfl rfl
theorem bs0_str : aBuildSlice Tryz.prog 37 0 [] = some (.sl .ex []) := build0 (z := [.lit (.string ⟨#[]⟩)]) el_str (by kernel_rfl) rfl rfl
set_option maxRecDepth 20000 in
theorem c_rArgs (hlen : l.length ≤ LM) (s : PS) (H : Heap) : calls Tryz.prog cfg 117 [.agg (cS l en s)] H =
    some (.ret (.tup [.agg (cS l en (args l en s).1), .sl .sh ((args l en s).2.map encOpd)]) H) := by
  refine calls_pure (fn := Tryz.f117) rfl rfl rfl rfl rfl ?_ H
  have rs : Tryz.f117.results.toList = [.cell 2 80, .tmp 3] := rfl
  generalize hr : args l en s = r
  unfold args listP at hr
  have hlt := need_lt (l := l) (en := en) s [40]
  simp only [go_sem, Nat.reduceBEq, Nat.reduceLeDiff, Nat.reduceEqDiff, Nat.reduceSub, Nat.reduceAdd, Int.reduceEq, Int.reduceLT, Int.reduceLE, Int.reduceAdd, rs, bs0_opd, c_rNeed hlen, c_rIs]
  generalize need l en s [40] = s at hr hlt
  have hneed : ∀ (s : PS) (t : List UInt8), isT l s t = true → need l en s t = s.adv := fun s t h => by simp only [need, h]
  cases h : isT l s [41] with
  | true =>
    rw [h] at hr
    simp only [go_sem, Nat.reduceBEq, Nat.reduceLeDiff, Nat.reduceEqDiff, Nat.reduceSub, Nat.reduceAdd, Int.reduceEq, Int.reduceLT, Int.reduceLE, Int.reduceAdd, rs, c_rNeed hlen, hneed s _ h, ← hr, List.map_nil]
  | false =>
    rw [h] at hr
    simp only [go_sem, Nat.reduceBEq, Nat.reduceLeDiff, Nat.reduceEqDiff, Nat.reduceSub, Nat.reduceAdd, Int.reduceEq, Int.reduceLT, Int.reduceLE, Int.reduceAdd]
    refine W_loop_ind (fun n e H => ∃ (s : PS) (acc : List (Opd)) (o : Own) (k : Nat), n = ms l s ∧ ms l s < k ∧ listF l en (oneArg l en) [41] k s acc = r ∧ (s.ok = true → acc.length ≤ s.at_ ∧ s.at_ ≤ l.length) ∧
        gget .bad e 1 = .ptr 0 0 ∧ gget .bad e 2 = .ptr 1 0 ∧ gget .bad e 4 = .sl o (acc.map encOpd) ∧ H.get 0 = some (cS l en s) ∧ H.get 1 = some [.sl .nil [], .lit (.int .i64 0), .lit (.int .i64 0), .lit (.int .i64 0), .lit (.int .i64 0), .lit (.int .i64 0)] ∧ 2 ≤ H.next ∧ AppOk H o acc.length 50 3)
      (ms l s) ⟨s, [], .ex, FN, rfl, ms_FN hlen s, hr, fun hk => ⟨by simp, (hlt hk).2.2⟩, by simp only [go_sem, Nat.reduceBEq, Nat.reduceLeDiff, Nat.reduceEqDiff, Nat.reduceSub, Nat.reduceAdd, Int.reduceEq, Int.reduceLT, Int.reduceLE, Int.reduceAdd], by simp only [go_sem, Nat.reduceBEq, Nat.reduceLeDiff, Nat.reduceEqDiff, Nat.reduceSub, Nat.reduceAdd, Int.reduceEq, Int.reduceLT, Int.reduceLE, Int.reduceAdd], by simp only [go_sem, Nat.reduceBEq, Nat.reduceLeDiff, Nat.reduceEqDiff, Nat.reduceSub, Nat.reduceAdd, Int.reduceEq, Int.reduceLT, Int.reduceLE, Int.reduceAdd, List.map_nil], by simp only [go_sem, Nat.reduceBEq, Nat.reduceLeDiff, Nat.reduceEqDiff, Nat.reduceSub, Nat.reduceAdd, Int.reduceEq, Int.reduceLT, Int.reduceLE, Int.reduceAdd], by simp only [go_sem, Nat.reduceBEq, Nat.reduceLeDiff, Nat.reduceEqDiff, Nat.reduceSub, Nat.reduceAdd, Int.reduceEq, Int.reduceLT, Int.reduceLE, Int.reduceAdd], by simp only [go_sem, Nat.reduceBEq, Nat.reduceLeDiff, Nat.reduceEqDiff, Nat.reduceSub, Nat.reduceAdd, Int.reduceEq, Int.reduceLT, Int.reduceLE, Int.reduceAdd], by simp only [go_sem, Nat.reduceBEq, Nat.reduceLeDiff, Nat.reduceEqDiff, Nat.reduceSub, Nat.reduceAdd, Int.reduceEq, Int.reduceLT, Int.reduceLE, Int.reduceAdd]⟩ ?_
    clear hlt h hr s
    rintro n ih e H ⟨s, acc, o, k, rfl, hk, hr, hb, e1, e2, e4, g0, g1, hnx, ho⟩
    obtain ⟨m, hm⟩ : ∃ m, H.next = m + 2 := ⟨H.next - 2, by omega⟩
    cases hok : s.ok with
    | false =>
      rw [listF_bad _ _ hok] at hr
      simp only [go_sem, Nat.reduceBEq, Nat.reduceLeDiff, Nat.reduceEqDiff, Nat.reduceSub, Nat.reduceAdd, Int.reduceEq, Int.reduceLT, Int.reduceLE, Int.reduceAdd, rs, e1, e2, e4, g0, g1, hm, c_rOk, hok, ← hr, sanLL_encOpd]
    | true =>
      obtain ⟨hb1, hb2⟩ := hb hok
      have hap := fun o x H id h => app_opd hlen (acc := acc) (by omega) o x H id h
      have hlt := operand_lt (l := l) (en := en) s
      have hone : oneArg l en s acc = ((operand l en s).1, acc ++ [(operand l en s).2]) := rfl
      cases h : isT l (operand l en s).1 [41] with
      | true =>
        have hr' : ((operand l en s).1.adv, acc ++ [(operand l en s).2]) = r := by rw [← hr, listF_end hok hk h]; rfl
        simp only [go_sem, Nat.reduceBEq, Nat.reduceLeDiff, Nat.reduceEqDiff, Nat.reduceSub, Nat.reduceAdd, Int.reduceEq, Int.reduceLT, Int.reduceLE, Int.reduceAdd, rs, e1, e2, e4, g0, g1, hm, c_rOk, hok, c_rOperand hlen, hap, ho, c_rIs, h, c_rNeed hlen, hneed _ _ h, ← hr', sanLL_encOpd]
      | false =>
        obtain ⟨k, rfl, h2⟩ := listF_more (one := oneArg l en) (x := acc) hok hk h
        rw [h2] at hr
        have hlt2 := hlt.trans_le (need_lt (en := en) _ [44]).le
        have hms := ms_lt hlt2 hok
        simp only [go_sem, Nat.reduceBEq, Nat.reduceLeDiff, Nat.reduceEqDiff, Nat.reduceSub, Nat.reduceAdd, Int.reduceEq, Int.reduceLT, Int.reduceLE, Int.reduceAdd, rs, e1, e2, e4, g0, g1, hm, c_rOk, hok, c_rOperand hlen, hap, ho, c_rIs, h, c_rNeed hlen]
        exact ih _ hms _ _ ⟨_, _, _, k, rfl, by omega, hr, fun hk' => by have := hlt2 hk'; simp [oneArg]; omega, by simp only [go_sem, Nat.reduceBEq, Nat.reduceLeDiff, Nat.reduceEqDiff, Nat.reduceSub, Nat.reduceAdd, Int.reduceEq, Int.reduceLT, Int.reduceLE, Int.reduceAdd, e1], by simp only [go_sem, Nat.reduceBEq, Nat.reduceLeDiff, Nat.reduceEqDiff, Nat.reduceSub, Nat.reduceAdd, Int.reduceEq, Int.reduceLT, Int.reduceLE, Int.reduceAdd, e2], by simp only [go_sem, Nat.reduceBEq, Nat.reduceLeDiff, Nat.reduceEqDiff, Nat.reduceSub, Nat.reduceAdd, Int.reduceEq, Int.reduceLT, Int.reduceLE, Int.reduceAdd, oneArg] <;> rfl, by simp only [go_sem, Nat.reduceBEq, Nat.reduceLeDiff, Nat.reduceEqDiff, Nat.reduceSub, Nat.reduceAdd, Int.reduceEq, Int.reduceLT, Int.reduceLE, Int.reduceAdd, oneArg], by simp only [go_sem, Nat.reduceBEq, Nat.reduceLeDiff, Nat.reduceEqDiff, Nat.reduceSub, Nat.reduceAdd, Int.reduceEq, Int.reduceLT, Int.reduceLE, Int.reduceAdd, g1], by simp only [go_sem, Nat.reduceBEq, Nat.reduceLeDiff, Nat.reduceEqDiff, Nat.reduceSub, Nat.reduceAdd, Int.reduceEq, Int.reduceLT, Int.reduceLE, Int.reduceAdd, hm], by simp only [go_sem, Nat.reduceBEq, Nat.reduceLeDiff, Nat.reduceEqDiff, Nat.reduceSub, Nat.reduceAdd, Int.reduceEq, Int.reduceLT, Int.reduceLE, Int.reduceAdd]⟩
set_option maxRecDepth 20000 in
theorem c_rNames (hlen : l.length ≤ LM) (s : PS) (H : Heap) : calls Tryz.prog cfg 62 [.agg (cS l en s)] H =
    some (.ret (.tup [.agg (cS l en (names l en s).1), .sl .sh ((names l en s).2.map encStr)]) H) := by
  refine calls_pure (fn := Tryz.f62) rfl rfl rfl rfl rfl ?_ H
  have rs : Tryz.f62.results.toList = [.cell 2 80, .tmp 3] := rfl
  generalize hr : names l en s = r
  unfold names listP at hr
  have hlt := need_lt (l := l) (en := en) s [40]
  simp only [go_sem, Nat.reduceBEq, Nat.reduceLeDiff, Nat.reduceEqDiff, Nat.reduceSub, Nat.reduceAdd, Int.reduceEq, Int.reduceLT, Int.reduceLE, Int.reduceAdd, rs, bs0_str, c_rNeed hlen, c_rIs]
  generalize need l en s [40] = s at hr hlt
  have hneed : ∀ (s : PS) (t : List UInt8), isT l s t = true → need l en s t = s.adv := fun s t h => by simp only [need, h]
  cases h : isT l s [41] with
  | true =>
    rw [h] at hr
    simp only [go_sem, Nat.reduceBEq, Nat.reduceLeDiff, Nat.reduceEqDiff, Nat.reduceSub, Nat.reduceAdd, Int.reduceEq, Int.reduceLT, Int.reduceLE, Int.reduceAdd, rs, c_rNeed hlen, hneed s _ h, ← hr, List.map_nil]
  | false =>
    rw [h] at hr
    simp only [go_sem, Nat.reduceBEq, Nat.reduceLeDiff, Nat.reduceEqDiff, Nat.reduceSub, Nat.reduceAdd, Int.reduceEq, Int.reduceLT, Int.reduceLE, Int.reduceAdd]
    refine W_loop_ind (fun n e H => ∃ (s : PS) (acc : List (List UInt8)) (o : Own) (k : Nat), n = ms l s ∧ ms l s < k ∧ listF l en (oneName l en) [41] k s acc = r ∧ (s.ok = true → acc.length ≤ s.at_ ∧ s.at_ ≤ l.length) ∧
        gget .bad e 1 = .ptr 0 0 ∧ gget .bad e 2 = .ptr 1 0 ∧ gget .bad e 4 = .sl o (acc.map encStr) ∧ H.get 0 = some (cS l en s) ∧ H.get 1 = some [.sl .nil [], .lit (.int .i64 0), .lit (.int .i64 0), .lit (.int .i64 0), .lit (.int .i64 0), .lit (.int .i64 0)] ∧ 2 ≤ H.next ∧ AppOk H o acc.length 9 1)
      (ms l s) ⟨s, [], .ex, FN, rfl, ms_FN hlen s, hr, fun hk => ⟨by simp, (hlt hk).2.2⟩, by simp only [go_sem, Nat.reduceBEq, Nat.reduceLeDiff, Nat.reduceEqDiff, Nat.reduceSub, Nat.reduceAdd, Int.reduceEq, Int.reduceLT, Int.reduceLE, Int.reduceAdd], by simp only [go_sem, Nat.reduceBEq, Nat.reduceLeDiff, Nat.reduceEqDiff, Nat.reduceSub, Nat.reduceAdd, Int.reduceEq, Int.reduceLT, Int.reduceLE, Int.reduceAdd], by simp only [go_sem, Nat.reduceBEq, Nat.reduceLeDiff, Nat.reduceEqDiff, Nat.reduceSub, Nat.reduceAdd, Int.reduceEq, Int.reduceLT, Int.reduceLE, Int.reduceAdd, List.map_nil], by simp only [go_sem, Nat.reduceBEq, Nat.reduceLeDiff, Nat.reduceEqDiff, Nat.reduceSub, Nat.reduceAdd, Int.reduceEq, Int.reduceLT, Int.reduceLE, Int.reduceAdd], by simp only [go_sem, Nat.reduceBEq, Nat.reduceLeDiff, Nat.reduceEqDiff, Nat.reduceSub, Nat.reduceAdd, Int.reduceEq, Int.reduceLT, Int.reduceLE, Int.reduceAdd], by simp only [go_sem, Nat.reduceBEq, Nat.reduceLeDiff, Nat.reduceEqDiff, Nat.reduceSub, Nat.reduceAdd, Int.reduceEq, Int.reduceLT, Int.reduceLE, Int.reduceAdd], by simp only [go_sem, Nat.reduceBEq, Nat.reduceLeDiff, Nat.reduceEqDiff, Nat.reduceSub, Nat.reduceAdd, Int.reduceEq, Int.reduceLT, Int.reduceLE, Int.reduceAdd]⟩ ?_
    clear hlt h hr s
    rintro n ih e H ⟨s, acc, o, k, rfl, hk, hr, hb, e1, e2, e4, g0, g1, hnx, ho⟩
    obtain ⟨m, hm⟩ : ∃ m, H.next = m + 2 := ⟨H.next - 2, by omega⟩
    cases hok : s.ok with
    | false =>
      rw [listF_bad _ _ hok] at hr
      simp only [go_sem, Nat.reduceBEq, Nat.reduceLeDiff, Nat.reduceEqDiff, Nat.reduceSub, Nat.reduceAdd, Int.reduceEq, Int.reduceLT, Int.reduceLE, Int.reduceAdd, rs, e1, e2, e4, g0, g1, hm, c_rOk, hok, ← hr, sanLL_encStr]
    | true =>
      obtain ⟨hb1, hb2⟩ := hb hok
      have hap := fun o x H id h => app_str hlen (acc := acc) (by omega) o x H id h
      have hlt := nameP_lt (l := l) (en := en) s
      have hone : oneName l en s acc = ((nameP l en s).1, acc ++ [(nameP l en s).2]) := rfl
      cases h : isT l (nameP l en s).1 [41] with
      | true =>
        have hr' : ((nameP l en s).1.adv, acc ++ [(nameP l en s).2]) = r := by rw [← hr, listF_end hok hk h]; rfl
        simp only [go_sem, Nat.reduceBEq, Nat.reduceLeDiff, Nat.reduceEqDiff, Nat.reduceSub, Nat.reduceAdd, Int.reduceEq, Int.reduceLT, Int.reduceLE, Int.reduceAdd, rs, e1, e2, e4, g0, g1, hm, c_rOk, hok, c_rName2 hlen, hap, ho, c_rIs, h, c_rNeed hlen, hneed _ _ h, ← hr', sanLL_encStr]
      | false =>
        obtain ⟨k, rfl, h2⟩ := listF_more (one := oneName l en) (x := acc) hok hk h
        rw [h2] at hr
        have hlt2 := hlt.trans_le (need_lt (en := en) _ [44]).le
        have hms := ms_lt hlt2 hok
        simp only [go_sem, Nat.reduceBEq, Nat.reduceLeDiff, Nat.reduceEqDiff, Nat.reduceSub, Nat.reduceAdd, Int.reduceEq, Int.reduceLT, Int.reduceLE, Int.reduceAdd, rs, e1, e2, e4, g0, g1, hm, c_rOk, hok, c_rName2 hlen, hap, ho, c_rIs, h, c_rNeed hlen]
        exact ih _ hms _ _ ⟨_, _, _, k, rfl, by omega, hr, fun hk' => by have := hlt2 hk'; simp [oneName]; omega, by simp only [go_sem, Nat.reduceBEq, Nat.reduceLeDiff, Nat.reduceEqDiff, Nat.reduceSub, Nat.reduceAdd, Int.reduceEq, Int.reduceLT, Int.reduceLE, Int.reduceAdd, e1], by simp only [go_sem, Nat.reduceBEq, Nat.reduceLeDiff, Nat.reduceEqDiff, Nat.reduceSub, Nat.reduceAdd, Int.reduceEq, Int.reduceLT, Int.reduceLE, Int.reduceAdd, e2], by simp only [go_sem, Nat.reduceBEq, Nat.reduceLeDiff, Nat.reduceEqDiff, Nat.reduceSub, Nat.reduceAdd, Int.reduceEq, Int.reduceLT, Int.reduceLE, Int.reduceAdd, oneName] <;> rfl, by simp only [go_sem, Nat.reduceBEq, Nat.reduceLeDiff, Nat.reduceEqDiff, Nat.reduceSub, Nat.reduceAdd, Int.reduceEq, Int.reduceLT, Int.reduceLE, Int.reduceAdd, oneName], by simp only [go_sem, Nat.reduceBEq, Nat.reduceLeDiff, Nat.reduceEqDiff, Nat.reduceSub, Nat.reduceAdd, Int.reduceEq, Int.reduceLT, Int.reduceLE, Int.reduceAdd, g1], by simp only [go_sem, Nat.reduceBEq, Nat.reduceLeDiff, Nat.reduceEqDiff, Nat.reduceSub, Nat.reduceAdd, Int.reduceEq, Int.reduceLT, Int.reduceLE, Int.reduceAdd, hm], by simp only [go_sem, Nat.reduceBEq, Nat.reduceLeDiff, Nat.reduceEqDiff, Nat.reduceSub, Nat.reduceAdd, Int.reduceEq, Int.reduceLT, Int.reduceLE, Int.reduceAdd]⟩
end
end Go.Proofs.YtghhkbigmmjanaaGreatDoor.VA

/-! Pd5 -/
namespace Go.Proofs.YtghhkbigmmjanaaGreatDoor.VA
open Go Go.RowKit
attribute [local go_sem] Nat.add_eq_left Nat.left_eq_add true_and and_true ite_true if_false Int.cast_ofNat_Int eq_self Nat.add_assoc Option.some.injEq decide_true decide_false Bool.not_true Bool.not_false List.size_toArray List.length_cons List.length_nil
set_option linter.unusedSimpArgs false
set_option maxRecDepth 100000

section
variable {l : List GTok} {en : Int}
theorem need_bad {s : PS} (h : s.ok = false) (t : List UInt8) : need l en s t = s := by
  obtain ⟨a, c, f⟩ := s
  cases f with
  | none => cases h
  | some q => rfl
theorem AppOk_owns' {H : Heap} {o o' : Own} {id n : Nat} {e : TypeId} {sz : Nat} (hne : ∀ k e z, o' = .own k e z → ∀ k' e' z', o = .own k' e' z' → k ≠ k') (hid : ∀ k e z, o = .own k e z → k < id) :
    AppOk (appU H (ownUs o' id)) o n e sz = AppOk H o n e sz := by
  cases o with
  | own k e' z =>
    have h4 := hid k e' z rfl
    have key : (appU H (ownUs o' id)).isLive k = H.isLive k := by
      cases o' with
      | own k2 e2 z2 =>
        have h5 := hne k2 e2 z2 rfl k e' z rfl
        simp only [ownUs, appU, U.app, Heap.isLive_setLive]
        rw [if_neg (by omega), if_neg h5]
      | _ =>
        simp only [ownUs, appU, U.app, Heap.isLive_setLive]
        rw [if_neg (by omega)]
    simp only [AppOk, OwnOk, key]
  | nil => rfl
  | sh => rfl
  | ex => rfl
theorem need_yes {s : PS} {t : List UInt8} (h : isT l s t = true) : need l en s t = s.adv := by simp only [need, h]
set_option maxRecDepth 20000 in
theorem c_rObject (hlen : l.length ≤ LM) (s : PS) (H : Heap) : calls Tryz.prog cfg 118 [.agg (cS l en s)] H =
    some (.ret (.tup [.agg (cS l en (object l en s).1), .agg (encStmt (object l en s).2)]) H) := by
  refine calls_pure (fn := Tryz.f118) rfl rfl rfl rfl rfl ?_ H
  have rs : Tryz.f118.results.toList = [.cell 2 80, .cell 3 40] := rfl
  generalize hr : propsP l en s = r
  have hobj : object l en s = ((protoP l en r.1).1, .mk 4 [] [] [] (r.2.2 ++ [(protoP l en r.1).2]) r.2.1 [] []) := by rw [← hr]; rfl
  rw [hobj]
  clear hobj
  unfold propsP listP at hr
  have hlt := need_lt (l := l) (en := en) s [123]
  simp only [go_sem, Nat.reduceBEq, Nat.reduceLeDiff, Nat.reduceEqDiff, Nat.reduceSub, Nat.reduceAdd, Int.reduceEq, Int.reduceLT, Int.reduceLE, Int.reduceAdd, rs, c_rNeed hlen, c_rIs]
  generalize need l en s [123] = s at hr hlt
  refine W_loop_ind (fun n e H => ∃ (s : PS) (ns : List (List UInt8)) (aa : List Opd) (oP oA : Own) (done : Bool), n = (bif done then 0 else ms l s) ∧
      ((done = true ∧ isT l s [125] = true ∧ (s.adv, ns, aa) = r) ∨ (done = false ∧ ∃ k, ms l s < k ∧ listF l en (oneProp l en) [125] k s (ns, aa) = r)) ∧
      (s.ok = true → ns.length ≤ s.at_ ∧ aa.length ≤ s.at_ ∧ s.at_ ≤ l.length) ∧ aa.length ≤ l.length + 1 ∧
      gget .bad e 1 = .ptr 0 0 ∧ gget .bad e 2 = .ptr 1 0 ∧ gget .bad e 3 = .ptr 2 0 ∧ gget .bad e 4 = .ptr 4 0 ∧ gget .bad e 5 = .lit (.bool done) ∧ H.get 0 = some (cS l en s) ∧ H.get 1 = some [.sl .nil [], .lit (.int .i64 0), .lit (.int .i64 0), .lit (.int .i64 0), .lit (.int .i64 0), .lit (.int .i64 0)] ∧ H.get 2 = some [.lit (.int .i64 0), .lit (.string (ba [])), .lit (.string (ba [])), .lit (.string (ba [])), .sl .nil [], .sl .nil [], .sl .nil [], .sl .nil []] ∧
      H.get 4 = some [.lit (.int .i64 4), .lit (.string (ba [])), .lit (.string (ba [])), .lit (.string (ba [])), .sl oA (aa.map encOpd), .sl oP (ns.map encStr), .sl .nil [], .sl .nil []] ∧
      5 ≤ H.next ∧ AppOk H oP ns.length 9 1 ∧ AppOk H oA aa.length 50 3 ∧ (∀ k e z, oP = .own k e z → ∀ k' e' z', oA = .own k' e' z' → k ≠ k') ∧ (∀ k e z, oP = .own k e z → k < H.next) ∧ (∀ k e z, oA = .own k e z → k < H.next))
    (bif isT l s [125] then 0 else ms l s) ⟨s, [], [], .nil, .nil, isT l s [125], rfl, ?_, fun hk => ⟨by simp, by simp, (hlt hk).2.2⟩, by simp, by simp only [go_sem, Nat.reduceBEq, Nat.reduceLeDiff, Nat.reduceEqDiff, Nat.reduceSub, Nat.reduceAdd, Int.reduceEq, Int.reduceLT, Int.reduceLE, Int.reduceAdd], by simp only [go_sem, Nat.reduceBEq, Nat.reduceLeDiff, Nat.reduceEqDiff, Nat.reduceSub, Nat.reduceAdd, Int.reduceEq, Int.reduceLT, Int.reduceLE, Int.reduceAdd], by simp only [go_sem, Nat.reduceBEq, Nat.reduceLeDiff, Nat.reduceEqDiff, Nat.reduceSub, Nat.reduceAdd, Int.reduceEq, Int.reduceLT, Int.reduceLE, Int.reduceAdd], by simp only [go_sem, Nat.reduceBEq, Nat.reduceLeDiff, Nat.reduceEqDiff, Nat.reduceSub, Nat.reduceAdd, Int.reduceEq, Int.reduceLT, Int.reduceLE, Int.reduceAdd], by simp only [go_sem, Nat.reduceBEq, Nat.reduceLeDiff, Nat.reduceEqDiff, Nat.reduceSub, Nat.reduceAdd, Int.reduceEq, Int.reduceLT, Int.reduceLE, Int.reduceAdd], by simp only [go_sem, Nat.reduceBEq, Nat.reduceLeDiff, Nat.reduceEqDiff, Nat.reduceSub, Nat.reduceAdd, Int.reduceEq, Int.reduceLT, Int.reduceLE, Int.reduceAdd], by simp only [go_sem, Nat.reduceBEq, Nat.reduceLeDiff, Nat.reduceEqDiff, Nat.reduceSub, Nat.reduceAdd, Int.reduceEq, Int.reduceLT, Int.reduceLE, Int.reduceAdd], by simp only [go_sem, Nat.reduceBEq, Nat.reduceLeDiff, Nat.reduceEqDiff, Nat.reduceSub, Nat.reduceAdd, Int.reduceEq, Int.reduceLT, Int.reduceLE, Int.reduceAdd],
      by simp only [go_sem, Nat.reduceBEq, Nat.reduceLeDiff, Nat.reduceEqDiff, Nat.reduceSub, Nat.reduceAdd, Int.reduceEq, Int.reduceLT, Int.reduceLE, Int.reduceAdd, List.map_nil], by simp only [go_sem, Nat.reduceBEq, Nat.reduceLeDiff, Nat.reduceEqDiff, Nat.reduceSub, Nat.reduceAdd, Int.reduceEq, Int.reduceLT, Int.reduceLE, Int.reduceAdd], by simp only [go_sem, Nat.reduceBEq, Nat.reduceLeDiff, Nat.reduceEqDiff, Nat.reduceSub, Nat.reduceAdd, Int.reduceEq, Int.reduceLT, Int.reduceLE, Int.reduceAdd], by simp only [go_sem, Nat.reduceBEq, Nat.reduceLeDiff, Nat.reduceEqDiff, Nat.reduceSub, Nat.reduceAdd, Int.reduceEq, Int.reduceLT, Int.reduceLE, Int.reduceAdd], (fun _ _ _ h => by cases h), (fun _ _ _ h => by cases h), (fun _ _ _ h => by cases h)⟩ ?_
  · cases h : isT l s [125] with
    | true => rw [h] at hr; exact .inl ⟨rfl, rfl, hr⟩
    | false => rw [h] at hr; exact .inr ⟨rfl, FN, ms_FN hlen s, hr⟩
  clear hlt hr s
  rintro n ih e H ⟨s, ns, aa, oP, oA, done, rfl, hr, hb, hb4, e1, e2, e3, e4, e5, g0, g1, g2, g4, hnx, hoP, hoA, hne, hlP, hlA⟩
  obtain ⟨m, hm⟩ : ∃ m, H.next = m + 5 := ⟨H.next - 5, by omega⟩
  have tail : ∀ o, ([.lit (.int .i64 4), .lit (.string (ba [])), .lit (.string (ba [])), .lit (.string (ba [])), .sl .sh ((aa ++ [o]).map encOpd), .sl .sh (ns.map encStr), .sl .sh [], .sl .sh []] : List AV) = encStmt (.mk 4 [] [] [] (aa ++ [o]) ns [] []) := fun o => by simp only [encStmt, encStmts] <;> rfl
  have hapA := fun aa (h : aa.length ≤ l.length + 5) o x H id ho => app_opd hlen (acc := aa) h o x H id ho
  have hapP := fun ns (h : ns.length ≤ l.length + 5) o x H id ho => app_str hlen (acc := ns) h o x H id ho
  have hapA' := hapA aa (by omega)
  cases hok : s.ok with
  | false =>
    have hd : done = false := by
      cases done with
      | false => rfl
      | true =>
        rcases hr with ⟨_, h, _⟩ | ⟨h, _⟩
        · obtain ⟨x, h2, _⟩ := isT_some h
          rw [(tk_some h2).2.1] at hok; cases hok
        · cases h
    subst hd
    rcases hr with ⟨h, _⟩ | ⟨_, k, hk, hr⟩
    · cases h
    rw [listF_bad _ _ hok] at hr
    subst hr
    simp only [go_sem, Nat.reduceBEq, Nat.reduceLeDiff, Nat.reduceEqDiff, Nat.reduceSub, Nat.reduceAdd, Int.reduceEq, Int.reduceLT, Int.reduceLE, Int.reduceAdd, rs, e1, e2, e3, e4, e5, g0, g1, g2, g4, hm, c_rOk, hok, c_rNeed hlen, need_bad hok, c_rOperand hlen, hapA', hoA]
    refine W_draw [(0, 1), (1, 2)] (by kernel_rfl) ?_
    simp only [go_sem, Nat.reduceBEq, Nat.reduceLeDiff, Nat.reduceEqDiff, Nat.reduceSub, Nat.reduceAdd, Int.reduceEq, Int.reduceLT, Int.reduceLE, Int.reduceAdd, rs, e1, e2, e3, e4, g0, g1, g2, hm, protoP, tProto, need_bad hok, tail]
  | true =>
    obtain ⟨hb1, hb2, hb3⟩ := hb hok
    cases done with
    | true =>
      rcases hr with ⟨_, h, hr⟩ | ⟨h, _⟩
      · subst hr
        simp only [go_sem, Nat.reduceBEq, Nat.reduceLeDiff, Nat.reduceEqDiff, Nat.reduceSub, Nat.reduceAdd, Int.reduceEq, Int.reduceLT, Int.reduceLE, Int.reduceAdd, rs, e1, e2, e3, e4, e5, g0, g1, g2, g4, hm, c_rOk, hok, c_rNeed hlen, need_yes h, c_rOperand hlen, hapA', hoA]
        refine W_draw [(0, 1), (1, 2)] (by kernel_rfl) ?_
        simp only [go_sem, Nat.reduceBEq, Nat.reduceLeDiff, Nat.reduceEqDiff, Nat.reduceSub, Nat.reduceAdd, Int.reduceEq, Int.reduceLT, Int.reduceLE, Int.reduceAdd, rs, e1, e2, e3, e4, g0, g1, g2, hm, protoP, tProto, tail]
      · cases h
    | false =>
      rcases hr with ⟨h, _⟩ | ⟨_, k, hk, hr⟩
      · cases h
      have hapP' := hapP ns (by omega)
      have hAo : ∀ (H : Heap), AppOk (appU H (ownUs oP (m + 33))) oA aa.length 50 3 = AppOk H oA aa.length 50 3 := fun H => AppOk_owns' hne (fun k e z hk => by have := hlA k e z hk; omega)
      have hlt := oneProp_lt (l := l) (en := en) s (ns, aa)
      have hbn : (oneProp l en s (ns, aa)).1.ok = true → (oneProp l en s (ns, aa)).2.1.length ≤ (oneProp l en s (ns, aa)).1.at_ ∧ (oneProp l en s (ns, aa)).2.2.length ≤ (oneProp l en s (ns, aa)).1.at_ ∧ (oneProp l en s (ns, aa)).1.at_ ≤ l.length := fun hk' => by
        obtain ⟨_, h1, h2⟩ := hlt hk'
        have h3 : (oneProp l en s (ns, aa)).2.1.length = ns.length + 1 := by simp [oneProp]
        have h4 : (oneProp l en s (ns, aa)).2.2.length = aa.length + 1 := by simp [oneProp]
        omega
      have hba : (oneProp l en s (ns, aa)).2.2.length ≤ l.length + 1 := by simp [oneProp]; omega
      have ho1 : ∀ (k : Nat) (e : TypeId) (z : Nat) (k' : Nat) (e' : TypeId) (z' : Nat), Own.own k e z = .own k' e' z' → k = k' := fun k e z k' e' z' h => by cases h; rfl
      have hPo : ∀ (H : Heap) (n : Nat), AppOk (appU H (ownUs oA (m + 40))) (.own (m + 33) 9 1) n 9 1 = AppOk H (.own (m + 33) 9 1) n 9 1 := fun H n =>
        AppOk_owns' (fun k e z hk k' e' z' hk' => by have := hlA k e z hk; cases hk'; omega) (fun k e z hk => by cases hk; omega)
      cases h : isT l (operand l en (need l en (nameP l en s).1 [58])).1 [125] with
      | true =>
        have hr' := (listF_end (one := oneProp l en) (x := (ns, aa)) hok hk h).symm.trans hr
        simp only [go_sem, Nat.reduceBEq, Nat.reduceLeDiff, Nat.reduceEqDiff, Nat.reduceSub, Nat.reduceAdd, Int.reduceEq, Int.reduceLT, Int.reduceLE, Int.reduceAdd, rs, e1, e2, e3, e4, e5, g0, g1, g2, g4, hm, c_rOk, hok, c_rName2 hlen, c_rNeed hlen, c_rOperand hlen, c_rIs, h, hapP', hoP, hapA', hoA, hAo]
        exact ih 0 (by have := ms_lt hlt hok; simp; omega) _ _ ⟨(oneProp l en s (ns, aa)).1, (oneProp l en s (ns, aa)).2.1, (oneProp l en s (ns, aa)).2.2, _, _, true, rfl, .inl ⟨rfl, h, hr'⟩, hbn, hba, by simp only [go_sem, Nat.reduceBEq, Nat.reduceLeDiff, Nat.reduceEqDiff, Nat.reduceSub, Nat.reduceAdd, Int.reduceEq, Int.reduceLT, Int.reduceLE, Int.reduceAdd, e1], by simp only [go_sem, Nat.reduceBEq, Nat.reduceLeDiff, Nat.reduceEqDiff, Nat.reduceSub, Nat.reduceAdd, Int.reduceEq, Int.reduceLT, Int.reduceLE, Int.reduceAdd, e2], by simp only [go_sem, Nat.reduceBEq, Nat.reduceLeDiff, Nat.reduceEqDiff, Nat.reduceSub, Nat.reduceAdd, Int.reduceEq, Int.reduceLT, Int.reduceLE, Int.reduceAdd, e3], by simp only [go_sem, Nat.reduceBEq, Nat.reduceLeDiff, Nat.reduceEqDiff, Nat.reduceSub, Nat.reduceAdd, Int.reduceEq, Int.reduceLT, Int.reduceLE, Int.reduceAdd, e4],
          by simp only [go_sem, Nat.reduceBEq, Nat.reduceLeDiff, Nat.reduceEqDiff, Nat.reduceSub, Nat.reduceAdd, Int.reduceEq, Int.reduceLT, Int.reduceLE, Int.reduceAdd], by simp only [go_sem, Nat.reduceBEq, Nat.reduceLeDiff, Nat.reduceEqDiff, Nat.reduceSub, Nat.reduceAdd, Int.reduceEq, Int.reduceLT, Int.reduceLE, Int.reduceAdd, oneProp], by simp only [go_sem, Nat.reduceBEq, Nat.reduceLeDiff, Nat.reduceEqDiff, Nat.reduceSub, Nat.reduceAdd, Int.reduceEq, Int.reduceLT, Int.reduceLE, Int.reduceAdd, g1], by simp only [go_sem, Nat.reduceBEq, Nat.reduceLeDiff, Nat.reduceEqDiff, Nat.reduceSub, Nat.reduceAdd, Int.reduceEq, Int.reduceLT, Int.reduceLE, Int.reduceAdd, g2], by simp only [go_sem, Nat.reduceBEq, Nat.reduceLeDiff, Nat.reduceEqDiff, Nat.reduceSub, Nat.reduceAdd, Int.reduceEq, Int.reduceLT, Int.reduceLE, Int.reduceAdd, oneProp] <;> rfl, by simp only [go_sem, Nat.reduceBEq, Nat.reduceLeDiff, Nat.reduceEqDiff, Nat.reduceSub, Nat.reduceAdd, Int.reduceEq, Int.reduceLT, Int.reduceLE, Int.reduceAdd, hm], by simp only [go_sem, Nat.reduceBEq, Nat.reduceLeDiff, Nat.reduceEqDiff, Nat.reduceSub, Nat.reduceAdd, Int.reduceEq, Int.reduceLT, Int.reduceLE, Int.reduceAdd, oneProp, hPo], by simp only [go_sem, Nat.reduceBEq, Nat.reduceLeDiff, Nat.reduceEqDiff, Nat.reduceSub, Nat.reduceAdd, Int.reduceEq, Int.reduceLT, Int.reduceLE, Int.reduceAdd, oneProp],
          (fun k e z h k' e' z' h' => by have := ho1 _ _ _ _ _ _ h; have := ho1 _ _ _ _ _ _ h'; omega), (fun k e z h => by have := ho1 _ _ _ _ _ _ h; simp only [go_sem, Nat.reduceBEq, Nat.reduceLeDiff, Nat.reduceEqDiff, Nat.reduceSub, Nat.reduceAdd, Int.reduceEq, Int.reduceLT, Int.reduceLE, Int.reduceAdd, hm]; omega), (fun k e z h => by have := ho1 _ _ _ _ _ _ h; simp only [go_sem, Nat.reduceBEq, Nat.reduceLeDiff, Nat.reduceEqDiff, Nat.reduceSub, Nat.reduceAdd, Int.reduceEq, Int.reduceLT, Int.reduceLE, Int.reduceAdd, hm]; omega)⟩
      | false =>
        obtain ⟨k, rfl, h2⟩ := listF_more (one := oneProp l en) (x := (ns, aa)) hok hk h
        rw [h2] at hr
        have hlt2 := hlt.trans_le (need_lt (en := en) _ [44]).le
        have hms := ms_lt hlt2 hok
        have hbn2 : (need l en (oneProp l en s (ns, aa)).1 [44]).ok = true → (oneProp l en s (ns, aa)).2.1.length ≤ (need l en (oneProp l en s (ns, aa)).1 [44]).at_ ∧ (oneProp l en s (ns, aa)).2.2.length ≤ (need l en (oneProp l en s (ns, aa)).1 [44]).at_ ∧
            (need l en (oneProp l en s (ns, aa)).1 [44]).at_ ≤ l.length := fun hk' => by
          obtain ⟨q1, q2, q3⟩ := (need_lt (l := l) (en := en) _ [44]) hk'
          obtain ⟨q4, q5, q6⟩ := hbn q1
          omega
        simp only [go_sem, Nat.reduceBEq, Nat.reduceLeDiff, Nat.reduceEqDiff, Nat.reduceSub, Nat.reduceAdd, Int.reduceEq, Int.reduceLT, Int.reduceLE, Int.reduceAdd, rs, e1, e2, e3, e4, e5, g0, g1, g2, g4, hm, c_rOk, hok, c_rName2 hlen, c_rNeed hlen, c_rOperand hlen, c_rIs, h, hapP', hoP, hapA', hoA, hAo]
        exact ih _ hms _ _ ⟨need l en (oneProp l en s (ns, aa)).1 [44], (oneProp l en s (ns, aa)).2.1, (oneProp l en s (ns, aa)).2.2, _, _, false, rfl, .inr ⟨rfl, k, by omega, hr⟩, hbn2, hba, by simp only [go_sem, Nat.reduceBEq, Nat.reduceLeDiff, Nat.reduceEqDiff, Nat.reduceSub, Nat.reduceAdd, Int.reduceEq, Int.reduceLT, Int.reduceLE, Int.reduceAdd, e1], by simp only [go_sem, Nat.reduceBEq, Nat.reduceLeDiff, Nat.reduceEqDiff, Nat.reduceSub, Nat.reduceAdd, Int.reduceEq, Int.reduceLT, Int.reduceLE, Int.reduceAdd, e2], by simp only [go_sem, Nat.reduceBEq, Nat.reduceLeDiff, Nat.reduceEqDiff, Nat.reduceSub, Nat.reduceAdd, Int.reduceEq, Int.reduceLT, Int.reduceLE, Int.reduceAdd, e3], by simp only [go_sem, Nat.reduceBEq, Nat.reduceLeDiff, Nat.reduceEqDiff, Nat.reduceSub, Nat.reduceAdd, Int.reduceEq, Int.reduceLT, Int.reduceLE, Int.reduceAdd, e4],
          by simp only [go_sem, Nat.reduceBEq, Nat.reduceLeDiff, Nat.reduceEqDiff, Nat.reduceSub, Nat.reduceAdd, Int.reduceEq, Int.reduceLT, Int.reduceLE, Int.reduceAdd], by simp only [go_sem, Nat.reduceBEq, Nat.reduceLeDiff, Nat.reduceEqDiff, Nat.reduceSub, Nat.reduceAdd, Int.reduceEq, Int.reduceLT, Int.reduceLE, Int.reduceAdd, oneProp], by simp only [go_sem, Nat.reduceBEq, Nat.reduceLeDiff, Nat.reduceEqDiff, Nat.reduceSub, Nat.reduceAdd, Int.reduceEq, Int.reduceLT, Int.reduceLE, Int.reduceAdd, g1], by simp only [go_sem, Nat.reduceBEq, Nat.reduceLeDiff, Nat.reduceEqDiff, Nat.reduceSub, Nat.reduceAdd, Int.reduceEq, Int.reduceLT, Int.reduceLE, Int.reduceAdd, g2], by simp only [go_sem, Nat.reduceBEq, Nat.reduceLeDiff, Nat.reduceEqDiff, Nat.reduceSub, Nat.reduceAdd, Int.reduceEq, Int.reduceLT, Int.reduceLE, Int.reduceAdd, oneProp] <;> rfl, by simp only [go_sem, Nat.reduceBEq, Nat.reduceLeDiff, Nat.reduceEqDiff, Nat.reduceSub, Nat.reduceAdd, Int.reduceEq, Int.reduceLT, Int.reduceLE, Int.reduceAdd, hm], by simp only [go_sem, Nat.reduceBEq, Nat.reduceLeDiff, Nat.reduceEqDiff, Nat.reduceSub, Nat.reduceAdd, Int.reduceEq, Int.reduceLT, Int.reduceLE, Int.reduceAdd, oneProp, hPo], by simp only [go_sem, Nat.reduceBEq, Nat.reduceLeDiff, Nat.reduceEqDiff, Nat.reduceSub, Nat.reduceAdd, Int.reduceEq, Int.reduceLT, Int.reduceLE, Int.reduceAdd, oneProp],
          (fun k e z h k' e' z' h' => by have := ho1 _ _ _ _ _ _ h; have := ho1 _ _ _ _ _ _ h'; omega), (fun k e z h => by have := ho1 _ _ _ _ _ _ h; simp only [go_sem, Nat.reduceBEq, Nat.reduceLeDiff, Nat.reduceEqDiff, Nat.reduceSub, Nat.reduceAdd, Int.reduceEq, Int.reduceLT, Int.reduceLE, Int.reduceAdd, hm]; omega), (fun k e z h => by have := ho1 _ _ _ _ _ _ h; simp only [go_sem, Nat.reduceBEq, Nat.reduceLeDiff, Nat.reduceEqDiff, Nat.reduceSub, Nat.reduceAdd, Int.reduceEq, Int.reduceLT, Int.reduceLE, Int.reduceAdd, hm]; omega)⟩
end
end Go.Proofs.YtghhkbigmmjanaaGreatDoor.VA

/-! Ci -/
namespace Go.Proofs.YtghhkbigmmjanaaGreatDoor.VA
open Go Go.RowKit

@[go_sem] theorem imp6 : cfg.imp 26 = false := rfl
@[go_sem] theorem imp7 : cfg.imp 28 = false := rfl
@[go_sem] theorem imp10 : cfg.imp 121 = false := rfl
@[go_sem] theorem imp13 : cfg.imp 125 = false := rfl
@[go_sem] theorem imp14 : cfg.imp 46 = false := rfl
@[go_sem] theorem imp15 : cfg.imp 47 = false := rfl
@[go_sem] theorem imp16 : cfg.imp 48 = false := rfl
@[go_sem] theorem imp17 : cfg.imp 49 = false := rfl
@[go_sem] theorem imp18 : cfg.imp 50 = false := rfl
@[go_sem] theorem imp19 : cfg.imp 51 = false := rfl
@[go_sem] theorem imp20 : cfg.imp 54 = false := rfl
@[go_sem] theorem imp21 : cfg.imp 55 = false := rfl
@[go_sem] theorem imp22 : cfg.imp 56 = false := rfl
@[go_sem] theorem imp23 : cfg.imp 57 = false := rfl
@[go_sem] theorem imp24 : cfg.imp 58 = false := rfl
@[go_sem] theorem imp25 : cfg.imp 67 = false := rfl
@[go_sem] theorem imp30 : cfg.imp 3 = false := rfl
@[go_sem] theorem imp31 : cfg.imp 4 = false := rfl
@[go_sem] theorem imp32 : cfg.imp 13 = false := rfl
@[go_sem] theorem imp33 : cfg.imp 29 = false := rfl
@[go_sem] theorem imp34 : cfg.imp 14 = false := rfl
@[go_sem] theorem imp35 : cfg.imp 12 = false := rfl
@[go_sem] theorem imp36 : cfg.imp 11 = false := rfl
@[go_sem] theorem imp37 : cfg.imp 59 = false := rfl
@[go_sem] theorem imp38 : cfg.imp 60 = false := rfl
@[go_sem] theorem imp39 : cfg.imp 61 = false := rfl
@[go_sem] theorem imp40 : cfg.imp 62 = false := rfl
@[go_sem] theorem imp41 : cfg.imp 63 = false := rfl
@[go_sem] theorem imp42 : cfg.imp 17 = false := rfl
@[go_sem] theorem imp43 : cfg.imp 15 = false := rfl
@[go_sem] theorem imp44 : cfg.imp 30 = false := rfl
@[go_sem] theorem imp45 : cfg.imp 31 = false := rfl
@[go_sem] theorem imp46 : cfg.imp 86 = false := rfl
@[go_sem] theorem imp47 : cfg.imp 87 = false := rfl
@[go_sem] theorem imp48 : cfg.imp 88 = false := rfl
@[go_sem] theorem imp49 : cfg.imp 89 = false := rfl
@[go_sem] theorem imp50 : cfg.imp 33 = false := rfl
@[go_sem] theorem imp51 : cfg.imp 36 = false := rfl
@[go_sem] theorem imp52 : cfg.imp 40 = false := rfl
@[go_sem] theorem imp53 : cfg.imp 105 = false := rfl
@[go_sem] theorem imp54 : cfg.imp 106 = false := rfl
@[go_sem] theorem imp55 : cfg.imp 16 = false := rfl
@[go_sem] theorem imp56 : cfg.imp 117 = false := rfl
@[go_sem] theorem imp57 : cfg.imp 118 = false := rfl
@[go_sem] theorem imp58 : cfg.imp 32 = false := rfl
@[go_sem] theorem imp59 : cfg.imp 34 = false := rfl
@[go_sem] theorem imp60 : cfg.imp 35 = false := rfl
@[go_sem] theorem imp61 : cfg.imp 64 = false := rfl
@[go_sem] theorem imp62 : cfg.imp 53 = true := rfl
@[go_sem] theorem imp63 : cfg.imp 81 = true := rfl
@[go_sem] theorem imp64 : cfg.imp 82 = true := rfl
@[go_sem] theorem imp65 : cfg.imp 83 = true := rfl
@[go_sem] theorem imp66 : cfg.imp 84 = true := rfl
@[go_sem] theorem imp67 : cfg.imp 85 = true := rfl
@[go_sem] theorem imp68 : cfg.imp 100 = true := rfl
@[go_sem] theorem imp69 : cfg.imp 101 = true := rfl
@[go_sem] theorem imp70 : cfg.imp 102 = true := rfl
@[go_sem] theorem imp71 : cfg.imp 103 = true := rfl
@[go_sem] theorem imp72 : cfg.imp 104 = true := rfl
@[go_sem] theorem imp73 : cfg.imp 113 = true := rfl
@[go_sem] theorem imp74 : cfg.imp 114 = true := rfl
@[go_sem] theorem imp75 : cfg.imp 115 = true := rfl
@[go_sem] theorem imp76 : cfg.imp 116 = true := rfl
@[go_sem] theorem imp77 : cfg.imp 123 = true := rfl
@[go_sem] theorem imp78 : cfg.imp 128 = true := rfl
@[go_sem] theorem imp79 : cfg.imp 129 = true := rfl
@[go_sem] theorem imp80 : cfg.imp 139 = true := rfl
@[go_sem] theorem imp81 : cfg.imp 140 = true := rfl
@[go_sem] theorem imp82 : cfg.imp 80 = false := rfl
@[go_sem] theorem imp83 : cfg.imp 44 = false := rfl
@[go_sem] theorem imp84 : cfg.imp 122 = false := rfl
@[go_sem] theorem imp85 : cfg.imp 27 = false := rfl
end Go.Proofs.YtghhkbigmmjanaaGreatDoor.VA

/-! Pd6 -/
namespace Go.Proofs.YtghhkbigmmjanaaGreatDoor.VA
open Go Go.RowKit
attribute [local go_sem] Nat.add_eq_left Nat.left_eq_add true_and and_true ite_true if_false Int.cast_ofNat_Int eq_self Nat.add_assoc Option.some.injEq decide_true decide_false Bool.not_true Bool.not_false List.size_toArray List.length_cons List.length_nil
set_option linter.unusedSimpArgs false
set_option maxRecDepth 100000

section
variable {l : List GTok} {en : Int}
theorem signsB : aBuildSlice Tryz.prog 37 5 [(0, .lit (.string (ba [43]))), (1, .lit (.string (ba [45]))), (2, .lit (.string (ba [42]))), (3, .lit (.string (ba [60]))), (4, .lit (.string (ba [61])))] = some (.sl .ex (arith.map encStr)) := by kernel_rfl
theorem bs2_opd (o p : Opd) : aBuildSlice Tryz.prog 36 2 [(0, .agg (encOpd o)), (1, .agg (encOpd p))] = some (.sl .ex [encOpd o, encOpd p]) := by
  simp only [aBuildSlice, el_sOpd, zr_opd]
  simp [aFill, encOpd, chunk, AV.cells, AV.one, Value.oneCell', List.replicate]
theorem signOf_drop {s : PS} : ∀ (ts : List (List UInt8)) (i : Nat), (∀ j, j < i → isT l s (ts.getD j []) = false) → signOf l s (ts.drop i) = signOf l s ts
  | [], i, _ => by simp
  | t :: ts, 0, _ => rfl
  | t :: ts, i + 1, h => by
    rw [List.drop_succ_cons, signOf_drop ts i (fun j hj => h (j + 1) (by omega))]
    have h0 : isT l s t = false := h 0 (by omega)
    simp only [signOf, h0]
set_option maxRecDepth 20000 in
theorem c_rValue (hlen : l.length ≤ LM) (s : PS) (H : Heap) : calls Tryz.prog cfg 106 [.agg (cS l en s)] H =
    some (.ret (.tup [.agg (cS l en (value l en s).1), .agg (encStmt (value l en s).2)]) H) := by
  refine calls_pure (fn := Tryz.f106) rfl rfl rfl rfl rfl ?_ H
  have rs : Tryz.f106.results.toList = [.cell 2 80, .cell 3 40] := rfl
  generalize hr : value l en s = r
  unfold value at hr
  have eM : ∀ (op : Int) (x y p : List UInt8) (a : List Opd) (ps : List (List UInt8)), encStmt (.mk op x y p a ps [] []) = [.lit (.int .i64 op), .lit (.string (ba x)), .lit (.string (ba y)), .lit (.string (ba p)), .sl .sh (a.map encOpd), .sl .sh (ps.map encStr), .sl .sh [], .sl .sh []] :=
    fun op x y p a ps => by simp only [encStmt, encStmts]
  cases h1 : isT l s [105, 110] with
  | true =>
    rw [show isT l s tIn = true from h1] at hr
    simp only at hr
    subst hr
    simp only [go_sem, Nat.reduceBEq, Nat.reduceLeDiff, Nat.reduceEqDiff, Nat.reduceSub, Nat.reduceAdd, Int.reduceEq, Int.reduceLT, Int.reduceLE, Int.reduceAdd, rs, c_rIs, c_rNeed hlen, h1, need_yes h1, eM, List.map_nil] <;> rfl
  | false =>
  rw [show isT l s tIn = false from h1] at hr
  simp only at hr
  cases h2 : isT l s [99, 97, 108, 108] with
  | true =>
    rw [show isT l s tCall = true from h2] at hr
    simp only at hr
    subst hr
    simp only [go_sem, Nat.reduceBEq, Nat.reduceLeDiff, Nat.reduceEqDiff, Nat.reduceSub, Nat.reduceAdd, Int.reduceEq, Int.reduceLT, Int.reduceLE, Int.reduceAdd, rs, c_rIs, c_rNeed hlen, h1, h2, need_yes h2, c_rName2 hlen, c_rArgs hlen, eM, List.map_nil] <;> rfl
  | false =>
  rw [show isT l s tCall = false from h2] at hr
  simp only at hr
  cases h3 : isT l s [110, 101, 119] with
  | true =>
    rw [show isT l s tNew = true from h3] at hr
    simp only at hr
    subst hr
    simp only [go_sem, Nat.reduceBEq, Nat.reduceLeDiff, Nat.reduceEqDiff, Nat.reduceSub, Nat.reduceAdd, Int.reduceEq, Int.reduceLT, Int.reduceLE, Int.reduceAdd, rs, c_rIs, c_rNeed hlen, h1, h2, h3, need_yes h3, c_rObject hlen] <;> rfl
  | false =>
  rw [show isT l s tNew = false from h3] at hr
  simp only at hr
  simp only [go_sem, Nat.reduceBEq, Nat.reduceLeDiff, Nat.reduceEqDiff, Nat.reduceSub, Nat.reduceAdd, Int.reduceEq, Int.reduceLT, Int.reduceLE, Int.reduceAdd, rs, c_rIs, h1, h2, h3, c_rOperand hlen, signsB]
  generalize (operand l en s).1 = a at hr
  generalize (operand l en s).2 = o at hr
  refine W_loop_ind (fun n e H => ∃ i : Nat, n = 5 - i ∧ i ≤ 5 ∧ (∀ j, j < i → isT l a (arith.getD j []) = false) ∧ gget .bad e 2 = .ptr 1 0 ∧ gget .bad e 3 = .ptr 2 0 ∧ gget .bad e 8 = .ptr 14 0 ∧ gget .bad e 9 = .ptr 15 0 ∧
      gget .bad e 10 = .sl .ex (arith.map encStr) ∧ gget .bad e 11 = .lit (.int .i64 (i : Nat)) ∧ H.get 1 = some [.sl .nil [], .lit (.int .i64 0), .lit (.int .i64 0), .lit (.int .i64 0), .lit (.int .i64 0), .lit (.int .i64 0)] ∧ H.get 2 = some [.lit (.int .i64 0), .lit (.string (ba [])), .lit (.string (ba [])), .lit (.string (ba [])), .sl .nil [], .sl .nil [], .sl .nil [], .sl .nil []] ∧ H.get 14 = some (cS l en a) ∧ H.get 15 = some (encOpd o) ∧ 21 ≤ H.next)
    5 ⟨0, rfl, by omega, (fun j hj => by omega), by simp only [go_sem, Nat.reduceBEq, Nat.reduceLeDiff, Nat.reduceEqDiff, Nat.reduceSub, Nat.reduceAdd, Int.reduceEq, Int.reduceLT, Int.reduceLE, Int.reduceAdd], by simp only [go_sem, Nat.reduceBEq, Nat.reduceLeDiff, Nat.reduceEqDiff, Nat.reduceSub, Nat.reduceAdd, Int.reduceEq, Int.reduceLT, Int.reduceLE, Int.reduceAdd], by simp only [go_sem, Nat.reduceBEq, Nat.reduceLeDiff, Nat.reduceEqDiff, Nat.reduceSub, Nat.reduceAdd, Int.reduceEq, Int.reduceLT, Int.reduceLE, Int.reduceAdd], by simp only [go_sem, Nat.reduceBEq, Nat.reduceLeDiff, Nat.reduceEqDiff, Nat.reduceSub, Nat.reduceAdd, Int.reduceEq, Int.reduceLT, Int.reduceLE, Int.reduceAdd], by simp only [go_sem, Nat.reduceBEq, Nat.reduceLeDiff, Nat.reduceEqDiff, Nat.reduceSub, Nat.reduceAdd, Int.reduceEq, Int.reduceLT, Int.reduceLE, Int.reduceAdd], by simp only [go_sem, Nat.reduceBEq, Nat.reduceLeDiff, Nat.reduceEqDiff, Nat.reduceSub, Nat.reduceAdd, Int.reduceEq, Int.reduceLT, Int.reduceLE, Int.reduceAdd] <;> rfl, by simp only [go_sem, Nat.reduceBEq, Nat.reduceLeDiff, Nat.reduceEqDiff, Nat.reduceSub, Nat.reduceAdd, Int.reduceEq, Int.reduceLT, Int.reduceLE, Int.reduceAdd], by simp only [go_sem, Nat.reduceBEq, Nat.reduceLeDiff, Nat.reduceEqDiff, Nat.reduceSub, Nat.reduceAdd, Int.reduceEq, Int.reduceLT, Int.reduceLE, Int.reduceAdd], by simp only [go_sem, Nat.reduceBEq, Nat.reduceLeDiff, Nat.reduceEqDiff, Nat.reduceSub, Nat.reduceAdd, Int.reduceEq, Int.reduceLT, Int.reduceLE, Int.reduceAdd], by simp only [go_sem, Nat.reduceBEq, Nat.reduceLeDiff, Nat.reduceEqDiff, Nat.reduceSub, Nat.reduceAdd, Int.reduceEq, Int.reduceLT, Int.reduceLE, Int.reduceAdd], by simp only [go_sem, Nat.reduceBEq, Nat.reduceLeDiff, Nat.reduceEqDiff, Nat.reduceSub, Nat.reduceAdd, Int.reduceEq, Int.reduceLT, Int.reduceLE, Int.reduceAdd]⟩ ?_
  rintro n ih e H ⟨i, rfl, hle, hno, e2, e3, e8, e9, e10, e11, g1, g2, g14, g15, hnx⟩
  obtain ⟨m, hm⟩ : ∃ m, H.next = m + 21 := ⟨H.next - 21, by omega⟩
  have hal : arith.length = 5 := rfl
  by_cases hi : i < 5
  · have hi' : decide ((i : Int) < 5) = true := by simp; omega
    have hix := iad_encStr (t := 9) (bs := 16) (o := .ex) (l := arith) (i := i) (by omega)
    have hdr := signOf_drop (l := l) (s := a) arith i hno
    rw [drop_cons' [] (show i < arith.length by omega)] at hdr
    generalize ht : arith.getD i [] = t at hix hdr
    have hw1 := wrap1 (show i + 1 ≤ 9223372036854775807 by omega)
    simp only [go_sem, Nat.reduceBEq, Nat.reduceLeDiff, Nat.reduceEqDiff, Nat.reduceSub, Nat.reduceAdd, Int.reduceEq, Int.reduceLT, Int.reduceLE, Int.reduceAdd, e2, e3, e8, e9, e10, e11, g1, g2, g14, g15, hm, hi']
    refine W_draw [(0, 4)] (by kernel_rfl) ?_
    cases h : isT l a t with
    | true =>
      have hs : signOf l a arith = some t := by rw [← hdr]; simp only [signOf, h]
      simp only [rest, hs] at hr
      subst hr
      simp only [go_sem, Nat.reduceBEq, Nat.reduceLeDiff, Nat.reduceEqDiff, Nat.reduceSub, Nat.reduceAdd, Int.reduceEq, Int.reduceLT, Int.reduceLE, Int.reduceAdd, e2, e3, e8, e9, e10, e11, g1, g2, g14, g15, hm, hix, encStr, c_rIs, h]
      refine W_draw [(0, 4), (0, 10), (4, 10), (5, 10), (6, 10), (0, 11), (4, 11), (5, 11), (6, 11), (10, 11)] (by kernel_rfl) ?_
      simp only [go_sem, Nat.reduceBEq, Nat.reduceLeDiff, Nat.reduceEqDiff, Nat.reduceSub, Nat.reduceAdd, Int.reduceEq, Int.reduceLT, Int.reduceLE, Int.reduceAdd, e2, e3, e8, e9, e10, e11, g1, g2, g14, g15, hm, hix, encStr, c_rNeed hlen, need_yes h, c_rOperand hlen]
      refine W_draw [(0, 4), (0, 5), (4, 5), (0, 6), (4, 6), (5, 6), (4, 9), (5, 9), (6, 9)] (by kernel_rfl) ?_
      simp only [go_sem, Nat.reduceBEq, Nat.reduceLeDiff, Nat.reduceEqDiff, Nat.reduceSub, Nat.reduceAdd, Int.reduceEq, Int.reduceLT, Int.reduceLE, Int.reduceAdd, rs, e2, e3, e8, e9, e10, e11, g1, g2, g14, g15, hm, hix, encStr, bs2_opd, eM, List.map_nil] <;> rfl
    | false =>
      simp only [go_sem, Nat.reduceBEq, Nat.reduceLeDiff, Nat.reduceEqDiff, Nat.reduceSub, Nat.reduceAdd, Int.reduceEq, Int.reduceLT, Int.reduceLE, Int.reduceAdd, e2, e3, e8, e9, e10, e11, g1, g2, g14, g15, hm, hix, encStr, c_rIs, h, hw1]
      exact ih (5 - (i + 1)) (by omega) _ _ ⟨i + 1, rfl, by omega, fun j hj => by
          by_cases hji : j = i
          · subst hji; rw [ht]; exact h
          · exact hno j (by omega),
        by simp only [go_sem, Nat.reduceBEq, Nat.reduceLeDiff, Nat.reduceEqDiff, Nat.reduceSub, Nat.reduceAdd, Int.reduceEq, Int.reduceLT, Int.reduceLE, Int.reduceAdd, e2], by simp only [go_sem, Nat.reduceBEq, Nat.reduceLeDiff, Nat.reduceEqDiff, Nat.reduceSub, Nat.reduceAdd, Int.reduceEq, Int.reduceLT, Int.reduceLE, Int.reduceAdd, e3], by simp only [go_sem, Nat.reduceBEq, Nat.reduceLeDiff, Nat.reduceEqDiff, Nat.reduceSub, Nat.reduceAdd, Int.reduceEq, Int.reduceLT, Int.reduceLE, Int.reduceAdd, e8], by simp only [go_sem, Nat.reduceBEq, Nat.reduceLeDiff, Nat.reduceEqDiff, Nat.reduceSub, Nat.reduceAdd, Int.reduceEq, Int.reduceLT, Int.reduceLE, Int.reduceAdd, e9], by simp only [go_sem, Nat.reduceBEq, Nat.reduceLeDiff, Nat.reduceEqDiff, Nat.reduceSub, Nat.reduceAdd, Int.reduceEq, Int.reduceLT, Int.reduceLE, Int.reduceAdd, e10], by simp only [go_sem, Nat.reduceBEq, Nat.reduceLeDiff, Nat.reduceEqDiff, Nat.reduceSub, Nat.reduceAdd, Int.reduceEq, Int.reduceLT, Int.reduceLE, Int.reduceAdd], by simp only [go_sem, Nat.reduceBEq, Nat.reduceLeDiff, Nat.reduceEqDiff, Nat.reduceSub, Nat.reduceAdd, Int.reduceEq, Int.reduceLT, Int.reduceLE, Int.reduceAdd, g1], by simp only [go_sem, Nat.reduceBEq, Nat.reduceLeDiff, Nat.reduceEqDiff, Nat.reduceSub, Nat.reduceAdd, Int.reduceEq, Int.reduceLT, Int.reduceLE, Int.reduceAdd, g2], by simp only [go_sem, Nat.reduceBEq, Nat.reduceLeDiff, Nat.reduceEqDiff, Nat.reduceSub, Nat.reduceAdd, Int.reduceEq, Int.reduceLT, Int.reduceLE, Int.reduceAdd, g14], by simp only [go_sem, Nat.reduceBEq, Nat.reduceLeDiff, Nat.reduceEqDiff, Nat.reduceSub, Nat.reduceAdd, Int.reduceEq, Int.reduceLT, Int.reduceLE, Int.reduceAdd, g15], by simp only [go_sem, Nat.reduceBEq, Nat.reduceLeDiff, Nat.reduceEqDiff, Nat.reduceSub, Nat.reduceAdd, Int.reduceEq, Int.reduceLT, Int.reduceLE, Int.reduceAdd, hm]⟩
  · have hi' : decide ((i : Int) < 5) = false := by simp; omega
    have hs : signOf l a arith = none := by
      rw [← signOf_drop (l := l) (s := a) arith i hno, List.drop_of_length_le (by omega)]; rfl
    simp only [rest, hs] at hr
    simp only [go_sem, Nat.reduceBEq, Nat.reduceLeDiff, Nat.reduceEqDiff, Nat.reduceSub, Nat.reduceAdd, Int.reduceEq, Int.reduceLT, Int.reduceLE, Int.reduceAdd, e2, e3, e8, e9, e10, e11, g1, g2, g14, g15, hm, hi']
    by_cases hk : o.kind = 4
    · have dk : decide (o.kind = 4) = true := by simp [hk]
      have dk' : decide (o.kind = 4) = true := by simp [hk]
      simp only [dk', Bool.true_and] at hr
      simp only [go_sem, Nat.reduceBEq, Nat.reduceLeDiff, Nat.reduceEqDiff, Nat.reduceSub, Nat.reduceAdd, Int.reduceEq, Int.reduceLT, Int.reduceLE, Int.reduceAdd, e2, e3, e8, e9, g1, g2, g14, g15, hm, dk, c_rIs]
      cases h4 : isT l a [40] with
      | true =>
        rw [h4] at hr
        simp only at hr
        subst hr
        simp only [go_sem, Nat.reduceBEq, Nat.reduceLeDiff, Nat.reduceEqDiff, Nat.reduceSub, Nat.reduceAdd, Int.reduceEq, Int.reduceLT, Int.reduceLE, Int.reduceAdd, e2, e3, e8, e9, g1, g2, g14, g15, hm, c_rArgs hlen]
        refine W_draw [(0, 2), (2, 5)] (by kernel_rfl) ?_
        simp only [go_sem, Nat.reduceBEq, Nat.reduceLeDiff, Nat.reduceEqDiff, Nat.reduceSub, Nat.reduceAdd, Int.reduceEq, Int.reduceLT, Int.reduceLE, Int.reduceAdd, rs, e2, e3, e8, e9, g1, g2, g14, g15, hm, eM, List.map_nil] <;> rfl
      | false =>
        rw [h4] at hr
        simp only at hr
        simp only [go_sem, Nat.reduceBEq, Nat.reduceLeDiff, Nat.reduceEqDiff, Nat.reduceSub, Nat.reduceAdd, Int.reduceEq, Int.reduceLT, Int.reduceLE, Int.reduceAdd, e2, e3, e8, e9, g1, g2, g14, g15, hm, dk, c_rIs]
        cases h5 : isT l a [46] with
        | true =>
          rw [h5] at hr
          simp only at hr
          subst hr
          simp only [go_sem, Nat.reduceBEq, Nat.reduceLeDiff, Nat.reduceEqDiff, Nat.reduceSub, Nat.reduceAdd, Int.reduceEq, Int.reduceLT, Int.reduceLE, Int.reduceAdd, e2, e3, e8, e9, g1, g2, g14, g15, hm, c_rNeed hlen, need_yes h5, c_rName2 hlen]
          refine W_draw [(0, 2), (2, 5)] (by kernel_rfl) ?_
          simp only [go_sem, Nat.reduceBEq, Nat.reduceLeDiff, Nat.reduceEqDiff, Nat.reduceSub, Nat.reduceAdd, Int.reduceEq, Int.reduceLT, Int.reduceLE, Int.reduceAdd, rs, e2, e3, e8, e9, g1, g2, g14, g15, hm, eM, List.map_nil] <;> rfl
        | false =>
          rw [h5] at hr
          simp only at hr
          subst hr
          simp only [go_sem, Nat.reduceBEq, Nat.reduceLeDiff, Nat.reduceEqDiff, Nat.reduceSub, Nat.reduceAdd, Int.reduceEq, Int.reduceLT, Int.reduceLE, Int.reduceAdd]
          refine W_draw [(0, 1), (1, 4)] (by kernel_rfl) ?_
          simp only [go_sem, Nat.reduceBEq, Nat.reduceLeDiff, Nat.reduceEqDiff, Nat.reduceSub, Nat.reduceAdd, Int.reduceEq, Int.reduceLT, Int.reduceLE, Int.reduceAdd, rs, e2, e3, e8, e9, g1, g2, g14, g15, hm, eM, List.map_cons, List.map_nil] <;> rfl
    · have dk : decide (o.kind = 4) = false := by simp [hk]
      have dk' : decide (o.kind = 4) = false := by simp [hk]
      simp only [dk', Bool.false_and] at hr
      subst hr
      simp only [go_sem, Nat.reduceBEq, Nat.reduceLeDiff, Nat.reduceEqDiff, Nat.reduceSub, Nat.reduceAdd, Int.reduceEq, Int.reduceLT, Int.reduceLE, Int.reduceAdd, e2, e3, e8, e9, g1, g2, g14, g15, hm, dk]
      refine W_draw [(0, 1), (1, 4)] (by kernel_rfl) ?_
      simp only [go_sem, Nat.reduceBEq, Nat.reduceLeDiff, Nat.reduceEqDiff, Nat.reduceSub, Nat.reduceAdd, Int.reduceEq, Int.reduceLT, Int.reduceLE, Int.reduceAdd, rs, e2, e3, e8, e9, g1, g2, g14, g15, hm, eM, List.map_cons, List.map_nil] <;> rfl
end
end Go.Proofs.YtghhkbigmmjanaaGreatDoor.VA

/-! Pd7 -/
namespace Go.Proofs.YtghhkbigmmjanaaGreatDoor.VA
open Go Go.RowKit
attribute [local go_sem] Nat.add_eq_left Nat.left_eq_add true_and and_true ite_true if_false Int.cast_ofNat_Int eq_self Nat.add_assoc Option.some.injEq decide_true decide_false Bool.not_true Bool.not_false List.size_toArray List.length_cons List.length_nil
set_option linter.unusedSimpArgs false
set_option maxRecDepth 100000

section
variable {l : List GTok} {en : Int}
theorem isT_other {s : PS} {t u : List UInt8} (h : isT l s t = true) (hne : t ≠ u) : isT l s u = false := by
  obtain ⟨x, h1, _, h2, _⟩ := isT_some h
  simp only [isT, h1]
  have : decide (x.text = u) = false := by simp [h2, hne]
  rw [this, Bool.and_false, Bool.false_and]
theorem isT_name {s : PS} {t : List UInt8} (h : isT l s t = true) (hk : keyword t = true) : isName l s = false := by
  obtain ⟨x, h1, _, h2, _⟩ := isT_some h
  simp only [isName, h1, h2, hk, Bool.not_true, Bool.and_false]
theorem name_isT {s : PS} {t : List UInt8} (h : isName l s = true) (hk : keyword t = true) : isT l s t = false := by
  cases h2 : isT l s t with
  | false => rfl
  | true => rw [isT_name h2 hk] at h; cases h
/-- The ways a statement may begin. -/
theorem begins (s : PS) :
    (isName l s = true ∧ isT l s [111, 117, 116] = false ∧ isT l s [114, 101, 116, 117, 114, 110] = false ∧ isT l s [105, 102] = false ∧ isT l s [119, 104, 105, 108, 101] = false) ∨
    (isName l s = false ∧ isT l s [111, 117, 116] = true ∧ isT l s [114, 101, 116, 117, 114, 110] = false ∧ isT l s [105, 102] = false ∧ isT l s [119, 104, 105, 108, 101] = false) ∨
    (isName l s = false ∧ isT l s [111, 117, 116] = false ∧ isT l s [114, 101, 116, 117, 114, 110] = true ∧ isT l s [105, 102] = false ∧ isT l s [119, 104, 105, 108, 101] = false) ∨
    (isName l s = false ∧ isT l s [111, 117, 116] = false ∧ isT l s [114, 101, 116, 117, 114, 110] = false ∧ isT l s [105, 102] = true ∧ isT l s [119, 104, 105, 108, 101] = false) ∨
    (isName l s = false ∧ isT l s [111, 117, 116] = false ∧ isT l s [114, 101, 116, 117, 114, 110] = false ∧ isT l s [105, 102] = false ∧ isT l s [119, 104, 105, 108, 101] = true) ∨
    (isName l s = false ∧ isT l s [111, 117, 116] = false ∧ isT l s [114, 101, 116, 117, 114, 110] = false ∧ isT l s [105, 102] = false ∧ isT l s [119, 104, 105, 108, 101] = false) := by
  cases h0 : isName l s with
  | true => exact .inl ⟨rfl, name_isT h0 rfl, name_isT h0 rfl, name_isT h0 rfl, name_isT h0 rfl⟩
  | false =>
  cases h1 : isT l s [111, 117, 116] with
  | true => exact .inr (.inl ⟨rfl, rfl, isT_other h1 (by decide), isT_other h1 (by decide), isT_other h1 (by decide)⟩)
  | false =>
  cases h2 : isT l s [114, 101, 116, 117, 114, 110] with
  | true => exact .inr (.inr (.inl ⟨rfl, rfl, rfl, isT_other h2 (by decide), isT_other h2 (by decide)⟩))
  | false =>
  cases h3 : isT l s [105, 102] with
  | true => exact .inr (.inr (.inr (.inl ⟨rfl, rfl, rfl, rfl, isT_other h3 (by decide)⟩)))
  | false =>
  cases h4 : isT l s [119, 104, 105, 108, 101] with
  | true => exact .inr (.inr (.inr (.inr (.inl ⟨rfl, rfl, rfl, rfl, rfl⟩))))
  | false => exact .inr (.inr (.inr (.inr (.inr ⟨rfl, rfl, rfl, rfl, rfl⟩))))
theorem encStmt_mk (op : Int) (x y p : List UInt8) (a : List Opd) (ps : List (List UInt8)) (th el : List GStmt) : encStmt (.mk op x y p a ps th el) =
    [.lit (.int .i64 op), .lit (.string (ba x)), .lit (.string (ba y)), .lit (.string (ba p)), .sl .sh (a.map encOpd), .sl .sh (ps.map encStr), .sl .sh (th.map encStmt), .sl .sh (el.map encStmt)] := by simp only [encStmt, encStmts_map]
theorem app_stm (hlen : l.length ≤ LM) {acc : List GStmt} (h : acc.length ≤ l.length + 5) (o : Own) (x : GStmt) (H : Heap) (id : Nat) (ho : AppOk H o acc.length 40 8) :
    aAppend Tryz.prog 38 (.sl o (acc.map encStmt)) (.sl .ex [encStmt x]) H id = some (.sl (.own id 40 8) ((acc ++ [x]).map encStmt), ownUs o id, ownRs o) := by
  rw [append_any el_sStm zo_sStm (by decide) (by simp; unfold LM at hlen; omega) (by simp; unfold LM at hlen; omega) (eM_len x) H id (by simpa using ho)]
  simp [sanLL, sanL_encStmt]
/-- What is said of statements, with so much fuel. -/
def StmtOk (l : List GTok) (en : Int) (n : Nat) : Prop := ∀ (s : PS) (deep : Nat) (H : Heap), 3 * rem l s + 1 ≤ n → deep ≤ 33 →
  calls Tryz.prog cfg 89 [.agg (cS l en s), .lit (.int .i64 (deep : Nat))] H = some (.ret (.tup [.agg (cS l en (stmtF l en n s deep).1), .agg (encStmt (stmtF l en n s deep).2)]) H)
def BlockOk (l : List GTok) (en : Int) (n : Nat) : Prop := ∀ (s : PS) (deep : Nat) (H : Heap), 3 * rem l s + 3 ≤ n → deep ≤ 33 →
  calls Tryz.prog cfg 63 [.agg (cS l en s), .lit (.int .i64 (deep : Nat))] H = some (.ret (.tup [.agg (cS l en (blockF l en n s deep).1), .sl .sh ((blockF l en n s deep).2.map encStmt)]) H)
set_option maxRecDepth 20000 in
theorem c_rStmt (hlen : l.length ≤ LM) (n : Nat) (ihb : BlockOk l en n) : StmtOk l en (n + 1) := by
  intro s deep H hn hdeep
  refine calls_pure (fn := Tryz.f89) rfl rfl rfl rfl rfl ?_ H
  have rs : Tryz.f89.results.toList = [.cell 4 80, .cell 5 40] := rfl
  generalize hr : stmtF l en (n + 1) s deep = r
  unfold stmtF at hr
  have eM := encStmt_mk
  have cnt : ∀ (s : PS) (t : List UInt8), isT l s.count t = isT l s t := fun _ _ => rfl
  rcases begins (l := l) s with ⟨h0, h1, h2, h3, h4⟩ | ⟨h0, h1, h2, h3, h4⟩ | ⟨h0, h1, h2, h3, h4⟩ | ⟨h0, h1, h2, h3, h4⟩ | ⟨h0, h1, h2, h3, h4⟩ | ⟨h0, h1, h2, h3, h4⟩
  case inr.inr.inr.inr.inr =>
    have hst : starts l s = false := by simp only [starts, tOut, tReturn, tIf, tWhile, h0, h1, h2, h3, h4, Bool.or_self]
    rw [hst] at hr
    simp only at hr
    subst hr
    simp only [go_sem, Nat.reduceBEq, Nat.reduceLeDiff, Nat.reduceEqDiff, Nat.reduceSub, Nat.reduceAdd, Int.reduceEq, Int.reduceLT, Int.reduceLE, Int.reduceAdd, rs, c_rIsName, c_rIs, h0, h1, h2, h3, h4]
    refine W_draw [(0, 2), (1, 2), (2, 3)] (by kernel_rfl) ?_
    simp only [go_sem, Nat.reduceBEq, Nat.reduceLeDiff, Nat.reduceEqDiff, Nat.reduceSub, Nat.reduceAdd, Int.reduceEq, Int.reduceLT, Int.reduceLE, Int.reduceAdd, rs, c_rFail0, eM, List.map_nil]
  all_goals
    have hst : starts l s = true := by simp only [starts, tOut, tReturn, tIf, tWhile, h0, h1, h2, h3, h4, Bool.or_true, Bool.true_or]
    rw [hst] at hr
    simp only [tIf, tWhile, h3, h4] at hr
    by_cases hc : 2000 ≤ s.cnt
    · have d : decide (2000 ≤ ((s.cnt : Nat) : Int)) = true := by simp; omega
      have d' : decide (2000 ≤ s.cnt) = true := by simp [hc]
      rw [d'] at hr
      simp only at hr
      subst hr
      simp only [go_sem, Nat.reduceBEq, Nat.reduceLeDiff, Nat.reduceEqDiff, Nat.reduceSub, Nat.reduceAdd, Int.reduceEq, Int.reduceLT, Int.reduceLE, Int.reduceAdd, rs, c_rIsName, c_rIs, h0, h1, h2, h3, h4, d]
      refine W_draw [(0, 2), (1, 2), (2, 3)] (by kernel_rfl) ?_
      simp only [go_sem, Nat.reduceBEq, Nat.reduceLeDiff, Nat.reduceEqDiff, Nat.reduceSub, Nat.reduceAdd, Int.reduceEq, Int.reduceLT, Int.reduceLE, Int.reduceAdd, rs, c_rFail2, eM, List.map_nil]
    have d : decide (2000 ≤ ((s.cnt : Nat) : Int)) = false := by simp; omega
    have d' : decide (2000 ≤ s.cnt) = false := by simp; omega
    rw [d'] at hr
    simp only at hr
    have hwc := wrap1 (show s.cnt + 1 ≤ 9223372036854775807 by omega)
  · subst hr
    have hsim : simple l en s.count = assign l en s.count := by simp only [simple, tOut, tReturn, cnt, h1, h2]
    simp only [semi, hsim, assign]
    simp only [go_sem, Nat.reduceBEq, Nat.reduceLeDiff, Nat.reduceEqDiff, Nat.reduceSub, Nat.reduceAdd, Int.reduceEq, Int.reduceLT, Int.reduceLE, Int.reduceAdd, rs, c_rIsName, c_rIs, h0, h1, h2, h3, h4, d, hwc, cnt, c_rName2 hlen]
    cases h5 : isT l (nameP l en s.count).1 [46] with
    | true =>
      simp only [go_sem, Nat.reduceBEq, Nat.reduceLeDiff, Nat.reduceEqDiff, Nat.reduceSub, Nat.reduceAdd, Int.reduceEq, Int.reduceLT, Int.reduceLE, Int.reduceAdd, c_rNeed hlen, need_yes h5, c_rName2 hlen, c_rOperand hlen]
      refine W_draw [(0, 4), (1, 4), (4, 7)] (by kernel_rfl) ?_
      simp only [go_sem, Nat.reduceBEq, Nat.reduceLeDiff, Nat.reduceEqDiff, Nat.reduceSub, Nat.reduceAdd, Int.reduceEq, Int.reduceLT, Int.reduceLE, Int.reduceAdd, rs, c_rNeed hlen, eM, List.map_cons, List.map_nil]
    | false =>
      simp only [go_sem, Nat.reduceBEq, Nat.reduceLeDiff, Nat.reduceEqDiff, Nat.reduceSub, Nat.reduceAdd, Int.reduceEq, Int.reduceLT, Int.reduceLE, Int.reduceAdd, c_rNeed hlen, c_rValue hlen]
      refine W_draw [(0, 2), (1, 2), (2, 3)] (by kernel_rfl) ?_
      simp only [go_sem, Nat.reduceBEq, Nat.reduceLeDiff, Nat.reduceEqDiff, Nat.reduceSub, Nat.reduceAdd, Int.reduceEq, Int.reduceLT, Int.reduceLE, Int.reduceAdd, rs, c_rNeed hlen]
  · subst hr
    have hw := at_wrap hlen (s := s.count) (isT_at (s := s.count) h1)
    have hsim : simple l en s.count = ((operand l en s.count.adv).1, .mk 8 [] [] [] [(operand l en s.count.adv).2] [] [] []) := by simp only [simple, tOut, cnt, h1]
    simp only [semi, hsim]
    simp only [go_sem, Nat.reduceBEq, Nat.reduceLeDiff, Nat.reduceEqDiff, Nat.reduceSub, Nat.reduceAdd, Int.reduceEq, Int.reduceLT, Int.reduceLE, Int.reduceAdd, rs, c_rIsName, c_rIs, h0, h1, h2, h3, h4, d, hwc, cnt, hw, c_rOperand hlen]
    refine W_draw [(0, 3), (1, 3), (3, 6)] (by kernel_rfl) ?_
    simp only [go_sem, Nat.reduceBEq, Nat.reduceLeDiff, Nat.reduceEqDiff, Nat.reduceSub, Nat.reduceAdd, Int.reduceEq, Int.reduceLT, Int.reduceLE, Int.reduceAdd, rs, c_rNeed hlen, eM, List.map_cons, List.map_nil] <;> rfl
  · subst hr
    have hw := at_wrap hlen (s := s.count) (isT_at (s := s.count) h2)
    have hsim : simple l en s.count = ((operand l en s.count.adv).1, .mk 11 [] [] [] [(operand l en s.count.adv).2] [] [] []) := by simp only [simple, tOut, tReturn, cnt, h1, h2]
    simp only [semi, hsim]
    simp only [go_sem, Nat.reduceBEq, Nat.reduceLeDiff, Nat.reduceEqDiff, Nat.reduceSub, Nat.reduceAdd, Int.reduceEq, Int.reduceLT, Int.reduceLE, Int.reduceAdd, rs, c_rIsName, c_rIs, h0, h1, h2, h3, h4, d, hwc, cnt, hw, c_rOperand hlen]
    refine W_draw [(0, 3), (1, 3), (3, 6)] (by kernel_rfl) ?_
    simp only [go_sem, Nat.reduceBEq, Nat.reduceLeDiff, Nat.reduceEqDiff, Nat.reduceSub, Nat.reduceAdd, Int.reduceEq, Int.reduceLT, Int.reduceLE, Int.reduceAdd, rs, c_rNeed hlen, eM, List.map_cons, List.map_nil] <;> rfl
  · have hw := at_wrap hlen (s := s.count) (isT_at (s := s.count) h3)
    obtain ⟨x, hx, _⟩ := isT_some h3
    have hrem : rem l (operand l en s.count.adv).1 + 1 ≤ rem l s := (rem_lt (l := l) ((count_lt (adv_isT (s := s.count) h3)).trans_le (operand_lt (en := en) _).le)).2 (tk_some hx).2.1 (tk_some hx).2.2.1
    have hb1 := fun H => ihb (operand l en s.count.adv).1 deep H (by omega) hdeep
    simp only [go_sem, Nat.reduceBEq, Nat.reduceLeDiff, Nat.reduceEqDiff, Nat.reduceSub, Nat.reduceAdd, Int.reduceEq, Int.reduceLT, Int.reduceLE, Int.reduceAdd, rs, c_rIsName, c_rIs, h0, h1, h2, h3, h4, d, hwc, cnt, hw, c_rOperand hlen, hb1]
    cases h5 : isT l (blockF l en n (operand l en s.count.adv).1 deep).1 [101, 108, 115, 101] with
    | true =>
      have h5' : isT l (blockF l en n (operand l en s.count.adv).1 deep).1 tElse = true := h5
      simp only [h5'] at hr
      subst hr
      have hrem2 : rem l (blockF l en n (operand l en s.count.adv).1 deep).1.adv ≤ rem l (operand l en s.count.adv).1 := (rem_lt (l := l) ((blockF_lt (en := en) n _ deep).trans_le (adv_isT h5).le)).1
      have hb2 := fun H => ihb (blockF l en n (operand l en s.count.adv).1 deep).1.adv deep H (by omega) hdeep
      simp only [go_sem, Nat.reduceBEq, Nat.reduceLeDiff, Nat.reduceEqDiff, Nat.reduceSub, Nat.reduceAdd, Int.reduceEq, Int.reduceLT, Int.reduceLE, Int.reduceAdd, c_rNeed hlen, need_yes h5, hb2]
      refine W_draw [(0, 1), (1, 2)] (by kernel_rfl) ?_
      simp only [go_sem, Nat.reduceBEq, Nat.reduceLeDiff, Nat.reduceEqDiff, Nat.reduceSub, Nat.reduceAdd, Int.reduceEq, Int.reduceLT, Int.reduceLE, Int.reduceAdd, rs, eM, List.map_cons, List.map_nil] <;> rfl
    | false =>
      have h5' : isT l (blockF l en n (operand l en s.count.adv).1 deep).1 tElse = false := h5
      simp only [h5'] at hr
      subst hr
      simp only [go_sem, Nat.reduceBEq, Nat.reduceLeDiff, Nat.reduceEqDiff, Nat.reduceSub, Nat.reduceAdd, Int.reduceEq, Int.reduceLT, Int.reduceLE, Int.reduceAdd]
      refine W_draw [(0, 1), (1, 2)] (by kernel_rfl) ?_
      simp only [go_sem, Nat.reduceBEq, Nat.reduceLeDiff, Nat.reduceEqDiff, Nat.reduceSub, Nat.reduceAdd, Int.reduceEq, Int.reduceLT, Int.reduceLE, Int.reduceAdd, rs, eM, List.map_cons, List.map_nil] <;> rfl
  · have hw := at_wrap hlen (s := s.count) (isT_at (s := s.count) h4)
    obtain ⟨x, hx, _⟩ := isT_some h4
    have hrem : rem l (operand l en s.count.adv).1 + 1 ≤ rem l s := (rem_lt (l := l) ((count_lt (adv_isT (s := s.count) h4)).trans_le (operand_lt (en := en) _).le)).2 (tk_some hx).2.1 (tk_some hx).2.2.1
    have hb1 := fun H => ihb (operand l en s.count.adv).1 deep H (by omega) hdeep
    subst hr
    simp only [go_sem, Nat.reduceBEq, Nat.reduceLeDiff, Nat.reduceEqDiff, Nat.reduceSub, Nat.reduceAdd, Int.reduceEq, Int.reduceLT, Int.reduceLE, Int.reduceAdd, rs, c_rIsName, c_rIs, h0, h1, h2, h3, h4, d, hwc, cnt, hw, c_rOperand hlen, hb1]
    refine W_draw [(0, 1), (1, 2)] (by kernel_rfl) ?_
    simp only [go_sem, Nat.reduceBEq, Nat.reduceLeDiff, Nat.reduceEqDiff, Nat.reduceSub, Nat.reduceAdd, Int.reduceEq, Int.reduceLT, Int.reduceLE, Int.reduceAdd, rs, eM, List.map_cons, List.map_nil] <;> rfl
set_option maxRecDepth 20000 in
theorem c_rBlock (hlen : l.length ≤ LM) (n : Nat) (ihs : ∀ k, k < n → StmtOk l en k) : BlockOk l en (n + 1) := by
  intro s deep H hn hdeep
  refine calls_pure (fn := Tryz.f63) rfl rfl rfl rfl rfl ?_ H
  have rs : Tryz.f63.results.toList = [.cell 4 80, .tmp 5] := rfl
  generalize hr : blockF l en (n + 1) s deep = r
  unfold blockF at hr
  have d : decide (32 ≤ ((deep : Nat) : Int)) = decide (32 ≤ deep) := by rw [Bool.eq_iff_iff]; simp; omega
  have hlt := need_lt (l := l) (en := en) s [123]
  have hrem := (rem_lt hlt).1
  have go : (isT l s [123] = false ∧ decide (32 ≤ deep) = false) ∨ (isT l s [123] = false ∧ decide (32 ≤ deep) = true) ∨ (isT l s [123] = true ∧ decide (32 ≤ deep) = false) ∨ (isT l s [123] = true ∧ decide (32 ≤ deep) = true) := by
    cases isT l s [123] <;> cases decide (32 ≤ deep) <;> simp
  rcases go with ⟨h1, h2⟩ | ⟨h1, h2⟩ | ⟨h1, h2⟩ | ⟨h1, h2⟩
  case inr.inr.inr =>
    simp only [h1, h2, Bool.and_self] at hr
    subst hr
    simp only [go_sem, Nat.reduceBEq, Nat.reduceLeDiff, Nat.reduceEqDiff, Nat.reduceSub, Nat.reduceAdd, Int.reduceEq, Int.reduceLT, Int.reduceLE, Int.reduceAdd, rs, bs0_stm, c_rIs, h1, d, h2, c_rFail1, List.map_nil]
  all_goals
    simp only [h1, Bool.false_and, Bool.true_and, h2] at hr
    simp only [go_sem, Nat.reduceBEq, Nat.reduceLeDiff, Nat.reduceEqDiff, Nat.reduceSub, Nat.reduceAdd, Int.reduceEq, Int.reduceLT, Int.reduceLE, Int.reduceAdd, rs, bs0_stm, c_rIs, h1, d, h2, c_rNeed hlen]
    have hdp : (need l en s [123]).ok = true → deep ≤ 32 := by
      intro hk
      first
        | (have h2' : ¬ 32 ≤ deep := by simpa using h2
           omega)
        | (simp only [need, h1] at hk; rw [pfail_bad] at hk; cases hk)
    generalize need l en s [123] = s at hr hlt hrem hdp
    refine W_loop_ind (fun x e H => ∃ (s : PS) (acc : List GStmt) (o : Own) (k : Nat), x = ms l s ∧ 1 ≤ k ∧ k ≤ n ∧ (s.ok = true → 3 * rem l s + 2 ≤ k) ∧ bodyF l en k s deep acc = r ∧ (s.ok = true → acc.length ≤ s.at_ ∧ s.at_ ≤ l.length ∧ deep ≤ 32) ∧
        gget .bad e 1 = .lit (.int .i64 (deep : Nat)) ∧ gget .bad e 2 = .ptr 0 0 ∧ gget .bad e 4 = .ptr 1 0 ∧ gget .bad e 6 = .sl o (acc.map encStmt) ∧ H.get 0 = some (cS l en s) ∧ H.get 1 = some [.sl .nil [], .lit (.int .i64 0), .lit (.int .i64 0), .lit (.int .i64 0), .lit (.int .i64 0), .lit (.int .i64 0)] ∧ 2 ≤ H.next ∧ AppOk H o acc.length 40 8)
      (ms l s) ⟨s, [], .ex, n, rfl, by omega, by omega, fun _ => by omega, hr, fun hk => ⟨by simp, (hlt hk).2.2, hdp hk⟩, by simp only [go_sem, Nat.reduceBEq, Nat.reduceLeDiff, Nat.reduceEqDiff, Nat.reduceSub, Nat.reduceAdd, Int.reduceEq, Int.reduceLT, Int.reduceLE, Int.reduceAdd], by simp only [go_sem, Nat.reduceBEq, Nat.reduceLeDiff, Nat.reduceEqDiff, Nat.reduceSub, Nat.reduceAdd, Int.reduceEq, Int.reduceLT, Int.reduceLE, Int.reduceAdd], by simp only [go_sem, Nat.reduceBEq, Nat.reduceLeDiff, Nat.reduceEqDiff, Nat.reduceSub, Nat.reduceAdd, Int.reduceEq, Int.reduceLT, Int.reduceLE, Int.reduceAdd], by simp only [go_sem, Nat.reduceBEq, Nat.reduceLeDiff, Nat.reduceEqDiff, Nat.reduceSub, Nat.reduceAdd, Int.reduceEq, Int.reduceLT, Int.reduceLE, Int.reduceAdd, List.map_nil], by simp only [go_sem, Nat.reduceBEq, Nat.reduceLeDiff, Nat.reduceEqDiff, Nat.reduceSub, Nat.reduceAdd, Int.reduceEq, Int.reduceLT, Int.reduceLE, Int.reduceAdd], by simp only [go_sem, Nat.reduceBEq, Nat.reduceLeDiff, Nat.reduceEqDiff, Nat.reduceSub, Nat.reduceAdd, Int.reduceEq, Int.reduceLT, Int.reduceLE, Int.reduceAdd], by simp only [go_sem, Nat.reduceBEq, Nat.reduceLeDiff, Nat.reduceEqDiff, Nat.reduceSub, Nat.reduceAdd, Int.reduceEq, Int.reduceLT, Int.reduceLE, Int.reduceAdd], by simp only [go_sem, Nat.reduceBEq, Nat.reduceLeDiff, Nat.reduceEqDiff, Nat.reduceSub, Nat.reduceAdd, Int.reduceEq, Int.reduceLT, Int.reduceLE, Int.reduceAdd]⟩ ?_
    clear hlt hr hrem hdp
    rintro x ih e H ⟨s, acc, o, k, rfl, hk1, hkn, hkr, hr, hb, e1, e2, e4, e6, g0, g1, hnx, ho⟩
    obtain ⟨m, hm⟩ : ∃ m, H.next = m + 2 := ⟨H.next - 2, by omega⟩
    obtain ⟨k, rfl⟩ : ∃ j, k = j + 1 := ⟨k - 1, by omega⟩
    have hend : (s.ok && !isT l s [125]) = false → r = (need l en s [125], acc) := fun h => by rw [← hr]; simp only [bodyF, h]
    cases hok : s.ok with
    | false =>
      have hrr := hend (by rw [hok, Bool.false_and])
      subst hrr
      simp only [go_sem, Nat.reduceBEq, Nat.reduceLeDiff, Nat.reduceEqDiff, Nat.reduceSub, Nat.reduceAdd, Int.reduceEq, Int.reduceLT, Int.reduceLE, Int.reduceAdd, rs, e1, e2, e4, e6, g0, g1, hm, c_rOk, hok, c_rNeed hlen, sanLL_encStmt]
    | true =>
      cases h5 : isT l s [125] with
      | true =>
        have hrr := hend (by rw [h5, Bool.not_true, Bool.and_false])
        subst hrr
        simp only [go_sem, Nat.reduceBEq, Nat.reduceLeDiff, Nat.reduceEqDiff, Nat.reduceSub, Nat.reduceAdd, Int.reduceEq, Int.reduceLT, Int.reduceLE, Int.reduceAdd, rs, e1, e2, e4, e6, g0, g1, hm, c_rOk, hok, c_rIs, h5, c_rNeed hlen, sanLL_encStmt]
      | false =>
        have hr2 : bodyF l en k (stmtF l en k s (deep + 1)).1 deep (acc ++ [(stmtF l en k s (deep + 1)).2]) = r := by rw [← hr]; simp only [bodyF, hok, h5, Bool.not_false, Bool.and_self]
        obtain ⟨hb1, hb2, hb3⟩ := hb hok
        have hkr := hkr hok
        have hst := fun H => ihs k (by omega) s (deep + 1) H (by omega) (by omega)
        have hwd := wrap1 (show deep + 1 ≤ 9223372036854775807 by omega)
        have hap := fun o x H id h => app_stm hlen (acc := acc) (by omega) o x H id h
        have hlt := stmtF_lt (l := l) (en := en) k s (deep + 1)
        have hms := ms_lt hlt hok
        simp only [go_sem, Nat.reduceBEq, Nat.reduceLeDiff, Nat.reduceEqDiff, Nat.reduceSub, Nat.reduceAdd, Int.reduceEq, Int.reduceLT, Int.reduceLE, Int.reduceAdd, rs, e1, e2, e4, e6, g0, g1, hm, c_rOk, hok, c_rIs, h5, hwd, hst, hap, ho]
        exact ih _ hms _ _ ⟨_, _, _, k, rfl, by omega, by omega, fun hk' => by
            obtain ⟨q1, q2, q3⟩ := hlt hk'
            have := (rem_lt hlt).2 hok (by omega)
            omega, hr2, fun hk' => by obtain ⟨q1, q2, q3⟩ := hlt hk'; simp only [List.length_append, List.length_cons, List.length_nil]; omega,
          by simp only [go_sem, Nat.reduceBEq, Nat.reduceLeDiff, Nat.reduceEqDiff, Nat.reduceSub, Nat.reduceAdd, Int.reduceEq, Int.reduceLT, Int.reduceLE, Int.reduceAdd, e1], by simp only [go_sem, Nat.reduceBEq, Nat.reduceLeDiff, Nat.reduceEqDiff, Nat.reduceSub, Nat.reduceAdd, Int.reduceEq, Int.reduceLT, Int.reduceLE, Int.reduceAdd, e2], by simp only [go_sem, Nat.reduceBEq, Nat.reduceLeDiff, Nat.reduceEqDiff, Nat.reduceSub, Nat.reduceAdd, Int.reduceEq, Int.reduceLT, Int.reduceLE, Int.reduceAdd, e4], by simp only [go_sem, Nat.reduceBEq, Nat.reduceLeDiff, Nat.reduceEqDiff, Nat.reduceSub, Nat.reduceAdd, Int.reduceEq, Int.reduceLT, Int.reduceLE, Int.reduceAdd] <;> rfl, by simp only [go_sem, Nat.reduceBEq, Nat.reduceLeDiff, Nat.reduceEqDiff, Nat.reduceSub, Nat.reduceAdd, Int.reduceEq, Int.reduceLT, Int.reduceLE, Int.reduceAdd], by simp only [go_sem, Nat.reduceBEq, Nat.reduceLeDiff, Nat.reduceEqDiff, Nat.reduceSub, Nat.reduceAdd, Int.reduceEq, Int.reduceLT, Int.reduceLE, Int.reduceAdd, g1], by simp only [go_sem, Nat.reduceBEq, Nat.reduceLeDiff, Nat.reduceEqDiff, Nat.reduceSub, Nat.reduceAdd, Int.reduceEq, Int.reduceLT, Int.reduceLE, Int.reduceAdd, hm], by simp only [go_sem, Nat.reduceBEq, Nat.reduceLeDiff, Nat.reduceEqDiff, Nat.reduceSub, Nat.reduceAdd, Int.reduceEq, Int.reduceLT, Int.reduceLE, Int.reduceAdd]⟩
theorem c_rBlocks (hlen : l.length ≤ LM) : ∀ n, StmtOk l en n ∧ BlockOk l en n := by
  intro n
  induction n using Nat.strongRecOn with
  | ind n ih =>
    cases n with
    | zero => exact ⟨fun s deep H h => by omega, fun s deep H h => by omega⟩
    | succ n => exact ⟨c_rStmt hlen n (ih n (by omega)).2, c_rBlock hlen n fun k hk => (ih k (by omega)).1⟩
end
end Go.Proofs.YtghhkbigmmjanaaGreatDoor.VA

/-! Pd8 -/
namespace Go.Proofs.YtghhkbigmmjanaaGreatDoor.VA
open Go Go.RowKit
attribute [local go_sem] Nat.add_eq_left Nat.left_eq_add true_and and_true ite_true if_false Int.cast_ofNat_Int eq_self Nat.add_assoc Option.some.injEq decide_true decide_false Bool.not_true Bool.not_false List.size_toArray List.length_cons List.length_nil
set_option linter.unusedSimpArgs false
set_option maxRecDepth 100000

section
variable {l : List GTok} {en : Int}
theorem app_fun (hlen : l.length ≤ LM) {acc : List GFunc} (h : acc.length ≤ l.length + 5) (o : Own) (x : GFunc) (H : Heap) (id : Nat) (ho : AppOk H o acc.length 42 3) :
    aAppend Tryz.prog 22 (.sl o (acc.map encFunc)) (.sl .ex [encFunc x]) H id = some (.sl (.own id 42 3) ((acc ++ [x]).map encFunc), ownUs o id, ownRs o) := by
  rw [append_any el_sFun zo_sFun (by decide) (by simp; unfold LM at hlen; omega) (by simp; unfold LM at hlen; omega) (by rfl) H id (by simpa using ho)]
  simp [sanLL, sanL_encFunc]
theorem progF_end {s : PS} {acc : List GFunc} {n : Nat} (h : (s.ok && decide (s.at_ < l.length)) = false) : progF l en n s acc = (s, acc) := by
  cases n with
  | zero => rfl
  | succ n => simp only [progF, h]
theorem progF_more {s : PS} {acc : List GFunc} {n : Nat} (h : (s.ok && decide (s.at_ < l.length)) = true) (hn : ms l s < n) : ∃ k, n = k + 1 ∧ progF l en n s acc = progF l en k (funcP l en s).1 (acc ++ [(funcP l en s).2]) := by
  obtain ⟨k, rfl⟩ : ∃ k, n = k + 1 := ⟨n - 1, by omega⟩
  exact ⟨k, rfl, by simp only [progF, h]⟩
theorem rem_FN (hlen : l.length ≤ LM) (s : PS) : 3 * rem l s + 3 ≤ FN := by
  have : rem l s ≤ l.length := by unfold rem; split <;> omega
  unfold LM at hlen; unfold FN; omega
set_option maxRecDepth 20000 in
theorem c_rRead (hlen : l.length ≤ LM) (o : Own) (H : Heap) : calls Tryz.prog cfg 29 [.sl o (l.map encG), .lit (.int .i64 en)] H = some (.ret (encRead (readP l en)) H) := by
  refine calls_pure (fn := Tryz.f29) rfl rfl rfl rfl rfl ?_ H
  have rs : Tryz.f29.results.toList = [.cell 4 24, .cell 5 27] := rfl
  generalize hr : readP l en = r
  unfold readP at hr
  generalize hq : progF l en FN ⟨0, 0, none⟩ [] = q at hr
  have e0 : ([.sl .sh (l.map encG), .lit (.int .i64 0), .lit (.int .i64 en), .lit (.int .i64 0), .lit (.int .i64 0), .lit (.int .i64 0)] : List AV) = cS l en ⟨0, 0, none⟩ := rfl
  have hblk : ∀ s H, calls Tryz.prog cfg 63 [.agg (cS l en s), .lit (.int .i64 0)] H = some (.ret (.tup [.agg (cS l en (blockF l en FN s 0).1), .sl .sh ((blockF l en FN s 0).2.map encStmt)]) H) :=
    fun s H => (c_rBlocks hlen FN).2 s 0 H (rem_FN hlen s) (by omega)
  simp only [go_sem, Nat.reduceBEq, Nat.reduceLeDiff, Nat.reduceEqDiff, Nat.reduceSub, Nat.reduceAdd, Int.reduceEq, Int.reduceLT, Int.reduceLE, Int.reduceAdd, rs, e0]
  refine W_loop_ind (fun x e H => ∃ (s : PS) (acc : List GFunc) (o : Own) (k : Nat), x = ms l s ∧ ms l s < k ∧ progF l en k s acc = q ∧ (s.ok = true → acc.length ≤ s.at_) ∧ acc.length ≤ l.length + 1 ∧
      gget .bad e 0 = .sl .sh (l.map encG) ∧ gget .bad e 4 = .ptr 0 0 ∧ gget .bad e 5 = .ptr 1 0 ∧ gget .bad e 6 = .ptr 5 0 ∧ gget .bad e 7 = .ptr 8 0 ∧ H.get 0 = some [.sl .nil []] ∧ H.get 1 = some [.lit (.int .i64 0), .lit (.int .i64 0)] ∧ H.get 5 = some (cS l en s) ∧
      H.get 8 = some [.sl o (acc.map encFunc)] ∧ 10 ≤ H.next ∧ AppOk H o acc.length 42 3)
    (ms l ⟨0, 0, none⟩) ⟨⟨0, 0, none⟩, [], .nil, FN, rfl, ms_FN hlen _, hq, fun _ => by simp, by simp, by simp only [go_sem, Nat.reduceBEq, Nat.reduceLeDiff, Nat.reduceEqDiff, Nat.reduceSub, Nat.reduceAdd, Int.reduceEq, Int.reduceLT, Int.reduceLE, Int.reduceAdd], by simp only [go_sem, Nat.reduceBEq, Nat.reduceLeDiff, Nat.reduceEqDiff, Nat.reduceSub, Nat.reduceAdd, Int.reduceEq, Int.reduceLT, Int.reduceLE, Int.reduceAdd], by simp only [go_sem, Nat.reduceBEq, Nat.reduceLeDiff, Nat.reduceEqDiff, Nat.reduceSub, Nat.reduceAdd, Int.reduceEq, Int.reduceLT, Int.reduceLE, Int.reduceAdd], by simp only [go_sem, Nat.reduceBEq, Nat.reduceLeDiff, Nat.reduceEqDiff, Nat.reduceSub, Nat.reduceAdd, Int.reduceEq, Int.reduceLT, Int.reduceLE, Int.reduceAdd], by simp only [go_sem, Nat.reduceBEq, Nat.reduceLeDiff, Nat.reduceEqDiff, Nat.reduceSub, Nat.reduceAdd, Int.reduceEq, Int.reduceLT, Int.reduceLE, Int.reduceAdd], by simp only [go_sem, Nat.reduceBEq, Nat.reduceLeDiff, Nat.reduceEqDiff, Nat.reduceSub, Nat.reduceAdd, Int.reduceEq, Int.reduceLT, Int.reduceLE, Int.reduceAdd], by simp only [go_sem, Nat.reduceBEq, Nat.reduceLeDiff, Nat.reduceEqDiff, Nat.reduceSub, Nat.reduceAdd, Int.reduceEq, Int.reduceLT, Int.reduceLE, Int.reduceAdd], by simp only [go_sem, Nat.reduceBEq, Nat.reduceLeDiff, Nat.reduceEqDiff, Nat.reduceSub, Nat.reduceAdd, Int.reduceEq, Int.reduceLT, Int.reduceLE, Int.reduceAdd], by simp only [go_sem, Nat.reduceBEq, Nat.reduceLeDiff, Nat.reduceEqDiff, Nat.reduceSub, Nat.reduceAdd, Int.reduceEq, Int.reduceLT, Int.reduceLE, Int.reduceAdd, List.map_nil], by simp only [go_sem, Nat.reduceBEq, Nat.reduceLeDiff, Nat.reduceEqDiff, Nat.reduceSub, Nat.reduceAdd, Int.reduceEq, Int.reduceLT, Int.reduceLE, Int.reduceAdd], by simp only [go_sem, Nat.reduceBEq, Nat.reduceLeDiff, Nat.reduceEqDiff, Nat.reduceSub, Nat.reduceAdd, Int.reduceEq, Int.reduceLT, Int.reduceLE, Int.reduceAdd]⟩ ?_
  clear hq
  rintro x ih e H ⟨s, acc, o, k, rfl, hk, hq, hb, hba, t0, e4, e5, e6, e7, g0, g1, g5, g8, hnx, ho⟩
  obtain ⟨m, hm⟩ : ∃ m, H.next = m + 10 := ⟨H.next - 10, by omega⟩
  cases hok : s.ok with
  | false =>
    rw [progF_end (by rw [hok, Bool.false_and])] at hq
    subst hq
    have hF : ∃ c a, s.f = some (c, a) := by
      cases hf : s.f with
      | none => rw [ok_none hf] at hok; cases hok
      | some q => exact ⟨q.1, q.2, rfl⟩
    obtain ⟨c, a, hF⟩ := hF
    simp only [hF] at hr
    subst hr
    simp only [go_sem, Nat.reduceBEq, Nat.reduceLeDiff, Nat.reduceEqDiff, Nat.reduceSub, Nat.reduceAdd, Int.reduceEq, Int.reduceLT, Int.reduceLE, Int.reduceAdd, t0, e4, e5, e6, e7, g0, g1, g5, g8, hm, c_rOk, hok]
    refine W_draw [(2, 3)] (by kernel_rfl) ?_
    simp only [go_sem, Nat.reduceBEq, Nat.reduceLeDiff, Nat.reduceEqDiff, Nat.reduceSub, Nat.reduceAdd, Int.reduceEq, Int.reduceLT, Int.reduceLE, Int.reduceAdd, rs, e4, e5, e6, g0, g1, g5, hm, encRead, List.map_nil, fcode, fat, hF]
  | true =>
    by_cases hlt : s.at_ < l.length
    · have hlt' : decide ((s.at_ : Int) < (l.length : Nat)) = true := by simp; omega
      obtain ⟨k, rfl, h2⟩ := progF_more (en := en) (acc := acc) (s := s) (by rw [hok, Bool.true_and]; simp [hlt]) hk
      rw [h2] at hq
      have hap := fun o x H id h => app_fun hlen (acc := acc) (by omega) o x H id h
      have eF : ([.lit (.string (ba (nameP l en (need l en s [102, 117, 110])).2)), .sl .sh ((names l en (nameP l en (need l en s [102, 117, 110])).1).2.map encStr), .sl .sh ((blockF l en FN (names l en (nameP l en (need l en s [102, 117, 110])).1).1 0).2.map encStmt)] : List AV) =
        encFunc (funcP l en s).2 := rfl
      have eS : cS l en (blockF l en FN (names l en (nameP l en (need l en s [102, 117, 110])).1).1 0).1 = cS l en (funcP l en s).1 := rfl
      have hltf := funcP_lt (l := l) (en := en) s
      have hms := ms_lt hltf hok
      simp only [go_sem, Nat.reduceBEq, Nat.reduceLeDiff, Nat.reduceEqDiff, Nat.reduceSub, Nat.reduceAdd, Int.reduceEq, Int.reduceLT, Int.reduceLE, Int.reduceAdd, t0, e4, e5, e6, e7, g0, g1, g5, g8, hm, c_rOk, hok, List.length_map, hlt', c_rNeed hlen, c_rName2 hlen, c_rNames hlen, hblk, eF, hap, ho, eS]
      exact ih _ hms _ _ ⟨_, _, _, k, rfl, by omega, hq, fun hk' => by
          obtain ⟨q1, q2, q3⟩ := hltf hk'
          have := hb hok
          simp only [List.length_append, List.length_cons, List.length_nil]; omega, by have := hb hok; simp only [List.length_append, List.length_cons, List.length_nil]; omega,
        by simp only [go_sem, Nat.reduceBEq, Nat.reduceLeDiff, Nat.reduceEqDiff, Nat.reduceSub, Nat.reduceAdd, Int.reduceEq, Int.reduceLT, Int.reduceLE, Int.reduceAdd, t0], by simp only [go_sem, Nat.reduceBEq, Nat.reduceLeDiff, Nat.reduceEqDiff, Nat.reduceSub, Nat.reduceAdd, Int.reduceEq, Int.reduceLT, Int.reduceLE, Int.reduceAdd, e4], by simp only [go_sem, Nat.reduceBEq, Nat.reduceLeDiff, Nat.reduceEqDiff, Nat.reduceSub, Nat.reduceAdd, Int.reduceEq, Int.reduceLT, Int.reduceLE, Int.reduceAdd, e5], by simp only [go_sem, Nat.reduceBEq, Nat.reduceLeDiff, Nat.reduceEqDiff, Nat.reduceSub, Nat.reduceAdd, Int.reduceEq, Int.reduceLT, Int.reduceLE, Int.reduceAdd, e6], by simp only [go_sem, Nat.reduceBEq, Nat.reduceLeDiff, Nat.reduceEqDiff, Nat.reduceSub, Nat.reduceAdd, Int.reduceEq, Int.reduceLT, Int.reduceLE, Int.reduceAdd, e7], by simp only [go_sem, Nat.reduceBEq, Nat.reduceLeDiff, Nat.reduceEqDiff, Nat.reduceSub, Nat.reduceAdd, Int.reduceEq, Int.reduceLT, Int.reduceLE, Int.reduceAdd, g0], by simp only [go_sem, Nat.reduceBEq, Nat.reduceLeDiff, Nat.reduceEqDiff, Nat.reduceSub, Nat.reduceAdd, Int.reduceEq, Int.reduceLT, Int.reduceLE, Int.reduceAdd, g1], by simp only [go_sem, Nat.reduceBEq, Nat.reduceLeDiff, Nat.reduceEqDiff, Nat.reduceSub, Nat.reduceAdd, Int.reduceEq, Int.reduceLT, Int.reduceLE, Int.reduceAdd], by simp only [go_sem, Nat.reduceBEq, Nat.reduceLeDiff, Nat.reduceEqDiff, Nat.reduceSub, Nat.reduceAdd, Int.reduceEq, Int.reduceLT, Int.reduceLE, Int.reduceAdd] <;> rfl, by simp only [go_sem, Nat.reduceBEq, Nat.reduceLeDiff, Nat.reduceEqDiff, Nat.reduceSub, Nat.reduceAdd, Int.reduceEq, Int.reduceLT, Int.reduceLE, Int.reduceAdd, hm], by simp only [go_sem, Nat.reduceBEq, Nat.reduceLeDiff, Nat.reduceEqDiff, Nat.reduceSub, Nat.reduceAdd, Int.reduceEq, Int.reduceLT, Int.reduceLE, Int.reduceAdd]⟩
    · have hlt' : decide ((s.at_ : Int) < (l.length : Nat)) = false := by simp; omega
      rw [progF_end (by simp [hlt])] at hq
      subst hq
      simp only [f_none hok] at hr
      subst hr
      simp only [go_sem, Nat.reduceBEq, Nat.reduceLeDiff, Nat.reduceEqDiff, Nat.reduceSub, Nat.reduceAdd, Int.reduceEq, Int.reduceLT, Int.reduceLE, Int.reduceAdd, rs, t0, e4, e5, e6, e7, g0, g1, g5, g8, hm, c_rOk, hok, List.length_map, hlt', encRead] <;> rfl
end
end Go.Proofs.YtghhkbigmmjanaaGreatDoor.VA

/-! Ph1 -/
namespace Go.Proofs.YtghhkbigmmjanaaGreatDoor.VA
open Go Go.RowKit
attribute [local go_sem] Nat.add_eq_left Nat.left_eq_add true_and and_true ite_true if_false Int.cast_ofNat_Int eq_self Nat.add_assoc Option.some.injEq decide_true decide_false Bool.not_true Bool.not_false List.size_toArray List.length_cons List.length_nil
set_option linter.unusedSimpArgs false
set_option maxRecDepth 100000

theorem eg_opd : Tryz.prog.eqGuardType Tryz.prog.depth 50 = false := by kernel_rfl
theorem sh_opd : Tryz.prog.stoodInHeld 50 = false := by kernel_rfl
theorem eq_opd (k k' a a' : Int) (t t' : ByteArray) : aEq Tryz.prog 8 50 (.agg [.lit (.int .i64 k), .lit (.int .i64 a), .lit (.string t)]) (.agg [.lit (.int .i64 k'), .lit (.int .i64 a'), .lit (.string t')]) =
    some (decide (k = k') && (decide (a = a') && decide (t = t'))) := by
  simp only [aEq, Tryz.underlying50, sh_opd, if_true, aEqs, go_sem]
  by_cases h1 : k = k' <;> by_cases h2 : t = t' <;> by_cases h3 : a = a' <;> simp [h1, h2, h3, aEqs, aEq, go_sem, strEq_decide]
@[go_sem] theorem bin_neopd (k k' a a' : Int) (t t' : ByteArray) : aBin Tryz.prog .neq 50 (.agg [.lit (.int .i64 k), .lit (.int .i64 a), .lit (.string t)]) (.agg [.lit (.int .i64 k'), .lit (.int .i64 a'), .lit (.string t')]) =
    some (.lit (.bool (!(decide (k = k') && (decide (a = a') && decide (t = t')))))) := by
  simp only [aBin, eg_opd, eq_opd]; rfl
theorem iad_encOpd {t : TypeId} {bs : Nat} {o : Own} {l : List Opd} {i : Nat} (h : i < l.length) : iad (some (t, 3, bs)) (.sl o (l.map encOpd)) (some i) = some (.ep (encOpd (l.getD i ⟨0, 0, []⟩))) := by
  refine iad_some ?_ rfl
  rw [List.getElem?_map, List.getElem?_eq_getElem h, List.getD_eq_getElem?_getD, List.getElem?_eq_getElem h]
  rfl
def noStmt : GStmt := .mk 0 [] [] [] [] [] [] []
theorem iad_encStmt {t : TypeId} {bs : Nat} {o : Own} {l : List GStmt} {i : Nat} (h : i < l.length) : iad (some (t, 8, bs)) (.sl o (l.map encStmt)) (some i) = some (.ep (encStmt (l.getD i noStmt))) := by
  refine iad_some ?_ (eM_len _)
  rw [List.getElem?_map, List.getElem?_eq_getElem h, List.getD_eq_getElem?_getD, List.getElem?_eq_getElem h]
  rfl

set_option maxRecDepth 20000 in
theorem c_texts (a b : List (List UInt8)) (hlen : a.length ≤ BIG) (o o' : Own) (H : Heap) :
    calls Tryz.prog cfg 30 [.sl o (a.map encStr), .sl o' (b.map encStr)] H = some (.ret (.lit (.bool (decide (a = b)))) H) := by
  unfold BIG at hlen
  refine calls_pure (fn := Tryz.f30) rfl rfl rfl rfl rfl ?_ H
  have rs : Tryz.f30.results.toList = [.tmp 4] := rfl
  by_cases hl : a.length = b.length
  · have d : decide (((a.length : Nat) : Int) = (b.length : Nat)) = true := by simp; omega
    generalize hr : decide (a = b) = r
    simp only [go_sem, Nat.reduceBEq, Nat.reduceLeDiff, Nat.reduceEqDiff, Nat.reduceSub, Nat.reduceAdd, Int.reduceEq, Int.reduceLT, Int.reduceLE, Int.reduceAdd, rs, List.length_map, d]
    refine W_loop_ind (fun k e H => ∃ i : Nat, k = a.length - i ∧ i ≤ a.length ∧ decide (a.drop i = b.drop i) = r ∧ gget .bad e 0 = .sl .sh (a.map encStr) ∧ gget .bad e 1 = .sl .sh (b.map encStr) ∧ gget .bad e 5 = .lit (.int .i64 (i : Nat)))
      a.length ⟨0, rfl, by omega, hr, by simp only [go_sem, Nat.reduceBEq, Nat.reduceLeDiff, Nat.reduceEqDiff, Nat.reduceSub, Nat.reduceAdd, Int.reduceEq, Int.reduceLT, Int.reduceLE, Int.reduceAdd], by simp only [go_sem, Nat.reduceBEq, Nat.reduceLeDiff, Nat.reduceEqDiff, Nat.reduceSub, Nat.reduceAdd, Int.reduceEq, Int.reduceLT, Int.reduceLE, Int.reduceAdd], by simp only [go_sem, Nat.reduceBEq, Nat.reduceLeDiff, Nat.reduceEqDiff, Nat.reduceSub, Nat.reduceAdd, Int.reduceEq, Int.reduceLT, Int.reduceLE, Int.reduceAdd] <;> rfl⟩ ?_
    rintro k ih e H ⟨i, rfl, hle, hR, h0, h1, h5⟩
    by_cases hlt : i < a.length
    · have hlt' : decide ((i : Int) < (a.length : Nat)) = true := by simp; omega
      have hlb : i < b.length := by omega
      rw [drop_cons' [] hlt, drop_cons' [] hlb] at hR
      have ha := iad_encStr (t := 9) (bs := 16) (o := .sh) hlt
      have hb := iad_encStr (t := 9) (bs := 16) (o := .sh) hlb
      generalize a.getD i [] = x at hR ha
      generalize b.getD i [] = y at hR hb
      have hw1 := wrap1 (show i + 1 ≤ 9223372036854775807 by omega)
      have hxy : decide (ba x = ba y) = decide (x = y) := by simp [ba_inj]
      simp only [go_sem, Nat.reduceBEq, Nat.reduceLeDiff, Nat.reduceEqDiff, Nat.reduceSub, Nat.reduceAdd, Int.reduceEq, Int.reduceLT, Int.reduceLE, Int.reduceAdd, h0, h1, h5, List.length_map, hlt', ha, hb, encStr]
      refine W_draw [(3, 7)] (by kernel_rfl) ?_
      simp only [go_sem, Nat.reduceBEq, Nat.reduceLeDiff, Nat.reduceEqDiff, Nat.reduceSub, Nat.reduceAdd, Int.reduceEq, Int.reduceLT, Int.reduceLE, Int.reduceAdd, h0, h1, h5, List.length_map, hlt', ha, hb, encStr, hxy]
      by_cases he : x = y
      · have de : decide (x = y) = true := by simp [he]
        have hR' : decide (a.drop (i + 1) = b.drop (i + 1)) = r := by rw [← hR]; simp [he]
        simp only [go_sem, Nat.reduceBEq, Nat.reduceLeDiff, Nat.reduceEqDiff, Nat.reduceSub, Nat.reduceAdd, Int.reduceEq, Int.reduceLT, Int.reduceLE, Int.reduceAdd, de, h0, h1, h5, hw1]
        exact ih (a.length - (i + 1)) (by omega) _ _ ⟨i + 1, rfl, by omega, hR', by simp only [go_sem, Nat.reduceBEq, Nat.reduceLeDiff, Nat.reduceEqDiff, Nat.reduceSub, Nat.reduceAdd, Int.reduceEq, Int.reduceLT, Int.reduceLE, Int.reduceAdd, h0], by simp only [go_sem, Nat.reduceBEq, Nat.reduceLeDiff, Nat.reduceEqDiff, Nat.reduceSub, Nat.reduceAdd, Int.reduceEq, Int.reduceLT, Int.reduceLE, Int.reduceAdd, h1], by simp only [go_sem, Nat.reduceBEq, Nat.reduceLeDiff, Nat.reduceEqDiff, Nat.reduceSub, Nat.reduceAdd, Int.reduceEq, Int.reduceLT, Int.reduceLE, Int.reduceAdd]⟩
      · have de : decide (x = y) = false := by simp [he]
        have hR' : r = false := by rw [← hR]; simp [he]
        simp only [go_sem, Nat.reduceBEq, Nat.reduceLeDiff, Nat.reduceEqDiff, Nat.reduceSub, Nat.reduceAdd, Int.reduceEq, Int.reduceLT, Int.reduceLE, Int.reduceAdd, de, hR']
    · have hlt' : decide ((i : Int) < (a.length : Nat)) = false := by simp; omega
      rw [List.drop_of_length_le (by omega), List.drop_of_length_le (by omega)] at hR
      have hR' : r = true := by rw [← hR]; simp
      simp only [go_sem, Nat.reduceBEq, Nat.reduceLeDiff, Nat.reduceEqDiff, Nat.reduceSub, Nat.reduceAdd, Int.reduceEq, Int.reduceLT, Int.reduceLE, Int.reduceAdd, h0, h1, h5, List.length_map, hlt', hR']
  · have d : decide (((a.length : Nat) : Int) = (b.length : Nat)) = false := by simp; omega
    have hne : decide (a = b) = false := by simp; intro h; exact hl (by rw [h])
    simp only [go_sem, Nat.reduceBEq, Nat.reduceLeDiff, Nat.reduceEqDiff, Nat.reduceSub, Nat.reduceAdd, Int.reduceEq, Int.reduceLT, Int.reduceLE, Int.reduceAdd, rs, List.length_map, d, hne]
/-- What is said of statements' lists that are no larger than so much. -/
def StmtsOk (n : Nat) : Prop := ∀ (a b : List GStmt) (o o' : Own) (H : Heap), szSs a ≤ n → fitSs a = true → a.length ≤ BIG →
  calls Tryz.prog cfg 31 [.sl o (a.map encStmt), .sl o' (b.map encStmt)] H = some (.ret (.lit (.bool (eqSs a b))) H)
theorem fitSs_drop {a : List GStmt} (h : fitSs a = true) {i : Nat} (hi : i < a.length) : fitS (a.getD i noStmt) = true := by
  rw [fitSs_all, List.all_eq_true] at h
  apply h
  rw [List.getD_eq_getElem?_getD, List.getElem?_eq_getElem hi]
  exact List.getElem_mem hi
set_option maxRecDepth 20000 in
theorem c_stmts_step (n : Nat) (ih : StmtsOk n) : StmtsOk (n + 1) := by
  intro a b o o' H hsz hfit hlen
  unfold BIG at hlen
  refine calls_pure (fn := Tryz.f31) rfl rfl rfl rfl rfl ?_ H
  have rs : Tryz.f31.results.toList = [.tmp 4] := rfl
  by_cases hl : a.length = b.length
  · have d : decide (((a.length : Nat) : Int) = (b.length : Nat)) = true := by simp; omega
    generalize hr : eqSs a b = r
    simp only [go_sem, Nat.reduceBEq, Nat.reduceLeDiff, Nat.reduceEqDiff, Nat.reduceSub, Nat.reduceAdd, Int.reduceEq, Int.reduceLT, Int.reduceLE, Int.reduceAdd, rs, List.length_map, d]
    refine W_loop_ind (fun k e H => ∃ i : Nat, k = a.length - i ∧ i ≤ a.length ∧ eqSs (a.drop i) (b.drop i) = r ∧ gget .bad e 0 = .sl .sh (a.map encStmt) ∧ gget .bad e 1 = .sl .sh (b.map encStmt) ∧ gget .bad e 5 = .lit (.int .i64 (i : Nat)))
      a.length ⟨0, rfl, by omega, hr, by simp only [go_sem, Nat.reduceBEq, Nat.reduceLeDiff, Nat.reduceEqDiff, Nat.reduceSub, Nat.reduceAdd, Int.reduceEq, Int.reduceLT, Int.reduceLE, Int.reduceAdd], by simp only [go_sem, Nat.reduceBEq, Nat.reduceLeDiff, Nat.reduceEqDiff, Nat.reduceSub, Nat.reduceAdd, Int.reduceEq, Int.reduceLT, Int.reduceLE, Int.reduceAdd], by simp only [go_sem, Nat.reduceBEq, Nat.reduceLeDiff, Nat.reduceEqDiff, Nat.reduceSub, Nat.reduceAdd, Int.reduceEq, Int.reduceLT, Int.reduceLE, Int.reduceAdd] <;> rfl⟩ ?_
    rintro k ihk e H ⟨i, rfl, hle, hR, h0, h1, h5⟩
    obtain ⟨m, hm⟩ : ∃ m, H.next = m := ⟨_, rfl⟩
    by_cases hlt : i < a.length
    · have hlt' : decide ((i : Int) < (a.length : Nat)) = true := by simp; omega
      have hlb : i < b.length := by omega
      rw [drop_cons' noStmt hlt, drop_cons' noStmt hlb] at hR
      have ha := iad_encStmt (t := 40) (bs := 152) (o := .sh) hlt
      have hb := iad_encStmt (t := 40) (bs := 152) (o := .sh) hlb
      have hfx := fitSs_drop hfit hlt
      have hsx : szS (a.getD i noStmt) ≤ n := by
        have h1 : a[i]? = some (a.getD i noStmt) := by rw [List.getD_eq_getElem?_getD, List.getElem?_eq_getElem hlt]; rfl
        have := szSs_mem h1; omega
      generalize a.getD i noStmt = x at hR ha hfx hsx
      generalize b.getD i noStmt = y at hR hb
      have hw1 := wrap1 (show i + 1 ≤ 9223372036854775807 by omega)
      obtain ⟨op, x, z, p, ar, ps, th, el⟩ := x
      obtain ⟨op', x', z', p', ar', ps', th', el'⟩ := y
      simp only [szS] at hsx
      simp only [fitS, Bool.and_eq_true, decide_eq_true_eq] at hfx
      obtain ⟨f1, f2, f3, f4, f5, f6⟩ := hfx
      have iT := fun H => ih th th' .sh .sh H (by omega) f5 f3
      have iE := fun H => ih el el' .sh .sh H (by omega) f6 f4
      have iP := fun H => c_texts ps ps' f2 .sh .sh H
      unfold BIG at f1
      simp only [encStmt_mk] at ha hb
      have q2 : decide (ba x = ba x') = decide (x = x') := by simp [ba_inj]
      have q3 : decide (ba z = ba z') = decide (z = z') := by simp [ba_inj]
      have q4 : decide (ba p = ba p') = decide (p = p') := by simp [ba_inj]
      have q5 : decide ((ar.length : Int) = (ar'.length : Nat)) = decide (ar.length = ar'.length) := by rw [Bool.eq_iff_iff]; simp; omega
      simp only [eqSs, eqS] at hR
      simp only [go_sem, Nat.reduceBEq, Nat.reduceLeDiff, Nat.reduceEqDiff, Nat.reduceSub, Nat.reduceAdd, Int.reduceEq, Int.reduceLT, Int.reduceLE, Int.reduceAdd, h0, h1, h5, hm, List.length_map, hlt', ha, hb]
      refine W_draw [(3,7),(3,8),(7,8),(3,9),(7,9),(8,9),(7,10)] (by kernel_rfl) ?_
      simp only [go_sem, Nat.reduceBEq, Nat.reduceLeDiff, Nat.reduceEqDiff, Nat.reduceSub, Nat.reduceAdd, Int.reduceEq, Int.reduceLT, Int.reduceLE, Int.reduceAdd, h0, h1, h5, hm, List.length_map, ha, hb, q2, q3, q4, q5]
      cases k0 : decide (op = op') with
      | false =>
        have hR' : r = false := by rw [← hR, k0]; simp only [Bool.false_and, Bool.and_false]
        simp only [go_sem, Nat.reduceBEq, Nat.reduceLeDiff, Nat.reduceEqDiff, Nat.reduceSub, Nat.reduceAdd, Int.reduceEq, Int.reduceLT, Int.reduceLE, Int.reduceAdd, k0, q2, q3, q4, q5, List.length_map, iT, iE, iP, hR']
      | true =>
      rw [k0] at hR
      simp only [go_sem, Nat.reduceBEq, Nat.reduceLeDiff, Nat.reduceEqDiff, Nat.reduceSub, Nat.reduceAdd, Int.reduceEq, Int.reduceLT, Int.reduceLE, Int.reduceAdd, k0, q2, q3, q4, q5, List.length_map, iT, iE, iP]
      cases k1 : decide (x = x') with
      | false =>
        have hR' : r = false := by rw [← hR, k1]; simp only [Bool.false_and, Bool.and_false]
        simp only [go_sem, Nat.reduceBEq, Nat.reduceLeDiff, Nat.reduceEqDiff, Nat.reduceSub, Nat.reduceAdd, Int.reduceEq, Int.reduceLT, Int.reduceLE, Int.reduceAdd, k1, q2, q3, q4, q5, List.length_map, iT, iE, iP, hR']
      | true =>
      rw [k1] at hR
      simp only [go_sem, Nat.reduceBEq, Nat.reduceLeDiff, Nat.reduceEqDiff, Nat.reduceSub, Nat.reduceAdd, Int.reduceEq, Int.reduceLT, Int.reduceLE, Int.reduceAdd, k1, q2, q3, q4, q5, List.length_map, iT, iE, iP]
      cases k2 : decide (z = z') with
      | false =>
        have hR' : r = false := by rw [← hR, k2]; simp only [Bool.false_and, Bool.and_false]
        simp only [go_sem, Nat.reduceBEq, Nat.reduceLeDiff, Nat.reduceEqDiff, Nat.reduceSub, Nat.reduceAdd, Int.reduceEq, Int.reduceLT, Int.reduceLE, Int.reduceAdd, k2, q2, q3, q4, q5, List.length_map, iT, iE, iP, hR']
      | true =>
      rw [k2] at hR
      simp only [go_sem, Nat.reduceBEq, Nat.reduceLeDiff, Nat.reduceEqDiff, Nat.reduceSub, Nat.reduceAdd, Int.reduceEq, Int.reduceLT, Int.reduceLE, Int.reduceAdd, k2, q2, q3, q4, q5, List.length_map, iT, iE, iP]
      cases k3 : decide (p = p') with
      | false =>
        have hR' : r = false := by rw [← hR, k3]; simp only [Bool.false_and, Bool.and_false]
        simp only [go_sem, Nat.reduceBEq, Nat.reduceLeDiff, Nat.reduceEqDiff, Nat.reduceSub, Nat.reduceAdd, Int.reduceEq, Int.reduceLT, Int.reduceLE, Int.reduceAdd, k3, q2, q3, q4, q5, List.length_map, iT, iE, iP, hR']
      | true =>
      rw [k3] at hR
      simp only [go_sem, Nat.reduceBEq, Nat.reduceLeDiff, Nat.reduceEqDiff, Nat.reduceSub, Nat.reduceAdd, Int.reduceEq, Int.reduceLT, Int.reduceLE, Int.reduceAdd, k3, q2, q3, q4, q5, List.length_map, iT, iE, iP]
      cases k4 : decide (ar.length = ar'.length) with
      | false =>
        have hne : decide (ar = ar') = false := by simp at k4 ⊢; intro h; exact k4 (by rw [h])
        have hR' : r = false := by rw [← hR, hne]; simp only [Bool.false_and, Bool.and_false]
        simp only [go_sem, Nat.reduceBEq, Nat.reduceLeDiff, Nat.reduceEqDiff, Nat.reduceSub, Nat.reduceAdd, Int.reduceEq, Int.reduceLT, Int.reduceLE, Int.reduceAdd, k4, q2, q3, q4, q5, List.length_map, hR']
      | true =>
      simp only [go_sem, Nat.reduceBEq, Nat.reduceLeDiff, Nat.reduceEqDiff, Nat.reduceSub, Nat.reduceAdd, Int.reduceEq, Int.reduceLT, Int.reduceLE, Int.reduceAdd, k4, q2, q3, q4, q5, List.length_map, iT, iE, iP]
      cases k5 : decide (ps = ps') with
      | false =>
        have hR' : r = false := by rw [← hR, k5]; simp only [Bool.false_and, Bool.and_false]
        simp only [go_sem, Nat.reduceBEq, Nat.reduceLeDiff, Nat.reduceEqDiff, Nat.reduceSub, Nat.reduceAdd, Int.reduceEq, Int.reduceLT, Int.reduceLE, Int.reduceAdd, k5, q2, q3, q4, q5, List.length_map, iT, iE, iP, hR']
      | true =>
      rw [k5] at hR
      simp only [go_sem, Nat.reduceBEq, Nat.reduceLeDiff, Nat.reduceEqDiff, Nat.reduceSub, Nat.reduceAdd, Int.reduceEq, Int.reduceLT, Int.reduceLE, Int.reduceAdd, k5, q2, q3, q4, q5, List.length_map, iT, iE, iP]
      cases k6 : eqSs th th' with
      | false =>
        have hR' : r = false := by rw [← hR, k6]; simp only [Bool.false_and, Bool.and_false]
        simp only [go_sem, Nat.reduceBEq, Nat.reduceLeDiff, Nat.reduceEqDiff, Nat.reduceSub, Nat.reduceAdd, Int.reduceEq, Int.reduceLT, Int.reduceLE, Int.reduceAdd, k6, q2, q3, q4, q5, List.length_map, iT, iE, iP, hR']
      | true =>
      rw [k6] at hR
      simp only [go_sem, Nat.reduceBEq, Nat.reduceLeDiff, Nat.reduceEqDiff, Nat.reduceSub, Nat.reduceAdd, Int.reduceEq, Int.reduceLT, Int.reduceLE, Int.reduceAdd, k6, q2, q3, q4, q5, List.length_map, iT, iE, iP]
      cases k7 : eqSs el el' with
      | false =>
        have hR' : r = false := by rw [← hR, k7]; simp only [Bool.false_and, Bool.and_false]
        simp only [go_sem, Nat.reduceBEq, Nat.reduceLeDiff, Nat.reduceEqDiff, Nat.reduceSub, Nat.reduceAdd, Int.reduceEq, Int.reduceLT, Int.reduceLE, Int.reduceAdd, k7, q2, q3, q4, q5, List.length_map, iT, iE, iP, hR']
      | true =>
      rw [k7] at hR
      simp only [go_sem, Nat.reduceBEq, Nat.reduceLeDiff, Nat.reduceEqDiff, Nat.reduceSub, Nat.reduceAdd, Int.reduceEq, Int.reduceLT, Int.reduceLE, Int.reduceAdd, k7, q2, q3, q4, q5, List.length_map, iT, iE, iP]
      simp only [Bool.true_and, Bool.and_true] at hR
      have hla : ar.length = ar'.length := by simpa using k4
      generalize hS : eqSs (a.drop (i + 1)) (b.drop (i + 1)) = rS at hR
      refine W_loop_ind (fun k e H => ∃ j : Nat, k = ar.length - j ∧ j ≤ ar.length ∧ (decide (ar.drop j = ar'.drop j) && rS) = r ∧ gget .bad e 0 = .sl .sh (a.map encStmt) ∧ gget .bad e 1 = .sl .sh (b.map encStmt) ∧ gget .bad e 5 = .lit (.int .i64 (i : Nat)) ∧
          gget .bad e 6 = .ptr (m + 12) 0 ∧ gget .bad e 7 = .ptr (m + 13) 0 ∧ gget .bad e 8 = .lit (.int .i64 (j : Nat)) ∧
          H.get (m + 12) = some [.lit (.int .i64 op), .lit (.string (ba x)), .lit (.string (ba z)), .lit (.string (ba p)), .sl .sh (ar.map encOpd), .sl .sh (ps.map encStr), .sl .sh (th.map encStmt), .sl .sh (el.map encStmt)] ∧
          H.get (m + 13) = some [.lit (.int .i64 op'), .lit (.string (ba x')), .lit (.string (ba z')), .lit (.string (ba p')), .sl .sh (ar'.map encOpd), .sl .sh (ps'.map encStr), .sl .sh (th'.map encStmt), .sl .sh (el'.map encStmt)])
        ar.length ⟨0, rfl, by omega, hR, by simp only [go_sem, Nat.reduceBEq, Nat.reduceLeDiff, Nat.reduceEqDiff, Nat.reduceSub, Nat.reduceAdd, Int.reduceEq, Int.reduceLT, Int.reduceLE, Int.reduceAdd, h0], by simp only [go_sem, Nat.reduceBEq, Nat.reduceLeDiff, Nat.reduceEqDiff, Nat.reduceSub, Nat.reduceAdd, Int.reduceEq, Int.reduceLT, Int.reduceLE, Int.reduceAdd, h1], by simp only [go_sem, Nat.reduceBEq, Nat.reduceLeDiff, Nat.reduceEqDiff, Nat.reduceSub, Nat.reduceAdd, Int.reduceEq, Int.reduceLT, Int.reduceLE, Int.reduceAdd, h5], by simp only [go_sem, Nat.reduceBEq, Nat.reduceLeDiff, Nat.reduceEqDiff, Nat.reduceSub, Nat.reduceAdd, Int.reduceEq, Int.reduceLT, Int.reduceLE, Int.reduceAdd], by simp only [go_sem, Nat.reduceBEq, Nat.reduceLeDiff, Nat.reduceEqDiff, Nat.reduceSub, Nat.reduceAdd, Int.reduceEq, Int.reduceLT, Int.reduceLE, Int.reduceAdd], by simp only [go_sem, Nat.reduceBEq, Nat.reduceLeDiff, Nat.reduceEqDiff, Nat.reduceSub, Nat.reduceAdd, Int.reduceEq, Int.reduceLT, Int.reduceLE, Int.reduceAdd] <;> rfl, by simp only [go_sem, Nat.reduceBEq, Nat.reduceLeDiff, Nat.reduceEqDiff, Nat.reduceSub, Nat.reduceAdd, Int.reduceEq, Int.reduceLT, Int.reduceLE, Int.reduceAdd] <;> rfl, by simp only [go_sem, Nat.reduceBEq, Nat.reduceLeDiff, Nat.reduceEqDiff, Nat.reduceSub, Nat.reduceAdd, Int.reduceEq, Int.reduceLT, Int.reduceLE, Int.reduceAdd] <;> rfl⟩ ?_
      clear hR
      rintro k ihj e H ⟨j, rfl, hjl, hR, h0, h1, h5, h6, h7, h8, g6, g7⟩
      obtain ⟨m', hm'⟩ : ∃ m, H.next = m := ⟨_, rfl⟩
      by_cases hjt : j < ar.length
      · have hjt' : decide ((j : Int) < (ar.length : Nat)) = true := by simp; omega
        have hjb : j < ar'.length := by omega
        rw [drop_cons' ⟨0, 0, []⟩ hjt, drop_cons' ⟨0, 0, []⟩ hjb] at hR
        have ja := iad_encOpd (t := 50) (bs := 32) (o := .sh) hjt
        have jb := iad_encOpd (t := 50) (bs := 32) (o := .sh) hjb
        generalize ar.getD j ⟨0, 0, []⟩ = u at hR ja
        generalize ar'.getD j ⟨0, 0, []⟩ = v at hR jb
        have hw2 := wrap1 (show j + 1 ≤ 9223372036854775807 by omega)
        have huv : (decide (u.kind = v.kind) && (decide (u.n = v.n) && decide (ba u.name = ba v.name))) = decide (u = v) := by
          cases u; cases v; rw [Bool.eq_iff_iff]; simp [ba_inj]
        simp only [go_sem, Nat.reduceBEq, Nat.reduceLeDiff, Nat.reduceEqDiff, Nat.reduceSub, Nat.reduceAdd, Int.reduceEq, Int.reduceLT, Int.reduceLE, Int.reduceAdd, h0, h1, h5, h6, h7, h8, g6, g7, hm', List.length_map, hjt', ja, jb, encOpd]
        refine W_draw [(1,6),(4,6),(1,9),(4,9)] (by kernel_rfl) ?_
        simp only [go_sem, Nat.reduceBEq, Nat.reduceLeDiff, Nat.reduceEqDiff, Nat.reduceSub, Nat.reduceAdd, Int.reduceEq, Int.reduceLT, Int.reduceLE, Int.reduceAdd, h0, h1, h5, h6, h7, h8, g6, g7, hm', List.length_map, hjt', ja, jb, encOpd, huv]
        by_cases he : u = v
        · have de : decide (u = v) = true := by simp [he]
          have hR' : (decide (ar.drop (j + 1) = ar'.drop (j + 1)) && rS) = r := by rw [← hR]; simp [he]
          simp only [go_sem, Nat.reduceBEq, Nat.reduceLeDiff, Nat.reduceEqDiff, Nat.reduceSub, Nat.reduceAdd, Int.reduceEq, Int.reduceLT, Int.reduceLE, Int.reduceAdd, de, h0, h1, h5, h6, h7, h8, g6, g7, hw2]
          exact ihj (ar.length - (j + 1)) (by omega) _ _ ⟨j + 1, rfl, by omega, hR', by simp only [go_sem, Nat.reduceBEq, Nat.reduceLeDiff, Nat.reduceEqDiff, Nat.reduceSub, Nat.reduceAdd, Int.reduceEq, Int.reduceLT, Int.reduceLE, Int.reduceAdd, h0], by simp only [go_sem, Nat.reduceBEq, Nat.reduceLeDiff, Nat.reduceEqDiff, Nat.reduceSub, Nat.reduceAdd, Int.reduceEq, Int.reduceLT, Int.reduceLE, Int.reduceAdd, h1], by simp only [go_sem, Nat.reduceBEq, Nat.reduceLeDiff, Nat.reduceEqDiff, Nat.reduceSub, Nat.reduceAdd, Int.reduceEq, Int.reduceLT, Int.reduceLE, Int.reduceAdd, h5], by simp only [go_sem, Nat.reduceBEq, Nat.reduceLeDiff, Nat.reduceEqDiff, Nat.reduceSub, Nat.reduceAdd, Int.reduceEq, Int.reduceLT, Int.reduceLE, Int.reduceAdd, h6], by simp only [go_sem, Nat.reduceBEq, Nat.reduceLeDiff, Nat.reduceEqDiff, Nat.reduceSub, Nat.reduceAdd, Int.reduceEq, Int.reduceLT, Int.reduceLE, Int.reduceAdd, h7], by simp only [go_sem, Nat.reduceBEq, Nat.reduceLeDiff, Nat.reduceEqDiff, Nat.reduceSub, Nat.reduceAdd, Int.reduceEq, Int.reduceLT, Int.reduceLE, Int.reduceAdd], g6, g7⟩
        · have de : decide (u = v) = false := by simp [he]
          have hR' : r = false := by rw [← hR]; simp [he]
          simp only [go_sem, Nat.reduceBEq, Nat.reduceLeDiff, Nat.reduceEqDiff, Nat.reduceSub, Nat.reduceAdd, Int.reduceEq, Int.reduceLT, Int.reduceLE, Int.reduceAdd, de, hR']
      · have hjt' : decide ((j : Int) < (ar.length : Nat)) = false := by simp; omega
        rw [List.drop_of_length_le (by omega), List.drop_of_length_le (by omega)] at hR
        have hR' : rS = r := by rw [← hR]; simp
        simp only [go_sem, Nat.reduceBEq, Nat.reduceLeDiff, Nat.reduceEqDiff, Nat.reduceSub, Nat.reduceAdd, Int.reduceEq, Int.reduceLT, Int.reduceLE, Int.reduceAdd, h0, h1, h5, h6, h7, h8, g6, g7, hm', List.length_map, hjt', hw1]
        exact ihk (a.length - (i + 1)) (by omega) _ _ ⟨i + 1, rfl, by omega, hS.trans hR', by simp only [go_sem, Nat.reduceBEq, Nat.reduceLeDiff, Nat.reduceEqDiff, Nat.reduceSub, Nat.reduceAdd, Int.reduceEq, Int.reduceLT, Int.reduceLE, Int.reduceAdd, h0], by simp only [go_sem, Nat.reduceBEq, Nat.reduceLeDiff, Nat.reduceEqDiff, Nat.reduceSub, Nat.reduceAdd, Int.reduceEq, Int.reduceLT, Int.reduceLE, Int.reduceAdd, h1], by simp only [go_sem, Nat.reduceBEq, Nat.reduceLeDiff, Nat.reduceEqDiff, Nat.reduceSub, Nat.reduceAdd, Int.reduceEq, Int.reduceLT, Int.reduceLE, Int.reduceAdd]⟩
    · have hlt' : decide ((i : Int) < (a.length : Nat)) = false := by simp; omega
      rw [List.drop_of_length_le (by omega), List.drop_of_length_le (by omega)] at hR
      have hR' : r = true := by rw [← hR]; rfl
      simp only [go_sem, Nat.reduceBEq, Nat.reduceLeDiff, Nat.reduceEqDiff, Nat.reduceSub, Nat.reduceAdd, Int.reduceEq, Int.reduceLT, Int.reduceLE, Int.reduceAdd, h0, h1, h5, hm, List.length_map, hlt', hR']
  · have d : decide (((a.length : Nat) : Int) = (b.length : Nat)) = false := by simp; omega
    have hne : eqSs a b = false := by
      cases he : eqSs a b with
      | false => rfl
      | true => exact absurd (eqSs_len he) hl
    simp only [go_sem, Nat.reduceBEq, Nat.reduceLeDiff, Nat.reduceEqDiff, Nat.reduceSub, Nat.reduceAdd, Int.reduceEq, Int.reduceLT, Int.reduceLE, Int.reduceAdd, rs, List.length_map, d, hne]
theorem c_stmts (a b : List GStmt) (hf : fitSs a = true) (hl : a.length ≤ BIG) (o o' : Own) (H : Heap) :
    calls Tryz.prog cfg 31 [.sl o (a.map encStmt), .sl o' (b.map encStmt)] H = some (.ret (.lit (.bool (eqSs a b))) H) := by
  have h : ∀ n, StmtsOk n := by
    intro n
    induction n with
    | zero => intro a b o o' H hz; exact absurd hz (by cases a <;> simp [szSs])
    | succ n ih => exact c_stmts_step n ih
  exact h _ a b o o' H (Nat.le_refl _) hf hl
theorem iad_encFunc {t : TypeId} {bs : Nat} {o : Own} {l : List GFunc} {i : Nat} (h : i < l.length) : iad (some (t, 3, bs)) (.sl o (l.map encFunc)) (some i) = some (.ep (encFunc (l.getD i ⟨[], [], []⟩))) := by
  refine iad_some ?_ rfl
  rw [List.getElem?_map, List.getElem?_eq_getElem h, List.getD_eq_getElem?_getD, List.getElem?_eq_getElem h]
  rfl
theorem fitP_get {a : List GFunc} (h : fitP a = true) {i : Nat} (hi : i < a.length) : fitF (a.getD i ⟨[], [], []⟩) = true := by
  simp only [fitP, Bool.and_eq_true, List.all_eq_true] at h
  apply h.2
  rw [List.getD_eq_getElem?_getD, List.getElem?_eq_getElem hi]
  exact List.getElem_mem hi
set_option maxRecDepth 20000 in
theorem c_rSame (a b : List GFunc) (hfit : fitP a = true) (o o' : Own) (H : Heap) :
    calls Tryz.prog cfg 14 [.agg [.sl o (a.map encFunc)], .agg [.sl o' (b.map encFunc)]] H = some (.ret (.lit (.bool (eqFs a b))) H) := by
  have hlen : a.length ≤ BIG := by simp only [fitP, Bool.and_eq_true, decide_eq_true_eq] at hfit; exact hfit.1
  unfold BIG at hlen
  refine calls_pure (fn := Tryz.f14) rfl rfl rfl rfl rfl ?_ H
  have rs : Tryz.f14.results.toList = [.tmp 4] := rfl
  by_cases hl : a.length = b.length
  · have d : decide (((a.length : Nat) : Int) = (b.length : Nat)) = true := by simp; omega
    generalize hr : eqFs a b = r
    simp only [go_sem, Nat.reduceBEq, Nat.reduceLeDiff, Nat.reduceEqDiff, Nat.reduceSub, Nat.reduceAdd, Int.reduceEq, Int.reduceLT, Int.reduceLE, Int.reduceAdd, rs, List.length_map, d]
    refine W_loop_ind (fun k e H => ∃ i : Nat, k = a.length - i ∧ i ≤ a.length ∧ eqFs (a.drop i) (b.drop i) = r ∧ gget .bad e 2 = .ptr 0 0 ∧ gget .bad e 3 = .ptr 1 0 ∧ gget .bad e 5 = .lit (.int .i64 (i : Nat)) ∧
        H.get 0 = some [.sl .sh (a.map encFunc)] ∧ H.get 1 = some [.sl .sh (b.map encFunc)] ∧ 2 ≤ H.next)
      a.length ⟨0, rfl, by omega, hr, by simp only [go_sem, Nat.reduceBEq, Nat.reduceLeDiff, Nat.reduceEqDiff, Nat.reduceSub, Nat.reduceAdd, Int.reduceEq, Int.reduceLT, Int.reduceLE, Int.reduceAdd], by simp only [go_sem, Nat.reduceBEq, Nat.reduceLeDiff, Nat.reduceEqDiff, Nat.reduceSub, Nat.reduceAdd, Int.reduceEq, Int.reduceLT, Int.reduceLE, Int.reduceAdd], by simp only [go_sem, Nat.reduceBEq, Nat.reduceLeDiff, Nat.reduceEqDiff, Nat.reduceSub, Nat.reduceAdd, Int.reduceEq, Int.reduceLT, Int.reduceLE, Int.reduceAdd] <;> rfl, by simp only [go_sem, Nat.reduceBEq, Nat.reduceLeDiff, Nat.reduceEqDiff, Nat.reduceSub, Nat.reduceAdd, Int.reduceEq, Int.reduceLT, Int.reduceLE, Int.reduceAdd] <;> rfl, by simp only [go_sem, Nat.reduceBEq, Nat.reduceLeDiff, Nat.reduceEqDiff, Nat.reduceSub, Nat.reduceAdd, Int.reduceEq, Int.reduceLT, Int.reduceLE, Int.reduceAdd] <;> rfl, by simp only [go_sem, Nat.reduceBEq, Nat.reduceLeDiff, Nat.reduceEqDiff, Nat.reduceSub, Nat.reduceAdd, Int.reduceEq, Int.reduceLT, Int.reduceLE, Int.reduceAdd] <;> omega⟩ ?_
    rintro k ihk e H ⟨i, rfl, hle, hR, h2, h3, h5, g0, g1, hnx⟩
    obtain ⟨m, hm⟩ : ∃ m, H.next = m + 2 := ⟨H.next - 2, by omega⟩
    by_cases hlt : i < a.length
    · have hlt' : decide ((i : Int) < (a.length : Nat)) = true := by simp; omega
      have hlb : i < b.length := by omega
      rw [drop_cons' ⟨[], [], []⟩ hlt, drop_cons' ⟨[], [], []⟩ hlb] at hR
      have ha := iad_encFunc (t := 42) (bs := 64) (o := .sh) hlt
      have hb := iad_encFunc (t := 42) (bs := 64) (o := .sh) hlb
      have hfx := fitP_get hfit hlt
      generalize a.getD i ⟨[], [], []⟩ = x at hR ha hfx
      generalize b.getD i ⟨[], [], []⟩ = y at hR hb
      have hw1 := wrap1 (show i + 1 ≤ 9223372036854775807 by omega)
      obtain ⟨nm, ps, bd⟩ := x
      obtain ⟨nm', ps', bd'⟩ := y
      simp only [fitF, Bool.and_eq_true, decide_eq_true_eq] at hfx
      obtain ⟨f1, f2, f3⟩ := hfx
      have iP := fun H => c_texts ps ps' f1 .sh .sh H
      have iS := fun H => c_stmts bd bd' f3 f2 .sh .sh H
      have q1 : decide (ba nm = ba nm') = decide (nm = nm') := by simp [ba_inj]
      simp only [eqFs, eqF] at hR
      simp only [encFunc] at ha hb
      simp only [go_sem, Nat.reduceBEq, Nat.reduceLeDiff, Nat.reduceEqDiff, Nat.reduceSub, Nat.reduceAdd, Int.reduceEq, Int.reduceLT, Int.reduceLE, Int.reduceAdd, h2, h3, h5, g0, g1, hm, List.length_map, hlt', ha, hb]
      refine W_draw [(1,6),(4,6),(1,9),(4,9),(1,10),(4,10),(6,10),(9,10),(1,11),(4,11),(6,11),(9,11),(10,11),(6,12),(9,12)] (by kernel_rfl) ?_
      simp only [go_sem, Nat.reduceBEq, Nat.reduceLeDiff, Nat.reduceEqDiff, Nat.reduceSub, Nat.reduceAdd, Int.reduceEq, Int.reduceLT, Int.reduceLE, Int.reduceAdd, h2, h3, h5, g0, g1, hm, List.length_map, hlt', ha, hb, q1]
      cases k0 : decide (nm = nm') with
      | false =>
        have hR' : r = false := by rw [← hR, k0]; simp only [Bool.false_and, Bool.and_false]
        simp only [go_sem, Nat.reduceBEq, Nat.reduceLeDiff, Nat.reduceEqDiff, Nat.reduceSub, Nat.reduceAdd, Int.reduceEq, Int.reduceLT, Int.reduceLE, Int.reduceAdd, k0, q1, hR']
      | true =>
      rw [k0] at hR
      simp only [go_sem, Nat.reduceBEq, Nat.reduceLeDiff, Nat.reduceEqDiff, Nat.reduceSub, Nat.reduceAdd, Int.reduceEq, Int.reduceLT, Int.reduceLE, Int.reduceAdd, k0, q1, iP]
      cases k1 : decide (ps = ps') with
      | false =>
        have hR' : r = false := by rw [← hR, k1]; simp only [Bool.false_and, Bool.and_false]
        simp only [go_sem, Nat.reduceBEq, Nat.reduceLeDiff, Nat.reduceEqDiff, Nat.reduceSub, Nat.reduceAdd, Int.reduceEq, Int.reduceLT, Int.reduceLE, Int.reduceAdd, k1, iP, hR']
      | true =>
      rw [k1] at hR
      simp only [go_sem, Nat.reduceBEq, Nat.reduceLeDiff, Nat.reduceEqDiff, Nat.reduceSub, Nat.reduceAdd, Int.reduceEq, Int.reduceLT, Int.reduceLE, Int.reduceAdd, k1, iP, iS]
      cases k2 : eqSs bd bd' with
      | false =>
        have hR' : r = false := by rw [← hR, k2]; simp only [Bool.false_and, Bool.and_false]
        simp only [go_sem, Nat.reduceBEq, Nat.reduceLeDiff, Nat.reduceEqDiff, Nat.reduceSub, Nat.reduceAdd, Int.reduceEq, Int.reduceLT, Int.reduceLE, Int.reduceAdd, k2, iS, hR']
      | true =>
      rw [k2] at hR
      simp only [go_sem, Nat.reduceBEq, Nat.reduceLeDiff, Nat.reduceEqDiff, Nat.reduceSub, Nat.reduceAdd, Int.reduceEq, Int.reduceLT, Int.reduceLE, Int.reduceAdd, k2, iS, h2, h3, h5, hw1]
      simp only [Bool.true_and, Bool.and_true] at hR
      exact ihk (a.length - (i + 1)) (by omega) _ _ ⟨i + 1, rfl, by omega, hR, by simp only [go_sem, Nat.reduceBEq, Nat.reduceLeDiff, Nat.reduceEqDiff, Nat.reduceSub, Nat.reduceAdd, Int.reduceEq, Int.reduceLT, Int.reduceLE, Int.reduceAdd, h2], by simp only [go_sem, Nat.reduceBEq, Nat.reduceLeDiff, Nat.reduceEqDiff, Nat.reduceSub, Nat.reduceAdd, Int.reduceEq, Int.reduceLT, Int.reduceLE, Int.reduceAdd, h3], by simp only [go_sem, Nat.reduceBEq, Nat.reduceLeDiff, Nat.reduceEqDiff, Nat.reduceSub, Nat.reduceAdd, Int.reduceEq, Int.reduceLT, Int.reduceLE, Int.reduceAdd], by simp only [go_sem, Nat.reduceBEq, Nat.reduceLeDiff, Nat.reduceEqDiff, Nat.reduceSub, Nat.reduceAdd, Int.reduceEq, Int.reduceLT, Int.reduceLE, Int.reduceAdd, g0], by simp only [go_sem, Nat.reduceBEq, Nat.reduceLeDiff, Nat.reduceEqDiff, Nat.reduceSub, Nat.reduceAdd, Int.reduceEq, Int.reduceLT, Int.reduceLE, Int.reduceAdd, g1], by simp only [go_sem, Nat.reduceBEq, Nat.reduceLeDiff, Nat.reduceEqDiff, Nat.reduceSub, Nat.reduceAdd, Int.reduceEq, Int.reduceLT, Int.reduceLE, Int.reduceAdd, hm] <;> omega⟩
    · have hlt' : decide ((i : Int) < (a.length : Nat)) = false := by simp; omega
      rw [List.drop_of_length_le (by omega), List.drop_of_length_le (by omega)] at hR
      have hR' : r = true := by rw [← hR]; rfl
      simp only [go_sem, Nat.reduceBEq, Nat.reduceLeDiff, Nat.reduceEqDiff, Nat.reduceSub, Nat.reduceAdd, Int.reduceEq, Int.reduceLT, Int.reduceLE, Int.reduceAdd, h2, h3, h5, g0, g1, hm, List.length_map, hlt', hR']
  · have d : decide (((a.length : Nat) : Int) = (b.length : Nat)) = false := by simp; omega
    have hne : eqFs a b = false := by
      cases he : eqFs a b with
      | false => rfl
      | true => exact absurd (eqFs_len he) hl
    simp only [go_sem, Nat.reduceBEq, Nat.reduceLeDiff, Nat.reduceEqDiff, Nat.reduceSub, Nat.reduceAdd, Int.reduceEq, Int.reduceLT, Int.reduceLE, Int.reduceAdd, rs, List.length_map, d, hne]
end Go.Proofs.YtghhkbigmmjanaaGreatDoor.VA

/-! Ph2 -/
namespace Go.Proofs.YtghhkbigmmjanaaGreatDoor.VA
open Go Go.RowKit
attribute [local go_sem] Nat.add_eq_left Nat.left_eq_add true_and and_true ite_true if_false Int.cast_ofNat_Int eq_self Nat.add_assoc Option.some.injEq decide_true decide_false Bool.not_true Bool.not_false List.size_toArray List.length_cons List.length_nil
set_option linter.unusedSimpArgs false
set_option maxRecDepth 100000

set_option maxRecDepth 20000 in
theorem c_eqStrs (a b : List (List UInt8)) (hlen : a.length ≤ BIG) (o o' : Own) (H : Heap) :
    calls Tryz.prog cfg 34 [.sl o (a.map encStr), .sl o' (b.map encStr)] H = some (.ret (.lit (.bool (decide (a = b)))) H) := by
  unfold BIG at hlen
  refine calls_pure (fn := Tryz.f34) rfl rfl rfl rfl rfl ?_ H
  have rs : Tryz.f34.results.toList = [.tmp 4] := rfl
  by_cases hl : a.length = b.length
  · have d : decide (((a.length : Nat) : Int) = (b.length : Nat)) = true := by simp; omega
    generalize hr : decide (a = b) = r
    simp only [go_sem, Nat.reduceBEq, Nat.reduceLeDiff, Nat.reduceEqDiff, Nat.reduceSub, Nat.reduceAdd, Int.reduceEq, Int.reduceLT, Int.reduceLE, Int.reduceAdd, rs, List.length_map, d]
    refine W_loop_ind (fun k e H => ∃ i : Nat, k = a.length - i ∧ i ≤ a.length ∧ decide (a.drop i = b.drop i) = r ∧ gget .bad e 0 = .sl .sh (a.map encStr) ∧ gget .bad e 1 = .sl .sh (b.map encStr) ∧ gget .bad e 12 = .lit (.int .i64 (a.length : Nat)) ∧ gget .bad e 13 = .lit (.int .i64 (i : Nat)))
      a.length ⟨0, rfl, by omega, hr, by simp only [go_sem, Nat.reduceBEq, Nat.reduceLeDiff, Nat.reduceEqDiff, Nat.reduceSub, Nat.reduceAdd, Int.reduceEq, Int.reduceLT, Int.reduceLE, Int.reduceAdd], by simp only [go_sem, Nat.reduceBEq, Nat.reduceLeDiff, Nat.reduceEqDiff, Nat.reduceSub, Nat.reduceAdd, Int.reduceEq, Int.reduceLT, Int.reduceLE, Int.reduceAdd], by simp only [go_sem, Nat.reduceBEq, Nat.reduceLeDiff, Nat.reduceEqDiff, Nat.reduceSub, Nat.reduceAdd, Int.reduceEq, Int.reduceLT, Int.reduceLE, Int.reduceAdd], by simp only [go_sem, Nat.reduceBEq, Nat.reduceLeDiff, Nat.reduceEqDiff, Nat.reduceSub, Nat.reduceAdd, Int.reduceEq, Int.reduceLT, Int.reduceLE, Int.reduceAdd] <;> rfl⟩ ?_
    rintro k ih e H ⟨i, rfl, hle, hR, h0, h1, h12, h13⟩
    by_cases hlt : i < a.length
    · have hlt' : decide ((i : Int) < (a.length : Nat)) = true := by simp; omega
      have hlb : i < b.length := by omega
      rw [drop_cons' [] hlt, drop_cons' [] hlb] at hR
      have ha := iad_encStr (t := 9) (bs := 16) (o := .sh) hlt
      have hb := iad_encStr (t := 9) (bs := 16) (o := .sh) hlb
      generalize a.getD i [] = x at hR ha
      generalize b.getD i [] = y at hR hb
      have hw1 := wrap1 (show i + 1 ≤ 9223372036854775807 by omega)
      have hxy : decide (ba x = ba y) = decide (x = y) := by simp [ba_inj]
      simp only [go_sem, Nat.reduceBEq, Nat.reduceLeDiff, Nat.reduceEqDiff, Nat.reduceSub, Nat.reduceAdd, Int.reduceEq, Int.reduceLT, Int.reduceLE, Int.reduceAdd, h0, h1, h12, h13, List.length_map, hlt', ha, hb, encStr]
      refine W_draw [(3, 7)] (by kernel_rfl) ?_
      simp only [go_sem, Nat.reduceBEq, Nat.reduceLeDiff, Nat.reduceEqDiff, Nat.reduceSub, Nat.reduceAdd, Int.reduceEq, Int.reduceLT, Int.reduceLE, Int.reduceAdd, h0, h1, h12, h13, List.length_map, hlt', ha, hb, encStr, hxy]
      by_cases he : x = y
      · have de : decide (x = y) = true := by simp [he]
        have hR' : decide (a.drop (i + 1) = b.drop (i + 1)) = r := by rw [← hR]; simp [he]
        simp only [go_sem, Nat.reduceBEq, Nat.reduceLeDiff, Nat.reduceEqDiff, Nat.reduceSub, Nat.reduceAdd, Int.reduceEq, Int.reduceLT, Int.reduceLE, Int.reduceAdd, de, h0, h1, h12, h13, hw1]
        exact ih (a.length - (i + 1)) (by omega) _ _ ⟨i + 1, rfl, by omega, hR', by simp only [go_sem, Nat.reduceBEq, Nat.reduceLeDiff, Nat.reduceEqDiff, Nat.reduceSub, Nat.reduceAdd, Int.reduceEq, Int.reduceLT, Int.reduceLE, Int.reduceAdd, h0], by simp only [go_sem, Nat.reduceBEq, Nat.reduceLeDiff, Nat.reduceEqDiff, Nat.reduceSub, Nat.reduceAdd, Int.reduceEq, Int.reduceLT, Int.reduceLE, Int.reduceAdd, h1], by simp only [go_sem, Nat.reduceBEq, Nat.reduceLeDiff, Nat.reduceEqDiff, Nat.reduceSub, Nat.reduceAdd, Int.reduceEq, Int.reduceLT, Int.reduceLE, Int.reduceAdd, h12], by simp only [go_sem, Nat.reduceBEq, Nat.reduceLeDiff, Nat.reduceEqDiff, Nat.reduceSub, Nat.reduceAdd, Int.reduceEq, Int.reduceLT, Int.reduceLE, Int.reduceAdd]⟩
      · have de : decide (x = y) = false := by simp [he]
        have hR' : r = false := by rw [← hR]; simp [he]
        simp only [go_sem, Nat.reduceBEq, Nat.reduceLeDiff, Nat.reduceEqDiff, Nat.reduceSub, Nat.reduceAdd, Int.reduceEq, Int.reduceLT, Int.reduceLE, Int.reduceAdd, de, hR']
    · have hlt' : decide ((i : Int) < (a.length : Nat)) = false := by simp; omega
      rw [List.drop_of_length_le (by omega), List.drop_of_length_le (by omega)] at hR
      have hR' : r = true := by rw [← hR]; simp
      simp only [go_sem, Nat.reduceBEq, Nat.reduceLeDiff, Nat.reduceEqDiff, Nat.reduceSub, Nat.reduceAdd, Int.reduceEq, Int.reduceLT, Int.reduceLE, Int.reduceAdd, h0, h1, h12, h13, List.length_map, hlt', hR']
  · have d : decide (((a.length : Nat) : Int) = (b.length : Nat)) = false := by simp; omega
    have hne : decide (a = b) = false := by simp; intro h; exact hl (by rw [h])
    simp only [go_sem, Nat.reduceBEq, Nat.reduceLeDiff, Nat.reduceEqDiff, Nat.reduceSub, Nat.reduceAdd, Int.reduceEq, Int.reduceLT, Int.reduceLE, Int.reduceAdd, rs, List.length_map, d, hne]
set_option maxRecDepth 20000 in
theorem c_eqOpds (a b : List Opd) (hlen : a.length ≤ BIG) (o o' : Own) (H : Heap) :
    calls Tryz.prog cfg 64 [.sl o (a.map encOpd), .sl o' (b.map encOpd)] H = some (.ret (.lit (.bool (decide (a = b)))) H) := by
  unfold BIG at hlen
  refine calls_pure (fn := Tryz.f64) rfl rfl rfl rfl rfl ?_ H
  have rs : Tryz.f64.results.toList = [.tmp 4] := rfl
  by_cases hl : a.length = b.length
  · have d : decide (((a.length : Nat) : Int) = (b.length : Nat)) = true := by simp; omega
    generalize hr : decide (a = b) = r
    simp only [go_sem, Nat.reduceBEq, Nat.reduceLeDiff, Nat.reduceEqDiff, Nat.reduceSub, Nat.reduceAdd, Int.reduceEq, Int.reduceLT, Int.reduceLE, Int.reduceAdd, rs, List.length_map, d]
    refine W_loop_ind (fun k e H => ∃ i : Nat, k = a.length - i ∧ i ≤ a.length ∧ decide (a.drop i = b.drop i) = r ∧ gget .bad e 0 = .sl .sh (a.map encOpd) ∧ gget .bad e 1 = .sl .sh (b.map encOpd) ∧ gget .bad e 12 = .lit (.int .i64 (a.length : Nat)) ∧ gget .bad e 13 = .lit (.int .i64 (i : Nat)))
      a.length ⟨0, rfl, by omega, hr, by simp only [go_sem, Nat.reduceBEq, Nat.reduceLeDiff, Nat.reduceEqDiff, Nat.reduceSub, Nat.reduceAdd, Int.reduceEq, Int.reduceLT, Int.reduceLE, Int.reduceAdd], by simp only [go_sem, Nat.reduceBEq, Nat.reduceLeDiff, Nat.reduceEqDiff, Nat.reduceSub, Nat.reduceAdd, Int.reduceEq, Int.reduceLT, Int.reduceLE, Int.reduceAdd], by simp only [go_sem, Nat.reduceBEq, Nat.reduceLeDiff, Nat.reduceEqDiff, Nat.reduceSub, Nat.reduceAdd, Int.reduceEq, Int.reduceLT, Int.reduceLE, Int.reduceAdd], by simp only [go_sem, Nat.reduceBEq, Nat.reduceLeDiff, Nat.reduceEqDiff, Nat.reduceSub, Nat.reduceAdd, Int.reduceEq, Int.reduceLT, Int.reduceLE, Int.reduceAdd] <;> rfl⟩ ?_
    rintro k ih e H ⟨i, rfl, hle, hR, h0, h1, h12, h13⟩
    by_cases hlt : i < a.length
    · have hlt' : decide ((i : Int) < (a.length : Nat)) = true := by simp; omega
      have hlb : i < b.length := by omega
      rw [drop_cons' ⟨0, 0, []⟩ hlt, drop_cons' ⟨0, 0, []⟩ hlb] at hR
      have ha := iad_encOpd (t := 50) (bs := 32) (o := .sh) hlt
      have hb := iad_encOpd (t := 50) (bs := 32) (o := .sh) hlb
      generalize a.getD i ⟨0, 0, []⟩ = x at hR ha
      generalize b.getD i ⟨0, 0, []⟩ = y at hR hb
      have hw1 := wrap1 (show i + 1 ≤ 9223372036854775807 by omega)
      have hxy : (decide (x.kind = y.kind) && (decide (x.n = y.n) && decide (ba x.name = ba y.name))) = decide (x = y) := by cases x; cases y; rw [Bool.eq_iff_iff]; simp [ba_inj]
      simp only [go_sem, Nat.reduceBEq, Nat.reduceLeDiff, Nat.reduceEqDiff, Nat.reduceSub, Nat.reduceAdd, Int.reduceEq, Int.reduceLT, Int.reduceLE, Int.reduceAdd, h0, h1, h12, h13, List.length_map, hlt', ha, hb, encOpd]
      refine W_draw [(3, 7)] (by kernel_rfl) ?_
      simp only [go_sem, Nat.reduceBEq, Nat.reduceLeDiff, Nat.reduceEqDiff, Nat.reduceSub, Nat.reduceAdd, Int.reduceEq, Int.reduceLT, Int.reduceLE, Int.reduceAdd, h0, h1, h12, h13, List.length_map, hlt', ha, hb, encOpd, hxy]
      by_cases he : x = y
      · have de : decide (x = y) = true := by simp [he]
        have hR' : decide (a.drop (i + 1) = b.drop (i + 1)) = r := by rw [← hR]; simp [he]
        simp only [go_sem, Nat.reduceBEq, Nat.reduceLeDiff, Nat.reduceEqDiff, Nat.reduceSub, Nat.reduceAdd, Int.reduceEq, Int.reduceLT, Int.reduceLE, Int.reduceAdd, de, h0, h1, h12, h13, hw1]
        exact ih (a.length - (i + 1)) (by omega) _ _ ⟨i + 1, rfl, by omega, hR', by simp only [go_sem, Nat.reduceBEq, Nat.reduceLeDiff, Nat.reduceEqDiff, Nat.reduceSub, Nat.reduceAdd, Int.reduceEq, Int.reduceLT, Int.reduceLE, Int.reduceAdd, h0], by simp only [go_sem, Nat.reduceBEq, Nat.reduceLeDiff, Nat.reduceEqDiff, Nat.reduceSub, Nat.reduceAdd, Int.reduceEq, Int.reduceLT, Int.reduceLE, Int.reduceAdd, h1], by simp only [go_sem, Nat.reduceBEq, Nat.reduceLeDiff, Nat.reduceEqDiff, Nat.reduceSub, Nat.reduceAdd, Int.reduceEq, Int.reduceLT, Int.reduceLE, Int.reduceAdd, h12], by simp only [go_sem, Nat.reduceBEq, Nat.reduceLeDiff, Nat.reduceEqDiff, Nat.reduceSub, Nat.reduceAdd, Int.reduceEq, Int.reduceLT, Int.reduceLE, Int.reduceAdd]⟩
      · have de : decide (x = y) = false := by simp [he]
        have hR' : r = false := by rw [← hR]; simp [he]
        simp only [go_sem, Nat.reduceBEq, Nat.reduceLeDiff, Nat.reduceEqDiff, Nat.reduceSub, Nat.reduceAdd, Int.reduceEq, Int.reduceLT, Int.reduceLE, Int.reduceAdd, de, hR']
    · have hlt' : decide ((i : Int) < (a.length : Nat)) = false := by simp; omega
      rw [List.drop_of_length_le (by omega), List.drop_of_length_le (by omega)] at hR
      have hR' : r = true := by rw [← hR]; simp
      simp only [go_sem, Nat.reduceBEq, Nat.reduceLeDiff, Nat.reduceEqDiff, Nat.reduceSub, Nat.reduceAdd, Int.reduceEq, Int.reduceLT, Int.reduceLE, Int.reduceAdd, h0, h1, h12, h13, List.length_map, hlt', hR']
  · have d : decide (((a.length : Nat) : Int) = (b.length : Nat)) = false := by simp; omega
    have hne : decide (a = b) = false := by simp; intro h; exact hl (by rw [h])
    simp only [go_sem, Nat.reduceBEq, Nat.reduceLeDiff, Nat.reduceEqDiff, Nat.reduceSub, Nat.reduceAdd, Int.reduceEq, Int.reduceLT, Int.reduceLE, Int.reduceAdd, rs, List.length_map, d, hne]
set_option maxRecDepth 20000 in
theorem c_eqStmts (a b : List GStmt) (hlen : a.length ≤ BIG) (hC : ∀ i, i < a.length → ∀ (y : GStmt) (H : Heap), calls Tryz.prog cfg 36 [.agg (encStmt (a.getD i noStmt)), .agg (encStmt y)] H = some (.ret (.lit (.bool (eqS (a.getD i noStmt) y))) H)) (o o' : Own) (H : Heap) :
    calls Tryz.prog cfg 35 [.sl o (a.map encStmt), .sl o' (b.map encStmt), .fn 36 []] H = some (.ret (.lit (.bool (eqSs a b))) H) := by
  unfold BIG at hlen
  refine calls_pure (fn := Tryz.f35) rfl rfl rfl rfl rfl ?_ H
  have rs : Tryz.f35.results.toList = [.tmp 6] := rfl
  by_cases hl : a.length = b.length
  · have d : decide (((a.length : Nat) : Int) = (b.length : Nat)) = true := by simp; omega
    generalize hr : eqSs a b = r
    simp only [go_sem, Nat.reduceBEq, Nat.reduceLeDiff, Nat.reduceEqDiff, Nat.reduceSub, Nat.reduceAdd, Int.reduceEq, Int.reduceLT, Int.reduceLE, Int.reduceAdd, rs, List.length_map, d]
    refine W_loop_ind (fun k e H => ∃ i : Nat, k = a.length - i ∧ i ≤ a.length ∧ eqSs (a.drop i) (b.drop i) = r ∧ gget .bad e 1 = .sl .sh (b.map encStmt) ∧ gget .bad e 2 = .fn 36 [] ∧ gget .bad e 15 = .sl .sh (a.map encStmt) ∧ gget .bad e 16 = .lit (.int .i64 (a.length : Nat)) ∧ gget .bad e 17 = .lit (.int .i64 (i : Nat)))
      a.length ⟨0, rfl, by omega, hr, by simp only [go_sem, Nat.reduceBEq, Nat.reduceLeDiff, Nat.reduceEqDiff, Nat.reduceSub, Nat.reduceAdd, Int.reduceEq, Int.reduceLT, Int.reduceLE, Int.reduceAdd], by simp only [go_sem, Nat.reduceBEq, Nat.reduceLeDiff, Nat.reduceEqDiff, Nat.reduceSub, Nat.reduceAdd, Int.reduceEq, Int.reduceLT, Int.reduceLE, Int.reduceAdd], by simp only [go_sem, Nat.reduceBEq, Nat.reduceLeDiff, Nat.reduceEqDiff, Nat.reduceSub, Nat.reduceAdd, Int.reduceEq, Int.reduceLT, Int.reduceLE, Int.reduceAdd], by simp only [go_sem, Nat.reduceBEq, Nat.reduceLeDiff, Nat.reduceEqDiff, Nat.reduceSub, Nat.reduceAdd, Int.reduceEq, Int.reduceLT, Int.reduceLE, Int.reduceAdd], by simp only [go_sem, Nat.reduceBEq, Nat.reduceLeDiff, Nat.reduceEqDiff, Nat.reduceSub, Nat.reduceAdd, Int.reduceEq, Int.reduceLT, Int.reduceLE, Int.reduceAdd] <;> rfl⟩ ?_
    rintro k ih e H ⟨i, rfl, hle, hR, h1, h2, h15, h16, h17⟩
    obtain ⟨m, hm⟩ : ∃ m, H.next = m := ⟨_, rfl⟩
    by_cases hlt : i < a.length
    · have hlt' : decide ((i : Int) < (a.length : Nat)) = true := by simp; omega
      have hlb : i < b.length := by omega
      have hq := hC i hlt
      rw [drop_cons' noStmt hlt, drop_cons' noStmt hlb] at hR
      have ha := iad_encStmt (t := 40) (bs := 152) (o := .sh) hlt
      have hb := iad_encStmt (t := 40) (bs := 152) (o := .sh) hlb
      generalize a.getD i noStmt = x at hR ha hq
      generalize b.getD i noStmt = y at hR hb
      have hw1 := wrap1 (show i + 1 ≤ 9223372036854775807 by omega)
      have hc := fun H => hq y H
      simp only [eqSs] at hR
      generalize eqS x y = q at hR hc
      obtain ⟨op, x1, z, p, ar, ps, th, el⟩ := x
      obtain ⟨op', x1', z', p', ar', ps', th', el'⟩ := y
      simp only [encStmt_mk] at ha hb hc
      simp only [go_sem, Nat.reduceBEq, Nat.reduceLeDiff, Nat.reduceEqDiff, Nat.reduceSub, Nat.reduceAdd, Int.reduceEq, Int.reduceLT, Int.reduceLE, Int.reduceAdd, h1, h2, h15, h16, h17, hm, List.length_map, hlt', ha, hb, hc]
      cases q with
      | false =>
        have hR' : r = false := by rw [← hR]; rfl
        simp only [go_sem, Nat.reduceBEq, Nat.reduceLeDiff, Nat.reduceEqDiff, Nat.reduceSub, Nat.reduceAdd, Int.reduceEq, Int.reduceLT, Int.reduceLE, Int.reduceAdd, hR']
      | true =>
        rw [Bool.true_and] at hR
        simp only [go_sem, Nat.reduceBEq, Nat.reduceLeDiff, Nat.reduceEqDiff, Nat.reduceSub, Nat.reduceAdd, Int.reduceEq, Int.reduceLT, Int.reduceLE, Int.reduceAdd, h1, h2, h15, h16, h17, hw1]
        exact ih (a.length - (i + 1)) (by omega) _ _ ⟨i + 1, rfl, by omega, hR, by simp only [go_sem, Nat.reduceBEq, Nat.reduceLeDiff, Nat.reduceEqDiff, Nat.reduceSub, Nat.reduceAdd, Int.reduceEq, Int.reduceLT, Int.reduceLE, Int.reduceAdd, h1], by simp only [go_sem, Nat.reduceBEq, Nat.reduceLeDiff, Nat.reduceEqDiff, Nat.reduceSub, Nat.reduceAdd, Int.reduceEq, Int.reduceLT, Int.reduceLE, Int.reduceAdd, h2], by simp only [go_sem, Nat.reduceBEq, Nat.reduceLeDiff, Nat.reduceEqDiff, Nat.reduceSub, Nat.reduceAdd, Int.reduceEq, Int.reduceLT, Int.reduceLE, Int.reduceAdd, h15], by simp only [go_sem, Nat.reduceBEq, Nat.reduceLeDiff, Nat.reduceEqDiff, Nat.reduceSub, Nat.reduceAdd, Int.reduceEq, Int.reduceLT, Int.reduceLE, Int.reduceAdd, h16], by simp only [go_sem, Nat.reduceBEq, Nat.reduceLeDiff, Nat.reduceEqDiff, Nat.reduceSub, Nat.reduceAdd, Int.reduceEq, Int.reduceLT, Int.reduceLE, Int.reduceAdd]⟩
    · have hlt' : decide ((i : Int) < (a.length : Nat)) = false := by simp; omega
      rw [List.drop_of_length_le (by omega), List.drop_of_length_le (by omega)] at hR
      have hR' : r = true := by rw [← hR]; rfl
      simp only [go_sem, Nat.reduceBEq, Nat.reduceLeDiff, Nat.reduceEqDiff, Nat.reduceSub, Nat.reduceAdd, Int.reduceEq, Int.reduceLT, Int.reduceLE, Int.reduceAdd, h1, h2, h15, h16, h17, hm, List.length_map, hlt', hR']
  · have d : decide (((a.length : Nat) : Int) = (b.length : Nat)) = false := by simp; omega
    have hne : eqSs a b = false := by
      cases he : eqSs a b with
      | false => rfl
      | true => exact absurd (eqSs_len he) hl
    simp only [go_sem, Nat.reduceBEq, Nat.reduceLeDiff, Nat.reduceEqDiff, Nat.reduceSub, Nat.reduceAdd, Int.reduceEq, Int.reduceLT, Int.reduceLE, Int.reduceAdd, rs, List.length_map, d, hne]
/-- What is said of statements' lists that are no larger than so much. -/
def EqOk (n : Nat) : Prop := ∀ (a b : List GStmt) (o o' : Own) (H : Heap), szSs a ≤ n → fitSs a = true → a.length ≤ BIG →
  calls Tryz.prog cfg 35 [.sl o (a.map encStmt), .sl o' (b.map encStmt), .fn 36 []] H = some (.ret (.lit (.bool (eqSs a b))) H)
set_option maxRecDepth 20000 in
theorem c_sameStmt (n : Nat) (ih : EqOk n) (s t : GStmt) (hsz : szS s ≤ n + 1) (hfx : fitS s = true) (H : Heap) :
    calls Tryz.prog cfg 36 [.agg (encStmt s), .agg (encStmt t)] H = some (.ret (.lit (.bool (eqS s t))) H) := by
  obtain ⟨op, x, z, p, ar, ps, th, el⟩ := s
  obtain ⟨op', x', z', p', ar', ps', th', el'⟩ := t
  simp only [szS] at hsz
  simp only [fitS, Bool.and_eq_true, decide_eq_true_eq] at hfx
  obtain ⟨f1, f2, f3, f4, f5, f6⟩ := hfx
  have iT := fun H => ih th th' .sh .sh H (by omega) f5 f3
  have iE := fun H => ih el el' .sh .sh H (by omega) f6 f4
  have iP := fun H => c_eqStrs ps ps' f2 .sh .sh H
  have iA := fun H => c_eqOpds ar ar' f1 .sh .sh H
  have q2 : decide (ba x = ba x') = decide (x = x') := by simp [ba_inj]
  have q3 : decide (ba z = ba z') = decide (z = z') := by simp [ba_inj]
  have q4 : decide (ba p = ba p') = decide (p = p') := by simp [ba_inj]
  generalize hR : eqS (.mk op x z p ar ps th el) (.mk op' x' z' p' ar' ps' th' el') = r
  simp only [eqS] at hR
  simp only [encStmt_mk]
  refine calls_pure (fn := Tryz.f36) rfl rfl rfl rfl rfl ?_ H
  have rs : Tryz.f36.results.toList = [.tmp 4] := rfl
  simp only [go_sem, Nat.reduceBEq, Nat.reduceLeDiff, Nat.reduceEqDiff, Nat.reduceSub, Nat.reduceAdd, Int.reduceEq, Int.reduceLT, Int.reduceLE, Int.reduceAdd, q2, q3, q4]
  cases k0 : decide (op = op') with
  | false =>
    have hR' : r = false := by rw [← hR, k0]; simp only [Bool.false_and, Bool.and_false]
    simp only [go_sem, Nat.reduceBEq, Nat.reduceLeDiff, Nat.reduceEqDiff, Nat.reduceSub, Nat.reduceAdd, Int.reduceEq, Int.reduceLT, Int.reduceLE, Int.reduceAdd, rs, k0, q2, q3, q4, iA, iP, iT, iE, hR']
  | true =>
  rw [k0] at hR
  simp only [go_sem, Nat.reduceBEq, Nat.reduceLeDiff, Nat.reduceEqDiff, Nat.reduceSub, Nat.reduceAdd, Int.reduceEq, Int.reduceLT, Int.reduceLE, Int.reduceAdd, k0, q2, q3, q4, iA, iP, iT, iE]
  cases k1 : decide (x = x') with
  | false =>
    have hR' : r = false := by rw [← hR, k1]; simp only [Bool.false_and, Bool.and_false]
    simp only [go_sem, Nat.reduceBEq, Nat.reduceLeDiff, Nat.reduceEqDiff, Nat.reduceSub, Nat.reduceAdd, Int.reduceEq, Int.reduceLT, Int.reduceLE, Int.reduceAdd, rs, k1, q2, q3, q4, iA, iP, iT, iE, hR']
  | true =>
  rw [k1] at hR
  simp only [go_sem, Nat.reduceBEq, Nat.reduceLeDiff, Nat.reduceEqDiff, Nat.reduceSub, Nat.reduceAdd, Int.reduceEq, Int.reduceLT, Int.reduceLE, Int.reduceAdd, k1, q2, q3, q4, iA, iP, iT, iE]
  cases k2 : decide (z = z') with
  | false =>
    have hR' : r = false := by rw [← hR, k2]; simp only [Bool.false_and, Bool.and_false]
    simp only [go_sem, Nat.reduceBEq, Nat.reduceLeDiff, Nat.reduceEqDiff, Nat.reduceSub, Nat.reduceAdd, Int.reduceEq, Int.reduceLT, Int.reduceLE, Int.reduceAdd, rs, k2, q2, q3, q4, iA, iP, iT, iE, hR']
  | true =>
  rw [k2] at hR
  simp only [go_sem, Nat.reduceBEq, Nat.reduceLeDiff, Nat.reduceEqDiff, Nat.reduceSub, Nat.reduceAdd, Int.reduceEq, Int.reduceLT, Int.reduceLE, Int.reduceAdd, k2, q2, q3, q4, iA, iP, iT, iE]
  cases k3 : decide (p = p') with
  | false =>
    have hR' : r = false := by rw [← hR, k3]; simp only [Bool.false_and, Bool.and_false]
    simp only [go_sem, Nat.reduceBEq, Nat.reduceLeDiff, Nat.reduceEqDiff, Nat.reduceSub, Nat.reduceAdd, Int.reduceEq, Int.reduceLT, Int.reduceLE, Int.reduceAdd, rs, k3, q2, q3, q4, iA, iP, iT, iE, hR']
  | true =>
  rw [k3] at hR
  simp only [go_sem, Nat.reduceBEq, Nat.reduceLeDiff, Nat.reduceEqDiff, Nat.reduceSub, Nat.reduceAdd, Int.reduceEq, Int.reduceLT, Int.reduceLE, Int.reduceAdd, k3, q2, q3, q4, iA, iP, iT, iE]
  cases k4 : decide (ar = ar') with
  | false =>
    have hR' : r = false := by rw [← hR, k4]; simp only [Bool.false_and, Bool.and_false]
    simp only [go_sem, Nat.reduceBEq, Nat.reduceLeDiff, Nat.reduceEqDiff, Nat.reduceSub, Nat.reduceAdd, Int.reduceEq, Int.reduceLT, Int.reduceLE, Int.reduceAdd, rs, k4, q2, q3, q4, iA, iP, iT, iE, hR']
  | true =>
  rw [k4] at hR
  simp only [go_sem, Nat.reduceBEq, Nat.reduceLeDiff, Nat.reduceEqDiff, Nat.reduceSub, Nat.reduceAdd, Int.reduceEq, Int.reduceLT, Int.reduceLE, Int.reduceAdd, k4, q2, q3, q4, iA, iP, iT, iE]
  cases k5 : decide (ps = ps') with
  | false =>
    have hR' : r = false := by rw [← hR, k5]; simp only [Bool.false_and, Bool.and_false]
    simp only [go_sem, Nat.reduceBEq, Nat.reduceLeDiff, Nat.reduceEqDiff, Nat.reduceSub, Nat.reduceAdd, Int.reduceEq, Int.reduceLT, Int.reduceLE, Int.reduceAdd, rs, k5, q2, q3, q4, iA, iP, iT, iE, hR']
  | true =>
  rw [k5] at hR
  simp only [go_sem, Nat.reduceBEq, Nat.reduceLeDiff, Nat.reduceEqDiff, Nat.reduceSub, Nat.reduceAdd, Int.reduceEq, Int.reduceLT, Int.reduceLE, Int.reduceAdd, k5, q2, q3, q4, iA, iP, iT, iE]
  cases k6 : eqSs th th' with
  | false =>
    have hR' : r = false := by rw [← hR, k6]; simp only [Bool.false_and, Bool.and_false]
    simp only [go_sem, Nat.reduceBEq, Nat.reduceLeDiff, Nat.reduceEqDiff, Nat.reduceSub, Nat.reduceAdd, Int.reduceEq, Int.reduceLT, Int.reduceLE, Int.reduceAdd, rs, k6, q2, q3, q4, iA, iP, iT, iE, hR']
  | true =>
  rw [k6] at hR
  simp only [go_sem, Nat.reduceBEq, Nat.reduceLeDiff, Nat.reduceEqDiff, Nat.reduceSub, Nat.reduceAdd, Int.reduceEq, Int.reduceLT, Int.reduceLE, Int.reduceAdd, k6, q2, q3, q4, iA, iP, iT, iE]
  simp only [Bool.and_self, Bool.true_and] at hR
  simp only [go_sem, Nat.reduceBEq, Nat.reduceLeDiff, Nat.reduceEqDiff, Nat.reduceSub, Nat.reduceAdd, Int.reduceEq, Int.reduceLT, Int.reduceLE, Int.reduceAdd, rs, iE, hR]
theorem eqOk : ∀ n, EqOk n := by
  intro n
  induction n with
  | zero => intro a b o o' H hz; exact absurd hz (by cases a <;> simp [szSs])
  | succ n ih =>
    intro a b o o' H hz hf hl
    refine c_eqStmts a b hl (fun i hi y H => ?_) o o' H
    have h1 : a[i]? = some (a.getD i noStmt) := by rw [List.getD_eq_getElem?_getD, List.getElem?_eq_getElem hi]; rfl
    have := szSs_mem h1
    exact c_sameStmt n ih _ _ (by omega) (fitSs_drop hf hi) H
set_option maxRecDepth 20000 in
theorem c_sameFn (f g : GFunc) (hfx : fitF f = true) (H : Heap) :
    calls Tryz.prog cfg 33 [.agg (encFunc f), .agg (encFunc g)] H = some (.ret (.lit (.bool (eqF f g))) H) := by
  obtain ⟨nm, ps, bd⟩ := f
  obtain ⟨nm', ps', bd'⟩ := g
  simp only [fitF, Bool.and_eq_true, decide_eq_true_eq] at hfx
  obtain ⟨f1, f2, f3⟩ := hfx
  have iP := fun H => c_eqStrs ps ps' f1 .sh .sh H
  have iS := fun H => eqOk _ bd bd' .sh .sh H (Nat.le_refl _) f3 f2
  have q1 : decide (ba nm = ba nm') = decide (nm = nm') := by simp [ba_inj]
  generalize hR : eqF ⟨nm, ps, bd⟩ ⟨nm', ps', bd'⟩ = r
  simp only [eqF] at hR
  simp only [encFunc]
  refine calls_pure (fn := Tryz.f33) rfl rfl rfl rfl rfl ?_ H
  have rs : Tryz.f33.results.toList = [.tmp 4] := rfl
  simp only [go_sem, Nat.reduceBEq, Nat.reduceLeDiff, Nat.reduceEqDiff, Nat.reduceSub, Nat.reduceAdd, Int.reduceEq, Int.reduceLT, Int.reduceLE, Int.reduceAdd, q1]
  cases k0 : decide (nm = nm') with
  | false =>
    have hR' : r = false := by rw [← hR, k0]; simp only [Bool.false_and, Bool.and_false]
    simp only [go_sem, Nat.reduceBEq, Nat.reduceLeDiff, Nat.reduceEqDiff, Nat.reduceSub, Nat.reduceAdd, Int.reduceEq, Int.reduceLT, Int.reduceLE, Int.reduceAdd, rs, k0, q1, hR']
  | true =>
  rw [k0] at hR
  simp only [go_sem, Nat.reduceBEq, Nat.reduceLeDiff, Nat.reduceEqDiff, Nat.reduceSub, Nat.reduceAdd, Int.reduceEq, Int.reduceLT, Int.reduceLE, Int.reduceAdd, k0, q1, iP]
  cases k1 : decide (ps = ps') with
  | false =>
    have hR' : r = false := by rw [← hR, k1]; simp only [Bool.false_and, Bool.and_false]
    simp only [go_sem, Nat.reduceBEq, Nat.reduceLeDiff, Nat.reduceEqDiff, Nat.reduceSub, Nat.reduceAdd, Int.reduceEq, Int.reduceLT, Int.reduceLE, Int.reduceAdd, rs, k1, iP, hR']
  | true =>
  rw [k1] at hR
  simp only [Bool.true_and] at hR
  simp only [go_sem, Nat.reduceBEq, Nat.reduceLeDiff, Nat.reduceEqDiff, Nat.reduceSub, Nat.reduceAdd, Int.reduceEq, Int.reduceLT, Int.reduceLE, Int.reduceAdd, rs, k1, iP, iS, hR]
set_option maxRecDepth 20000 in
theorem c_eqFuncs (a b : List GFunc) (hlen : a.length ≤ BIG) (hC : ∀ i, i < a.length → ∀ (y : GFunc) (H : Heap), calls Tryz.prog cfg 33 [.agg (encFunc (a.getD i ⟨[], [], []⟩)), .agg (encFunc y)] H = some (.ret (.lit (.bool (eqF (a.getD i ⟨[], [], []⟩) y))) H)) (o o' : Own) (H : Heap) :
    calls Tryz.prog cfg 32 [.sl o (a.map encFunc), .sl o' (b.map encFunc), .fn 33 []] H = some (.ret (.lit (.bool (eqFs a b))) H) := by
  unfold BIG at hlen
  refine calls_pure (fn := Tryz.f32) rfl rfl rfl rfl rfl ?_ H
  have rs : Tryz.f32.results.toList = [.tmp 6] := rfl
  by_cases hl : a.length = b.length
  · have d : decide (((a.length : Nat) : Int) = (b.length : Nat)) = true := by simp; omega
    generalize hr : eqFs a b = r
    simp only [go_sem, Nat.reduceBEq, Nat.reduceLeDiff, Nat.reduceEqDiff, Nat.reduceSub, Nat.reduceAdd, Int.reduceEq, Int.reduceLT, Int.reduceLE, Int.reduceAdd, rs, List.length_map, d]
    refine W_loop_ind (fun k e H => ∃ i : Nat, k = a.length - i ∧ i ≤ a.length ∧ eqFs (a.drop i) (b.drop i) = r ∧ gget .bad e 1 = .sl .sh (b.map encFunc) ∧ gget .bad e 2 = .fn 33 [] ∧ gget .bad e 15 = .sl .sh (a.map encFunc) ∧ gget .bad e 16 = .lit (.int .i64 (a.length : Nat)) ∧ gget .bad e 17 = .lit (.int .i64 (i : Nat)))
      a.length ⟨0, rfl, by omega, hr, by simp only [go_sem, Nat.reduceBEq, Nat.reduceLeDiff, Nat.reduceEqDiff, Nat.reduceSub, Nat.reduceAdd, Int.reduceEq, Int.reduceLT, Int.reduceLE, Int.reduceAdd], by simp only [go_sem, Nat.reduceBEq, Nat.reduceLeDiff, Nat.reduceEqDiff, Nat.reduceSub, Nat.reduceAdd, Int.reduceEq, Int.reduceLT, Int.reduceLE, Int.reduceAdd], by simp only [go_sem, Nat.reduceBEq, Nat.reduceLeDiff, Nat.reduceEqDiff, Nat.reduceSub, Nat.reduceAdd, Int.reduceEq, Int.reduceLT, Int.reduceLE, Int.reduceAdd], by simp only [go_sem, Nat.reduceBEq, Nat.reduceLeDiff, Nat.reduceEqDiff, Nat.reduceSub, Nat.reduceAdd, Int.reduceEq, Int.reduceLT, Int.reduceLE, Int.reduceAdd], by simp only [go_sem, Nat.reduceBEq, Nat.reduceLeDiff, Nat.reduceEqDiff, Nat.reduceSub, Nat.reduceAdd, Int.reduceEq, Int.reduceLT, Int.reduceLE, Int.reduceAdd] <;> rfl⟩ ?_
    rintro k ih e H ⟨i, rfl, hle, hR, h1, h2, h15, h16, h17⟩
    obtain ⟨m, hm⟩ : ∃ m, H.next = m := ⟨_, rfl⟩
    by_cases hlt : i < a.length
    · have hlt' : decide ((i : Int) < (a.length : Nat)) = true := by simp; omega
      have hlb : i < b.length := by omega
      have hq := hC i hlt
      rw [drop_cons' ⟨[], [], []⟩ hlt, drop_cons' ⟨[], [], []⟩ hlb] at hR
      have ha := iad_encFunc (t := 42) (bs := 64) (o := .sh) hlt
      have hb := iad_encFunc (t := 42) (bs := 64) (o := .sh) hlb
      generalize a.getD i ⟨[], [], []⟩ = x at hR ha hq
      generalize b.getD i ⟨[], [], []⟩ = y at hR hb
      have hw1 := wrap1 (show i + 1 ≤ 9223372036854775807 by omega)
      have hc := fun H => hq y H
      simp only [eqFs] at hR
      generalize eqF x y = q at hR hc
      obtain ⟨nm, ps, bd⟩ := x
      obtain ⟨nm', ps', bd'⟩ := y
      simp only [encFunc] at ha hb hc
      simp only [go_sem, Nat.reduceBEq, Nat.reduceLeDiff, Nat.reduceEqDiff, Nat.reduceSub, Nat.reduceAdd, Int.reduceEq, Int.reduceLT, Int.reduceLE, Int.reduceAdd, h1, h2, h15, h16, h17, hm, List.length_map, hlt', ha, hb, hc]
      cases q with
      | false =>
        have hR' : r = false := by rw [← hR]; rfl
        simp only [go_sem, Nat.reduceBEq, Nat.reduceLeDiff, Nat.reduceEqDiff, Nat.reduceSub, Nat.reduceAdd, Int.reduceEq, Int.reduceLT, Int.reduceLE, Int.reduceAdd, hR']
      | true =>
        rw [Bool.true_and] at hR
        simp only [go_sem, Nat.reduceBEq, Nat.reduceLeDiff, Nat.reduceEqDiff, Nat.reduceSub, Nat.reduceAdd, Int.reduceEq, Int.reduceLT, Int.reduceLE, Int.reduceAdd, h1, h2, h15, h16, h17, hw1]
        exact ih (a.length - (i + 1)) (by omega) _ _ ⟨i + 1, rfl, by omega, hR, by simp only [go_sem, Nat.reduceBEq, Nat.reduceLeDiff, Nat.reduceEqDiff, Nat.reduceSub, Nat.reduceAdd, Int.reduceEq, Int.reduceLT, Int.reduceLE, Int.reduceAdd, h1], by simp only [go_sem, Nat.reduceBEq, Nat.reduceLeDiff, Nat.reduceEqDiff, Nat.reduceSub, Nat.reduceAdd, Int.reduceEq, Int.reduceLT, Int.reduceLE, Int.reduceAdd, h2], by simp only [go_sem, Nat.reduceBEq, Nat.reduceLeDiff, Nat.reduceEqDiff, Nat.reduceSub, Nat.reduceAdd, Int.reduceEq, Int.reduceLT, Int.reduceLE, Int.reduceAdd, h15], by simp only [go_sem, Nat.reduceBEq, Nat.reduceLeDiff, Nat.reduceEqDiff, Nat.reduceSub, Nat.reduceAdd, Int.reduceEq, Int.reduceLT, Int.reduceLE, Int.reduceAdd, h16], by simp only [go_sem, Nat.reduceBEq, Nat.reduceLeDiff, Nat.reduceEqDiff, Nat.reduceSub, Nat.reduceAdd, Int.reduceEq, Int.reduceLT, Int.reduceLE, Int.reduceAdd]⟩
    · have hlt' : decide ((i : Int) < (a.length : Nat)) = false := by simp; omega
      rw [List.drop_of_length_le (by omega), List.drop_of_length_le (by omega)] at hR
      have hR' : r = true := by rw [← hR]; rfl
      simp only [go_sem, Nat.reduceBEq, Nat.reduceLeDiff, Nat.reduceEqDiff, Nat.reduceSub, Nat.reduceAdd, Int.reduceEq, Int.reduceLT, Int.reduceLE, Int.reduceAdd, h1, h2, h15, h16, h17, hm, List.length_map, hlt', hR']
  · have d : decide (((a.length : Nat) : Int) = (b.length : Nat)) = false := by simp; omega
    have hne : eqFs a b = false := by
      cases he : eqFs a b with
      | false => rfl
      | true => exact absurd (eqFs_len he) hl
    simp only [go_sem, Nat.reduceBEq, Nat.reduceLeDiff, Nat.reduceEqDiff, Nat.reduceSub, Nat.reduceAdd, Int.reduceEq, Int.reduceLT, Int.reduceLE, Int.reduceAdd, rs, List.length_map, d, hne]
set_option maxRecDepth 20000 in
theorem c_pSame (a b : List GFunc) (hfit : fitP a = true) (o o' : Own) (H : Heap) :
    calls Tryz.prog cfg 17 [.agg [.sl o (a.map encFunc)], .agg [.sl o' (b.map encFunc)]] H = some (.ret (.lit (.bool (eqFs a b))) H) := by
  have hlen : a.length ≤ BIG := by simp only [fitP, Bool.and_eq_true, decide_eq_true_eq] at hfit; exact hfit.1
  have hf := fun H => c_eqFuncs a b hlen (fun i hi y H => c_sameFn _ y (fitP_get hfit hi) H) .sh .sh H
  refine calls_pure (fn := Tryz.f17) rfl rfl rfl rfl rfl ?_ H
  have rs : Tryz.f17.results.toList = [.tmp 4] := rfl
  simp only [go_sem, Nat.reduceBEq, Nat.reduceLeDiff, Nat.reduceEqDiff, Nat.reduceSub, Nat.reduceAdd, Int.reduceEq, Int.reduceLT, Int.reduceLE, Int.reduceAdd, rs, hf]
end Go.Proofs.YtghhkbigmmjanaaGreatDoor.VA

/-! Pe0 -/
namespace Go.Proofs.YtghhkbigmmjanaaGreatDoor.VA
open Go Go.RowKit
set_option linter.unusedSimpArgs false
set_option maxRecDepth 100000

def PQ' (P : Program) (r : Nat) (rs : List ResultVar) (H0 : Heap) : Out → Post
  | .ok v cs => fun x e H => match x with
    | .nrm | .ret => (aResults P e H rs).map (fun vs => san (oneOr vs)) = some v ∧ H.get r = some cs ∧ Adv r H0 H
    | _ => False
  | .bad v => fun x _ H => match x with
    | .pan u => san u = v ∧ Adv r H0 H
    | _ => False
section
variable {P : Program} {c : Cfg} {r : Nat} {rs : List ResultVar} {H0 H : Heap} {e : List AV} {v : AV} {cs : List AV}
@[go_sem] theorem PQ'_nrm : PQ' P r rs H0 (.ok v cs) .nrm e H = ((aResults P e H rs).map (fun vs => san (oneOr vs)) = some v ∧ H.get r = some cs ∧ Adv r H0 H) := rfl
@[go_sem] theorem PQ'_ret : PQ' P r rs H0 (.ok v cs) .ret e H = ((aResults P e H rs).map (fun vs => san (oneOr vs)) = some v ∧ H.get r = some cs ∧ Adv r H0 H) := rfl
@[go_sem] theorem PQ'_pan {u : AV} : PQ' P r rs H0 (.bad v) (.pan u) e H = (san u = v ∧ Adv r H0 H) := rfl
theorem PCall_of' {f : FuncId} {fn : Func} {code : Code} {args : List AV} {q : Out} (ht : c.told f = none) (hf : c.fn f = some fn) (hi : c.imp f = true) (hb : fn.body = some code) (hn : Nat.ble args.length fn.ntmps = true)
    (h : W P c code [] args H (PQ' P r fn.results.toList H q)) : PCall P c r f args H q := by
  refine PCall_of ht hf hi hb hn ?_
  obtain ⟨x, e1, H1, hx, hq⟩ := h
  refine ⟨x, e1, H1, hx, ?_⟩
  rw [Fin_nil] at hq ⊢
  cases q with
  | bad v => exact hq
  | ok v cs =>
    have conv : (aResults P e1 H1 fn.results.toList).map (fun vs => san (oneOr vs)) = some v → ∃ vs, aResults P e1 H1 fn.results.toList = some vs ∧ san (oneOr vs) = v := by
      intro h
      cases hv : aResults P e1 H1 fn.results.toList with
      | none => rw [hv] at h; cases h
      | some vs => rw [hv] at h; exact ⟨vs, rfl, by simpa using h⟩
    cases x with
    | nrm => exact ⟨conv hq.1, hq.2⟩
    | ret => exact ⟨conv hq.1, hq.2⟩
    | pan u => exact hq.elim
    | exit j => exact hq.elim
end
/-- A fault, as the parser panics with it. -/
def encTrouble (code : Nat) (a : Int) : AV := .ifc 73 (.agg [.lit (.int .i64 ((code + 20 : Nat) : Int)), .lit (.int .i64 a)])
@[go_sem] theorem san_trouble (code : Nat) (a : Int) : san (encTrouble code a) = encTrouble code a := by simp only [encTrouble, go_sem]
def outP (l : List GTok) (en : Int) (s : PS) (v : AV) : Out :=
  match s.f with
  | none => .ok v (cP l en s)
  | some (c, a) => .bad (encTrouble c a)
section
variable {l : List GTok} {en : Int} {P : Program} {c : Cfg} {r : Nat} {s' : PS} {v : AV} {H : Heap} {e : List AV}
theorem outP_none (h : s'.f = none) : outP l en s' v = .ok v (cP l en s') := by simp only [outP, h]
theorem outP_some {q : Nat × Int} (h : s'.f = some q) : outP l en s' v = .bad (encTrouble q.1 q.2) := by simp only [outP, h]
variable {st : List Fr} {Q : Post} {ds : List (Option Tmp)} {base : Nat} {dst : Option Tmp} {os : List Oper} {i : Nat} {f : FuncId} {args : List AV} {un : List (Nat × Nat)} {dd : List (List Nat)} {tr : List Tr}
theorem goC_out (h : PCall P c r f args H (outP l en s' v)) (ok : s'.f = none → ∀ H', H'.get r = some (cP l en s') → Adv r H H' → WO P c ds base os i st (aput e dst v) H' Q)
    (bad : ∀ q, s'.f = some q → ∀ H', Adv r H H' → Fin P c st (.pan (encTrouble q.1 q.2)) e H' Q) : goC P c (calls P c f args H) ds base dst os i st e Q := by
  cases hf : s'.f with
  | none => rw [outP_none hf] at h; exact goC_ok h (ok hf)
  | some q => rw [outP_some hf] at h; exact goC_bad h (bad q hf)
theorem eK_out (hi : c.imp f = true) (h : PCall P c r f args H (outP l en s' v))
    (ok : s'.f = none → ∀ H', H'.get r = some (cP l en s') → Adv r H H' → WE P c un ds dd base st Q os (i + 1) (tr ++ [.call v H H']) (aput e dst v) H')
    (bad : ∀ q, s'.f = some q → ∀ H', Adv r H H' → WX P c un ds (gget [] dd i) base st (encTrouble q.1 q.2) H' Q os (i + 1) (tr ++ [.pan]) e H) :
    eK P c (calls P c f args H) true un ds dd base st Q dst os i tr e H := by
  cases hf : s'.f with
  | none => rw [outP_none hf] at h; have := eK_ok hi h (ok hf); rw [hi] at this; exact this
  | some q => rw [outP_some hf] at h; have := eK_bad (dst := dst) hi h (bad q hf); rw [hi] at this; exact this
theorem eK_ok' (hi : c.imp f = true) {cs : List AV} (h : PCall P c r f args H (.ok v cs))
    (ok : ∀ H', H'.get r = some cs → Adv r H H' → WE P c un ds dd base st Q os (i + 1) (tr ++ [.call v H H']) (aput e dst v) H') :
    eK P c (calls P c f args H) true un ds dd base st Q dst os i tr e H := by
  have := eK_ok hi h ok; rw [hi] at this; exact this
end
end Go.Proofs.YtghhkbigmmjanaaGreatDoor.VA
