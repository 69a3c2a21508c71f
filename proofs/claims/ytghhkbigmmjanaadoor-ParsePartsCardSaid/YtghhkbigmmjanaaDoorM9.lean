/- What is proved: what the parser's blocks and functions answer, or panic with, in the abstract interpreter (VA). Condition: no more tokens than a machine holds.
What is proved: how one table's answers carry over to a larger one, and how pieces of code answer in a world, in the abstract interpreter (VA). No condition.
What is proved: what the parser's reader does behind its deferred call, in the abstract interpreter (VA). Condition: no more tokens than a machine holds.
What is proved: what the reader's deferred closure does: nothing behind a return; it lays the fault behind a panic. Condition, of the second: the two results lie where the closure looks.
What is proved: what the parser's reader comes to, panics and all: what the document's parser says. Condition: the table of what is told is sound; no more tokens than a machine holds.
What is proved: the parser's reader comes to what the document's parser says, in every world that its arguments mean something in. Condition: the table of what is told is sound.
What is proved: by which steps the document's parser goes from state to state, and what holds at its faults. No program in sight. No condition.
What is proved: on a beginning of a list of tokens, the document's parser does what it does on the whole list, or nothing is left there. No program in sight. No condition.
What is proved: behind other tokens the document's parser does what it does at a list's beginning, or there are too many statements; so two programs' tokens are the two programs'. No program in sight. No condition.
What is proved: plain laws of the lexer on lists of bytes: two texts with a byte 10 between; places that are moved. No program in sight. No condition.
What is proved: texts joined, in the abstract interpreter (VA). No condition. -/
import Derived.Test.YtghhkbigmmjanaaDoorM8
import Derived.Test.YtghhkbigmmjanaaDoorM5
import Derived.Test.YtghhkbigmmjanaaDoorM4
import Derived.Test.YtghhkbigmmjanaaDoorM6
import Derived.Recover
import Derived.Tactics
import Derived.Tactics2
import Derived.Defers
import Derived.WideLaws
import Derived.Test.YtghhkbigmmjanaaDoorM3
/-! Pf1 -/
namespace Go.Proofs.YtghhkbigmmjanaaDoor.VA
open Go Go.RowKit
attribute [local go_sem] Nat.add_eq_left Nat.left_eq_add true_and and_true ite_true if_false Int.cast_ofNat_Int eq_self Nat.add_assoc Option.some.injEq decide_true decide_false Bool.not_true Bool.not_false List.size_toArray List.length_cons List.length_nil
set_option linter.unusedSimpArgs false
set_option maxRecDepth 100000

section
variable {l : List GTok} {en : Int} {r : Nat} {s : PS} {H : Heap}
set_option maxRecDepth 20000 in
theorem c_pBlock (hlen : l.length ≤ LM) (n : Nat) (ihs : ∀ k, k < n → PStmtOk l en k) : PBlockOk l en (n + 1) := by
  intro r s deep H hn hdeep hf hr hg
  obtain ⟨q1, q2, hq⟩ : ∃ q1 q2, blockF l en (n + 1) s deep = (q1, q2) := ⟨_, _, rfl⟩
  rw [hq]
  show PCall _ _ _ _ _ _ (outP l en q1 (.sl .sh (q2.map encStmt)))
  refine PCall_of' (fn := Tryd.f34) rfl rfl rfl rfl rfl ?_
  have rs : Tryd.f34.results.toList = [.tmp 4] := rfl
  unfold blockF at hq
  have d : decide (32 ≤ ((deep : Nat) : Int)) = decide (32 ≤ deep) := by rw [Bool.eq_iff_iff]; simp; omega
  simp only [go_sem, Nat.reduceBEq, Nat.reduceLeDiff, Nat.reduceEqDiff, Nat.reduceSub, Nat.reduceAdd, Int.reduceEq, Int.reduceLT, Int.reduceLE, Int.reduceAdd]
  refine goC_ok (c_is (s := s) (l := l) (en := en) hlen hf (by simp only [go_sem, Nat.reduceBEq, Nat.reduceLeDiff, Nat.reduceEqDiff, Nat.reduceSub, Nat.reduceAdd, Int.reduceEq, Int.reduceLT, Int.reduceLE, Int.reduceAdd]; omega) (by simp only [go_sem, Nat.reduceBEq, Nat.reduceLeDiff, Nat.reduceEqDiff, Nat.reduceSub, Nat.reduceAdd, Int.reduceEq, Int.reduceLT, Int.reduceLE, Int.reduceAdd, hg]) [123] (by decide)) ?_
  intro H1 hg1 ha1
  have hl1 := ha1.1
  simp only [go_sem, Nat.reduceBEq, Nat.reduceLeDiff, Nat.reduceEqDiff, Nat.reduceSub, Nat.reduceAdd, Int.reduceEq, Int.reduceLT, Int.reduceLE, Int.reduceAdd] at hl1
  cases h1 : isT l s [123] with
  | false =>
    simp only [h1, Bool.false_and] at hq
    simp only [go_sem, Nat.reduceBEq, Nat.reduceLeDiff, Nat.reduceEqDiff, Nat.reduceSub, Nat.reduceAdd, Int.reduceEq, Int.reduceLT, Int.reduceLE, Int.reduceAdd, hg1]
    refine goC_out (c_need (s := s) (l := l) (en := en) hlen hf (by simp only [go_sem, Nat.reduceBEq, Nat.reduceLeDiff, Nat.reduceEqDiff, Nat.reduceSub, Nat.reduceAdd, Int.reduceEq, Int.reduceLT, Int.reduceLE, Int.reduceAdd]; omega) (by simp only [go_sem, Nat.reduceBEq, Nat.reduceLeDiff, Nat.reduceEqDiff, Nat.reduceSub, Nat.reduceAdd, Int.reduceEq, Int.reduceLT, Int.reduceLE, Int.reduceAdd, hg1]) [123] (by decide)) ?_ ?_
    · intro hf2
      have : (need l en s [123]).ok = false := by simp only [need, h1]; exact pfail_bad _ _
      rw [ok_none hf2] at this; cases this
    · intro q9 hq9 H9 had
      rw [outP_some (show q1.f = some q9 by rw [show q1 = (bodyF l en n (need l en s [123]) deep []).1 by rw [hq], bodyF_bad (ok_some hq9)]; exact hq9)]
      simp only [go_sem, Nat.reduceBEq, Nat.reduceLeDiff, Nat.reduceEqDiff, Nat.reduceSub, Nat.reduceAdd, Int.reduceEq, Int.reduceLT, Int.reduceLE, Int.reduceAdd, san_trouble]
      (repeat first | exact Adv.refl _ _ | assumption | refine Adv.trans ?_ had | refine Adv.trans ?_ ha1 | refine Adv.trans ?_ ha2 | refine Adv.trans ?_ ha3 | refine Adv.trans ?_ ha4 | refine Adv.trans ?_ ha5 | refine Adv.trans ?_ ha6 | refine Adv.trans ?_ ha7 | refine Adv.trans ?_ ha8 | refine Adv.trans ?_ ha9 | refine Adv.trans ?_ ha10 | refine Adv.trans ?_ ha11 | refine Adv.trans ?_ ha12 | apply Adv.up | apply Adv.put | refine Adv.new ?_ (by omega) _ | refine Adv.live ?_ (by omega) _ | refine Adv.owns ?_ (by omega) (by first | exact OwnB.lo ‹_› | exact fun _ _ _ h => by cases h))
  | true =>
  cases h2 : decide (32 ≤ deep) with
  | true =>
    simp only [h1, h2, Bool.and_self] at hq
    cases hq
    rw [outP_fail hf]
    simp only [go_sem, Nat.reduceBEq, Nat.reduceLeDiff, Nat.reduceEqDiff, Nat.reduceSub, Nat.reduceAdd, Int.reduceEq, Int.reduceLT, Int.reduceLE, Int.reduceAdd, hg1, d, h2]
    refine goC_bad (c_fail (s := s) (l := l) (en := en) (by simp only [go_sem, Nat.reduceBEq, Nat.reduceLeDiff, Nat.reduceEqDiff, Nat.reduceSub, Nat.reduceAdd, Int.reduceEq, Int.reduceLT, Int.reduceLE, Int.reduceAdd]; omega) (by simp only [go_sem, Nat.reduceBEq, Nat.reduceLeDiff, Nat.reduceEqDiff, Nat.reduceSub, Nat.reduceAdd, Int.reduceEq, Int.reduceLT, Int.reduceLE, Int.reduceAdd, hg1]) 1 rfl) ?_
    intro H9 had
    simp only [go_sem, Nat.reduceBEq, Nat.reduceLeDiff, Nat.reduceEqDiff, Nat.reduceSub, Nat.reduceAdd, Int.reduceEq, Int.reduceLT, Int.reduceLE, Int.reduceAdd, san_trouble]
    (repeat first | exact Adv.refl _ _ | assumption | refine Adv.trans ?_ had | refine Adv.trans ?_ ha1 | refine Adv.trans ?_ ha2 | refine Adv.trans ?_ ha3 | refine Adv.trans ?_ ha4 | refine Adv.trans ?_ ha5 | refine Adv.trans ?_ ha6 | refine Adv.trans ?_ ha7 | refine Adv.trans ?_ ha8 | refine Adv.trans ?_ ha9 | refine Adv.trans ?_ ha10 | refine Adv.trans ?_ ha11 | refine Adv.trans ?_ ha12 | apply Adv.up | apply Adv.put | refine Adv.new ?_ (by omega) _ | refine Adv.live ?_ (by omega) _ | refine Adv.owns ?_ (by omega) (by first | exact OwnB.lo ‹_› | exact fun _ _ _ h => by cases h))
  | false =>
  simp only [h1, h2, Bool.and_false] at hq
  have hdp : ¬ 32 ≤ deep := by simpa using h2
  simp only [go_sem, Nat.reduceBEq, Nat.reduceLeDiff, Nat.reduceEqDiff, Nat.reduceSub, Nat.reduceAdd, Int.reduceEq, Int.reduceLT, Int.reduceLE, Int.reduceAdd, hg1, d, h2]
  refine goC_out (c_need (s := s) (l := l) (en := en) hlen hf (by simp only [go_sem, Nat.reduceBEq, Nat.reduceLeDiff, Nat.reduceEqDiff, Nat.reduceSub, Nat.reduceAdd, Int.reduceEq, Int.reduceLT, Int.reduceLE, Int.reduceAdd]; omega) (by simp only [go_sem, Nat.reduceBEq, Nat.reduceLeDiff, Nat.reduceEqDiff, Nat.reduceSub, Nat.reduceAdd, Int.reduceEq, Int.reduceLT, Int.reduceLE, Int.reduceAdd, hg1]) [123] (by decide)) ?_ ?_
  case refine_2 =>
    intro q9 hq9 H9 had
    rw [outP_some (show q1.f = some q9 by rw [show q1 = (bodyF l en n (need l en s [123]) deep []).1 by rw [hq], bodyF_bad (ok_some hq9)]; exact hq9)]
    simp only [go_sem, Nat.reduceBEq, Nat.reduceLeDiff, Nat.reduceEqDiff, Nat.reduceSub, Nat.reduceAdd, Int.reduceEq, Int.reduceLT, Int.reduceLE, Int.reduceAdd, san_trouble]
    (repeat first | exact Adv.refl _ _ | assumption | refine Adv.trans ?_ had | refine Adv.trans ?_ ha1 | refine Adv.trans ?_ ha2 | refine Adv.trans ?_ ha3 | refine Adv.trans ?_ ha4 | refine Adv.trans ?_ ha5 | refine Adv.trans ?_ ha6 | refine Adv.trans ?_ ha7 | refine Adv.trans ?_ ha8 | refine Adv.trans ?_ ha9 | refine Adv.trans ?_ ha10 | refine Adv.trans ?_ ha11 | refine Adv.trans ?_ ha12 | apply Adv.up | apply Adv.put | refine Adv.new ?_ (by omega) _ | refine Adv.live ?_ (by omega) _ | refine Adv.owns ?_ (by omega) (by first | exact OwnB.lo ‹_› | exact fun _ _ _ h => by cases h))
  intro hf2 H2 hg2 ha2
  have hl2 := ha2.1
  simp only [go_sem, Nat.reduceBEq, Nat.reduceLeDiff, Nat.reduceEqDiff, Nat.reduceSub, Nat.reduceAdd, Int.reduceEq, Int.reduceLT, Int.reduceLE, Int.reduceAdd] at hl2
  have hlt := need_lt (l := l) (en := en) s [123]
  obtain ⟨_, hat1, hat2⟩ := hlt (ok_none hf2)
  have hrem := (rem_lt hlt).1
  have had : Adv r H H2 := by
    (repeat first | exact Adv.refl _ _ | assumption | refine Adv.trans ?_ had | refine Adv.trans ?_ ha1 | refine Adv.trans ?_ ha2 | refine Adv.trans ?_ ha3 | refine Adv.trans ?_ ha4 | refine Adv.trans ?_ ha5 | refine Adv.trans ?_ ha6 | refine Adv.trans ?_ ha7 | refine Adv.trans ?_ ha8 | refine Adv.trans ?_ ha9 | refine Adv.trans ?_ ha10 | refine Adv.trans ?_ ha11 | refine Adv.trans ?_ ha12 | apply Adv.up | apply Adv.put | refine Adv.new ?_ (by omega) _ | refine Adv.live ?_ (by omega) _ | refine Adv.owns ?_ (by omega) (by first | exact OwnB.lo ‹_› | exact fun _ _ _ h => by cases h))
  generalize need l en s [123] = s at hq hlt hrem hf2 hg2 hat1 hat2
  simp only [go_sem, Nat.reduceBEq, Nat.reduceLeDiff, Nat.reduceEqDiff, Nat.reduceSub, Nat.reduceAdd, Int.reduceEq, Int.reduceLT, Int.reduceLE, Int.reduceAdd]
  refine W_loop_ind (fun x e H' => ∃ (s : PS) (acc : List GStmt) (o : Own) (k : Nat), x = ms l s ∧ k < n + 1 ∧ 3 * rem l s + 2 ≤ k ∧ s.f = none ∧ bodyF l en k s deep acc = (q1, q2) ∧ acc.length ≤ s.at_ ∧ s.at_ ≤ l.length ∧
      gget .bad e 0 = .ptr r 0 ∧ gget .bad e 1 = .lit (.int .i64 (deep : Nat)) ∧ gget .bad e 5 = .sl o (acc.map encStmt) ∧ H'.get r = some (cP l en s) ∧ r < H'.next ∧ Adv r H H' ∧ OwnB H' o 65 8 H.next)
    (ms l s) ⟨s, [], .nil, n, rfl, by omega, by omega, hf2, hq, by simp, hat2, by simp only [go_sem, Nat.reduceBEq, Nat.reduceLeDiff, Nat.reduceEqDiff, Nat.reduceSub, Nat.reduceAdd, Int.reduceEq, Int.reduceLT, Int.reduceLE, Int.reduceAdd], by simp only [go_sem, Nat.reduceBEq, Nat.reduceLeDiff, Nat.reduceEqDiff, Nat.reduceSub, Nat.reduceAdd, Int.reduceEq, Int.reduceLT, Int.reduceLE, Int.reduceAdd], by simp only [go_sem, Nat.reduceBEq, Nat.reduceLeDiff, Nat.reduceEqDiff, Nat.reduceSub, Nat.reduceAdd, Int.reduceEq, Int.reduceLT, Int.reduceLE, Int.reduceAdd, List.map_nil], by simp only [go_sem, Nat.reduceBEq, Nat.reduceLeDiff, Nat.reduceEqDiff, Nat.reduceSub, Nat.reduceAdd, Int.reduceEq, Int.reduceLT, Int.reduceLE, Int.reduceAdd, hg2], by simp only [go_sem, Nat.reduceBEq, Nat.reduceLeDiff, Nat.reduceEqDiff, Nat.reduceSub, Nat.reduceAdd, Int.reduceEq, Int.reduceLT, Int.reduceLE, Int.reduceAdd]; omega, had.up 1, OwnB.nil _ _ _ _⟩ ?_
  clear had hat1 hat2 hlt hrem hf2 hg2 ha2 hl2 hq h1 ha1 hg1 hl1 hf hg hn h2 s
  rintro x ih e H3 ⟨s, acc, o, k, rfl, hkn, hkr, hf, hq, hb1, hb2, e0, e1, e5, hg3, hr3, ha3, ho⟩
  obtain ⟨k, rfl⟩ : ∃ j, k = j + 1 := ⟨k - 1, by omega⟩
  have hok := ok_none hf
  simp only [go_sem, Nat.reduceBEq, Nat.reduceLeDiff, Nat.reduceEqDiff, Nat.reduceSub, Nat.reduceAdd, Int.reduceEq, Int.reduceLT, Int.reduceLE, Int.reduceAdd, e0, e1, e5]
  cases h5 : isT l s [125] with
  | true =>
    have hq' : (s.adv, acc) = (q1, q2) := by rw [← hq]; simp only [bodyF, h5, Bool.not_true, Bool.and_false, needYes h5]
    cases hq'
    rw [outP_none (show s.adv.f = none from hf)]
    refine goC_ok (c_take_yes (s := s) (l := l) (en := en) hlen hf (by simp only [go_sem, Nat.reduceBEq, Nat.reduceLeDiff, Nat.reduceEqDiff, Nat.reduceSub, Nat.reduceAdd, Int.reduceEq, Int.reduceLT, Int.reduceLE, Int.reduceAdd]; omega) (by simp only [go_sem, Nat.reduceBEq, Nat.reduceLeDiff, Nat.reduceEqDiff, Nat.reduceSub, Nat.reduceAdd, Int.reduceEq, Int.reduceLT, Int.reduceLE, Int.reduceAdd, hg3]) (by decide) h5) ?_
    intro H4 hg4 ha4
    simp only [go_sem, Nat.reduceBEq, Nat.reduceLeDiff, Nat.reduceEqDiff, Nat.reduceSub, Nat.reduceAdd, Int.reduceEq, Int.reduceLT, Int.reduceLE, Int.reduceAdd, rs, e5, sanLL_encStmt, hg4]
    exact ((ha3.up 3).trans ha4).up 2
  | false =>
    have hq' : bodyF l en k (stmtF l en k s (deep + 1)).1 deep (acc ++ [(stmtF l en k s (deep + 1)).2]) = (q1, q2) := by rw [← hq]; simp only [bodyF, hok, h5, Bool.not_false, Bool.and_self]
    refine goC_ok (c_take_no (s := s) (l := l) (en := en) hlen hf (by simp only [go_sem, Nat.reduceBEq, Nat.reduceLeDiff, Nat.reduceEqDiff, Nat.reduceSub, Nat.reduceAdd, Int.reduceEq, Int.reduceLT, Int.reduceLE, Int.reduceAdd]; omega) (by simp only [go_sem, Nat.reduceBEq, Nat.reduceLeDiff, Nat.reduceEqDiff, Nat.reduceSub, Nat.reduceAdd, Int.reduceEq, Int.reduceLT, Int.reduceLE, Int.reduceAdd, hg3]) (by decide) h5) ?_
    intro H4 hg4 ha4
    have hl4 := ha4.1
    simp only [go_sem, Nat.reduceBEq, Nat.reduceLeDiff, Nat.reduceEqDiff, Nat.reduceSub, Nat.reduceAdd, Int.reduceEq, Int.reduceLT, Int.reduceLE, Int.reduceAdd] at hl4
    have hwd := wrap1 (show deep + 1 ≤ 9223372036854775807 by omega)
    simp only [go_sem, Nat.reduceBEq, Nat.reduceLeDiff, Nat.reduceEqDiff, Nat.reduceSub, Nat.reduceAdd, Int.reduceEq, Int.reduceLT, Int.reduceLE, Int.reduceAdd, e0, e1, e5, hwd]
    refine goC_out (ihs k (by omega) r s (deep + 1) _ (by omega) (by omega) hf (by simp only [go_sem, Nat.reduceBEq, Nat.reduceLeDiff, Nat.reduceEqDiff, Nat.reduceSub, Nat.reduceAdd, Int.reduceEq, Int.reduceLT, Int.reduceLE, Int.reduceAdd]; omega) (by simp only [go_sem, Nat.reduceBEq, Nat.reduceLeDiff, Nat.reduceEqDiff, Nat.reduceSub, Nat.reduceAdd, Int.reduceEq, Int.reduceLT, Int.reduceLE, Int.reduceAdd, hg4])) ?_ ?_
    · intro hf5 H5 hg5 ha5
      have hl5 := ha5.1
      simp only [go_sem, Nat.reduceBEq, Nat.reduceLeDiff, Nat.reduceEqDiff, Nat.reduceSub, Nat.reduceAdd, Int.reduceEq, Int.reduceLT, Int.reduceLE, Int.reduceAdd] at hl5
      have hap := fun o x H id h => app_stm hlen (acc := acc) (by omega) o x H id h
      have ho5 := ((((ho.up 3).adv ha4 hr).up 8).adv ha5 hr)
      have hoA := ho5.appOk acc.length
      have hol := ho5.lo
      have hlt := stmtF_lt (l := l) (en := en) k s (deep + 1)
      have hms := ms_lt hlt hok
      obtain ⟨_, q5, q6⟩ := hlt (ok_none hf5)
      have hrl := (rem_lt hlt).2 hok (by omega)
      have ha6 := (((ha3.up 3).trans ha4).up 8).trans ha5
      have hnx := ha3.1
      simp only [go_sem, Nat.reduceBEq, Nat.reduceLeDiff, Nat.reduceEqDiff, Nat.reduceSub, Nat.reduceAdd, Int.reduceEq, Int.reduceLT, Int.reduceLE, Int.reduceAdd, e0, e1, e5, hap, hoA]
      exact ih _ hms _ _ ⟨_, _, _, k, rfl, by omega, by omega, hf5, hq', by simp only [List.length_append, List.length_cons, List.length_nil]; omega, q6, by simp only [go_sem, Nat.reduceBEq, Nat.reduceLeDiff, Nat.reduceEqDiff, Nat.reduceSub, Nat.reduceAdd, Int.reduceEq, Int.reduceLT, Int.reduceLE, Int.reduceAdd, e0], by simp only [go_sem, Nat.reduceBEq, Nat.reduceLeDiff, Nat.reduceEqDiff, Nat.reduceSub, Nat.reduceAdd, Int.reduceEq, Int.reduceLT, Int.reduceLE, Int.reduceAdd, e1], by simp only [go_sem, Nat.reduceBEq, Nat.reduceLeDiff, Nat.reduceEqDiff, Nat.reduceSub, Nat.reduceAdd, Int.reduceEq, Int.reduceLT, Int.reduceLE, Int.reduceAdd] <;> rfl, by simp only [go_sem, Nat.reduceBEq, Nat.reduceLeDiff, Nat.reduceEqDiff, Nat.reduceSub, Nat.reduceAdd, Int.reduceEq, Int.reduceLT, Int.reduceLE, Int.reduceAdd, hg5],
        by simp only [go_sem, Nat.reduceBEq, Nat.reduceLeDiff, Nat.reduceEqDiff, Nat.reduceSub, Nat.reduceAdd, Int.reduceEq, Int.reduceLT, Int.reduceLE, Int.reduceAdd]; omega, Adv.owns ha6 (by omega) hol, OwnB.app _ _ _ _ _ _ (by omega) (by omega)⟩
    · intro q9 hq9 H9 had
      rw [outP_some (show q1.f = some q9 by rw [show q1 = (bodyF l en k (stmtF l en k s (deep + 1)).1 deep (acc ++ [(stmtF l en k s (deep + 1)).2])).1 by rw [hq'], bodyF_bad (ok_some hq9)]; exact hq9)]
      simp only [go_sem, Nat.reduceBEq, Nat.reduceLeDiff, Nat.reduceEqDiff, Nat.reduceSub, Nat.reduceAdd, Int.reduceEq, Int.reduceLT, Int.reduceLE, Int.reduceAdd, san_trouble]
      exact (((ha3.up 3).trans ha4).up 8).trans had
theorem c_pBlocks (hlen : l.length ≤ LM) : ∀ n, PStmtOk l en n ∧ PBlockOk l en n := by
  intro n
  induction n using Nat.strongRecOn with
  | ind n ih =>
    cases n with
    | zero => exact ⟨fun r s deep H h => by omega, fun r s deep H h => by omega⟩
    | succ n => exact ⟨c_stmt hlen n (ih n (by omega)).2, c_pBlock hlen n fun k hk => (ih k (by omega)).1⟩
set_option maxRecDepth 20000 in
theorem c_function (hlen : l.length ≤ LM) (hf : s.f = none) (hr : r < H.next) (hg : H.get r = some (cP l en s)) :
    PCall Tryd.prog cfg r 14 [.ptr r 0] H (outP l en (funcP l en s).1 (.agg (encFunc (funcP l en s).2))) := by
  refine PCall_of' (fn := Tryd.f14) rfl rfl rfl rfl rfl ?_
  have rs : Tryd.f14.results.toList = [.cell 2 44] := rfl
  have hn := ne_new hr
  have hz := ne_new0 hr
  have hn' := ne_new' hr
  simp only [go_sem, Nat.reduceBEq, Nat.reduceLeDiff, Nat.reduceEqDiff, Nat.reduceSub, Nat.reduceAdd, Int.reduceEq, Int.reduceLT, Int.reduceLE, Int.reduceAdd]
  have rQ : (H.next = r) = False := eq_false (by omega)
  have qQ : (r = H.next) = False := eq_false (by omega)
  have pRQ : (H.next + 1 = H.next) = False := eq_false (by omega)
  have pQR : (H.next = H.next + 1) = False := eq_false (by omega)
  have rR : (H.next + 1 = r) = False := eq_false (by omega)
  have qR : (r = H.next + 1) = False := eq_false (by omega)
  have pBQ : (H.next + 2 = H.next) = False := eq_false (by omega)
  have pQB : (H.next = H.next + 2) = False := eq_false (by omega)
  have pBR : (H.next + 2 = H.next + 1) = False := eq_false (by omega)
  have pRB : (H.next + 1 = H.next + 2) = False := eq_false (by omega)
  have rB : (H.next + 2 = r) = False := eq_false (by omega)
  have qB : (r = H.next + 2) = False := eq_false (by omega)
  simp only [go_sem, Nat.reduceBEq, Nat.reduceLeDiff, Nat.reduceEqDiff, Nat.reduceSub, Nat.reduceAdd, Int.reduceEq, Int.reduceLT, Int.reduceLE, Int.reduceAdd, hg, hn, hz, hn', Nat.add_zero, rQ, qQ, pQR, pQB, rR, qR, pRQ, pRB, rB, qB, pBQ, pBR]
  refine goC_out (c_need (s := s) (l := l) (en := en) hlen hf (by first | omega | (simp only [go_sem, Nat.reduceBEq, Nat.reduceLeDiff, Nat.reduceEqDiff, Nat.reduceSub, Nat.reduceAdd, Int.reduceEq, Int.reduceLT, Int.reduceLE, Int.reduceAdd]; omega)) (by first | assumption | simp only [go_sem, Nat.reduceBEq, Nat.reduceLeDiff, Nat.reduceEqDiff, Nat.reduceSub, Nat.reduceAdd, Int.reduceEq, Int.reduceLT, Int.reduceLE, Int.reduceAdd, hg, hn, hz, hn', Nat.add_zero, rQ, qQ, pQR, pQB, rR, qR, pRQ, pRB, rB, qB, pBQ, pBR]) [102, 117, 110] (by decide)) ?_ ?_
  case refine_2 =>
    intro q9 hq9 H9 had
    have hb9 : (funcP l en s).1.f = some q9 := by
      show (blockF l en FN (names l en (nameP l en (need l en s tFun)).1).1 0).1.f = some q9
      have hq8 : (need l en s tFun).f = some q9 := hq9
      rw [show (nameP l en (need l en s tFun)).1 = need l en s tFun from nameP_bad (ok_some hq8), show (names l en (need l en s tFun)).1 = need l en s tFun from names_bad (ok_some hq8), blockF_bad (ok_some hq8)]
      exact hq8
    rw [outP_some hb9]
    simp only [go_sem, Nat.reduceBEq, Nat.reduceLeDiff, Nat.reduceEqDiff, Nat.reduceSub, Nat.reduceAdd, Int.reduceEq, Int.reduceLT, Int.reduceLE, Int.reduceAdd, san_trouble]
    (repeat first | exact Adv.refl _ _ | assumption | refine Adv.trans ?_ had | refine Adv.trans ?_ ha1 | refine Adv.trans ?_ ha2 | refine Adv.trans ?_ ha3 | refine Adv.trans ?_ ha4 | refine Adv.trans ?_ ha5 | refine Adv.trans ?_ ha6 | refine Adv.trans ?_ ha7 | refine Adv.trans ?_ ha8 | refine Adv.trans ?_ ha9 | refine Adv.trans ?_ ha10 | refine Adv.trans ?_ ha11 | refine Adv.trans ?_ ha12 | apply Adv.up | apply Adv.put | refine Adv.new ?_ (by omega) _ | refine Adv.live ?_ (by omega) _ | refine Adv.owns ?_ (by omega) (by first | exact OwnB.lo ‹_› | exact fun _ _ _ h => by cases h))
  intro hf1 H1 hg1 ha1
  have hl1 := ha1.1
  try simp only [go_sem, Nat.reduceBEq, Nat.reduceLeDiff, Nat.reduceEqDiff, Nat.reduceSub, Nat.reduceAdd, Int.reduceEq, Int.reduceLT, Int.reduceLE, Int.reduceAdd] at hl1
  have hr1 : r < H1.next := by omega
  have hn1 := ne_new hr1
  have hz1 := ne_new0 hr1
  have hx1 := ne_new' hr1
  have bQ1 : H1.get (H.next) = some ([.ptr r 0]) := (ha1.get (by first | omega | (simp only [go_sem, Nat.reduceBEq, Nat.reduceLeDiff, Nat.reduceEqDiff, Nat.reduceSub, Nat.reduceAdd, Int.reduceEq, Int.reduceLT, Int.reduceLE, Int.reduceAdd]; omega)) (by omega)).trans (by simp only [go_sem, Nat.reduceBEq, Nat.reduceLeDiff, Nat.reduceEqDiff, Nat.reduceSub, Nat.reduceAdd, Int.reduceEq, Int.reduceLT, Int.reduceLE, Int.reduceAdd, hg, hn, hz, hn', Nat.add_zero, rQ, qQ, pQR, pQB, rR, qR, pRQ, pRB, rB, qB, pBQ, pBR])
  have cQ1 : ∀ j, (H1.next + j = H.next) = False := fun j => eq_false (by omega)
  have dQ1 : (H1.next = H.next) = False := eq_false (by omega)
  have eQ1 : ∀ j, (H.next = H1.next + j) = False := fun j => eq_false (by omega)
  have bR1 : H1.get (H.next + 1) = some ([.lit (.string (ba [])), .sl .nil [], .sl .nil []]) := (ha1.get (by first | omega | (simp only [go_sem, Nat.reduceBEq, Nat.reduceLeDiff, Nat.reduceEqDiff, Nat.reduceSub, Nat.reduceAdd, Int.reduceEq, Int.reduceLT, Int.reduceLE, Int.reduceAdd]; omega)) (by omega)).trans (by simp only [go_sem, Nat.reduceBEq, Nat.reduceLeDiff, Nat.reduceEqDiff, Nat.reduceSub, Nat.reduceAdd, Int.reduceEq, Int.reduceLT, Int.reduceLE, Int.reduceAdd, hg, hn, hz, hn', Nat.add_zero, rQ, qQ, pQR, pQB, rR, qR, pRQ, pRB, rB, qB, pBQ, pBR])
  have cR1 : ∀ j, (H1.next + j = H.next + 1) = False := fun j => eq_false (by omega)
  have dR1 : (H1.next = H.next + 1) = False := eq_false (by omega)
  have eR1 : ∀ j, (H.next + 1 = H1.next + j) = False := fun j => eq_false (by omega)
  have bB1 : H1.get (H.next + 2) = some ([.lit (.string (ba [])), .sl .nil [], .sl .nil []]) := (ha1.get (by first | omega | (simp only [go_sem, Nat.reduceBEq, Nat.reduceLeDiff, Nat.reduceEqDiff, Nat.reduceSub, Nat.reduceAdd, Int.reduceEq, Int.reduceLT, Int.reduceLE, Int.reduceAdd]; omega)) (by omega)).trans (by simp only [go_sem, Nat.reduceBEq, Nat.reduceLeDiff, Nat.reduceEqDiff, Nat.reduceSub, Nat.reduceAdd, Int.reduceEq, Int.reduceLT, Int.reduceLE, Int.reduceAdd, hg, hn, hz, hn', Nat.add_zero, rQ, qQ, pQR, pQB, rR, qR, pRQ, pRB, rB, qB, pBQ, pBR])
  have cB1 : ∀ j, (H1.next + j = H.next + 2) = False := fun j => eq_false (by omega)
  have dB1 : (H1.next = H.next + 2) = False := eq_false (by omega)
  have eB1 : ∀ j, (H.next + 2 = H1.next + j) = False := fun j => eq_false (by omega)
  simp only [go_sem, Nat.reduceBEq, Nat.reduceLeDiff, Nat.reduceEqDiff, Nat.reduceSub, Nat.reduceAdd, Int.reduceEq, Int.reduceLT, Int.reduceLE, Int.reduceAdd, hg1, hn, hz, hn', Nat.add_zero, hn1, hz1, hx1, bQ1, cQ1, dQ1, eQ1, rQ, qQ, pQR, pQB, bR1, cR1, dR1, eR1, rR, qR, pRQ, pRB, bB1, cB1, dB1, eB1, rB, qB, pBQ, pBR]
  refine goC_out (c_name (s := (need l en s [102, 117, 110])) (l := l) (en := en) hlen hf1 (by first | omega | (simp only [go_sem, Nat.reduceBEq, Nat.reduceLeDiff, Nat.reduceEqDiff, Nat.reduceSub, Nat.reduceAdd, Int.reduceEq, Int.reduceLT, Int.reduceLE, Int.reduceAdd]; omega)) (by first | assumption | simp only [go_sem, Nat.reduceBEq, Nat.reduceLeDiff, Nat.reduceEqDiff, Nat.reduceSub, Nat.reduceAdd, Int.reduceEq, Int.reduceLT, Int.reduceLE, Int.reduceAdd, hg1, hn, hz, hn', Nat.add_zero, hn1, hz1, hx1, bQ1, cQ1, dQ1, eQ1, rQ, qQ, pQR, pQB, bR1, cR1, dR1, eR1, rR, qR, pRQ, pRB, bB1, cB1, dB1, eB1, rB, qB, pBQ, pBR])) ?_ ?_
  case refine_2 =>
    intro q9 hq9 H9 had
    have hb9 : (funcP l en s).1.f = some q9 := by
      show (blockF l en FN (names l en (nameP l en (need l en s tFun)).1).1 0).1.f = some q9
      have hq8 : (nameP l en (need l en s tFun)).1.f = some q9 := hq9
      rw [show (names l en (nameP l en (need l en s tFun)).1).1 = (nameP l en (need l en s tFun)).1 from names_bad (ok_some hq8), blockF_bad (ok_some hq8)]
      exact hq8
    rw [outP_some hb9]
    simp only [go_sem, Nat.reduceBEq, Nat.reduceLeDiff, Nat.reduceEqDiff, Nat.reduceSub, Nat.reduceAdd, Int.reduceEq, Int.reduceLT, Int.reduceLE, Int.reduceAdd, san_trouble]
    (repeat first | exact Adv.refl _ _ | assumption | refine Adv.trans ?_ had | refine Adv.trans ?_ ha1 | refine Adv.trans ?_ ha2 | refine Adv.trans ?_ ha3 | refine Adv.trans ?_ ha4 | refine Adv.trans ?_ ha5 | refine Adv.trans ?_ ha6 | refine Adv.trans ?_ ha7 | refine Adv.trans ?_ ha8 | refine Adv.trans ?_ ha9 | refine Adv.trans ?_ ha10 | refine Adv.trans ?_ ha11 | refine Adv.trans ?_ ha12 | apply Adv.up | apply Adv.put | refine Adv.new ?_ (by omega) _ | refine Adv.live ?_ (by omega) _ | refine Adv.owns ?_ (by omega) (by first | exact OwnB.lo ‹_› | exact fun _ _ _ h => by cases h))
  intro hf2 H2 hg2 ha2
  have hl2 := ha2.1
  try simp only [go_sem, Nat.reduceBEq, Nat.reduceLeDiff, Nat.reduceEqDiff, Nat.reduceSub, Nat.reduceAdd, Int.reduceEq, Int.reduceLT, Int.reduceLE, Int.reduceAdd] at hl2
  have hr2 : r < H2.next := by omega
  have hn2 := ne_new hr2
  have hz2 := ne_new0 hr2
  have hx2 := ne_new' hr2
  have bQ2 : H2.get (H.next) = some ([.ptr r 0]) := (ha2.get (by first | omega | (simp only [go_sem, Nat.reduceBEq, Nat.reduceLeDiff, Nat.reduceEqDiff, Nat.reduceSub, Nat.reduceAdd, Int.reduceEq, Int.reduceLT, Int.reduceLE, Int.reduceAdd]; omega)) (by omega)).trans (by simp only [go_sem, Nat.reduceBEq, Nat.reduceLeDiff, Nat.reduceEqDiff, Nat.reduceSub, Nat.reduceAdd, Int.reduceEq, Int.reduceLT, Int.reduceLE, Int.reduceAdd, hg1, hn, hz, hn', Nat.add_zero, hn1, hz1, hx1, bQ1, cQ1, dQ1, eQ1, rQ, qQ, pQR, pQB, bR1, cR1, dR1, eR1, rR, qR, pRQ, pRB, bB1, cB1, dB1, eB1, rB, qB, pBQ, pBR])
  have cQ2 : ∀ j, (H2.next + j = H.next) = False := fun j => eq_false (by omega)
  have dQ2 : (H2.next = H.next) = False := eq_false (by omega)
  have eQ2 : ∀ j, (H.next = H2.next + j) = False := fun j => eq_false (by omega)
  have bR2 : H2.get (H.next + 1) = some ([.lit (.string (ba [])), .sl .nil [], .sl .nil []]) := (ha2.get (by first | omega | (simp only [go_sem, Nat.reduceBEq, Nat.reduceLeDiff, Nat.reduceEqDiff, Nat.reduceSub, Nat.reduceAdd, Int.reduceEq, Int.reduceLT, Int.reduceLE, Int.reduceAdd]; omega)) (by omega)).trans (by simp only [go_sem, Nat.reduceBEq, Nat.reduceLeDiff, Nat.reduceEqDiff, Nat.reduceSub, Nat.reduceAdd, Int.reduceEq, Int.reduceLT, Int.reduceLE, Int.reduceAdd, hg1, hn, hz, hn', Nat.add_zero, hn1, hz1, hx1, bQ1, cQ1, dQ1, eQ1, rQ, qQ, pQR, pQB, bR1, cR1, dR1, eR1, rR, qR, pRQ, pRB, bB1, cB1, dB1, eB1, rB, qB, pBQ, pBR])
  have cR2 : ∀ j, (H2.next + j = H.next + 1) = False := fun j => eq_false (by omega)
  have dR2 : (H2.next = H.next + 1) = False := eq_false (by omega)
  have eR2 : ∀ j, (H.next + 1 = H2.next + j) = False := fun j => eq_false (by omega)
  have bB2 : H2.get (H.next + 2) = some ([.lit (.string (ba [])), .sl .nil [], .sl .nil []]) := (ha2.get (by first | omega | (simp only [go_sem, Nat.reduceBEq, Nat.reduceLeDiff, Nat.reduceEqDiff, Nat.reduceSub, Nat.reduceAdd, Int.reduceEq, Int.reduceLT, Int.reduceLE, Int.reduceAdd]; omega)) (by omega)).trans (by simp only [go_sem, Nat.reduceBEq, Nat.reduceLeDiff, Nat.reduceEqDiff, Nat.reduceSub, Nat.reduceAdd, Int.reduceEq, Int.reduceLT, Int.reduceLE, Int.reduceAdd, hg1, hn, hz, hn', Nat.add_zero, hn1, hz1, hx1, bQ1, cQ1, dQ1, eQ1, rQ, qQ, pQR, pQB, bR1, cR1, dR1, eR1, rR, qR, pRQ, pRB, bB1, cB1, dB1, eB1, rB, qB, pBQ, pBR])
  have cB2 : ∀ j, (H2.next + j = H.next + 2) = False := fun j => eq_false (by omega)
  have dB2 : (H2.next = H.next + 2) = False := eq_false (by omega)
  have eB2 : ∀ j, (H.next + 2 = H2.next + j) = False := fun j => eq_false (by omega)
  simp only [go_sem, Nat.reduceBEq, Nat.reduceLeDiff, Nat.reduceEqDiff, Nat.reduceSub, Nat.reduceAdd, Int.reduceEq, Int.reduceLT, Int.reduceLE, Int.reduceAdd, hg2, hn, hz, hn', Nat.add_zero, hn2, hz2, hx2, bQ2, cQ2, dQ2, eQ2, rQ, qQ, pQR, pQB, bR2, cR2, dR2, eR2, rR, qR, pRQ, pRB, bB2, cB2, dB2, eB2, rB, qB, pBQ, pBR]
  refine goC_out (c_need (s := (nameP l en (need l en s [102, 117, 110])).1) (l := l) (en := en) hlen hf2 (by first | omega | (simp only [go_sem, Nat.reduceBEq, Nat.reduceLeDiff, Nat.reduceEqDiff, Nat.reduceSub, Nat.reduceAdd, Int.reduceEq, Int.reduceLT, Int.reduceLE, Int.reduceAdd]; omega)) (by first | assumption | simp only [go_sem, Nat.reduceBEq, Nat.reduceLeDiff, Nat.reduceEqDiff, Nat.reduceSub, Nat.reduceAdd, Int.reduceEq, Int.reduceLT, Int.reduceLE, Int.reduceAdd, hg2, hn, hz, hn', Nat.add_zero, hn2, hz2, hx2, bQ2, cQ2, dQ2, eQ2, rQ, qQ, pQR, pQB, bR2, cR2, dR2, eR2, rR, qR, pRQ, pRB, bB2, cB2, dB2, eB2, rB, qB, pBQ, pBR]) [40] (by decide)) ?_ ?_
  case refine_2 =>
    intro q9 hq9 H9 had
    have hb9 : (funcP l en s).1.f = some q9 := by
      show (blockF l en FN (names l en (nameP l en (need l en s tFun)).1).1 0).1.f = some q9
      have hq8 : (names l en (nameP l en (need l en s tFun)).1).1.f = some q9 := by
        show (names l en (nameP l en (need l en s [102, 117, 110])).1).1.f = some q9
        simp only [names, listP_bad _ _ (ok_some hq9)]; exact hq9
      rw [blockF_bad (ok_some hq8)]
      exact hq8
    rw [outP_some hb9]
    simp only [go_sem, Nat.reduceBEq, Nat.reduceLeDiff, Nat.reduceEqDiff, Nat.reduceSub, Nat.reduceAdd, Int.reduceEq, Int.reduceLT, Int.reduceLE, Int.reduceAdd, san_trouble]
    (repeat first | exact Adv.refl _ _ | assumption | refine Adv.trans ?_ had | refine Adv.trans ?_ ha1 | refine Adv.trans ?_ ha2 | refine Adv.trans ?_ ha3 | refine Adv.trans ?_ ha4 | refine Adv.trans ?_ ha5 | refine Adv.trans ?_ ha6 | refine Adv.trans ?_ ha7 | refine Adv.trans ?_ ha8 | refine Adv.trans ?_ ha9 | refine Adv.trans ?_ ha10 | refine Adv.trans ?_ ha11 | refine Adv.trans ?_ ha12 | apply Adv.up | apply Adv.put | refine Adv.new ?_ (by omega) _ | refine Adv.live ?_ (by omega) _ | refine Adv.owns ?_ (by omega) (by first | exact OwnB.lo ‹_› | exact fun _ _ _ h => by cases h))
  intro hf3 H3 hg3 ha3
  have hl3 := ha3.1
  try simp only [go_sem, Nat.reduceBEq, Nat.reduceLeDiff, Nat.reduceEqDiff, Nat.reduceSub, Nat.reduceAdd, Int.reduceEq, Int.reduceLT, Int.reduceLE, Int.reduceAdd] at hl3
  have hr3 : r < H3.next := by omega
  have hn3 := ne_new hr3
  have hz3 := ne_new0 hr3
  have hx3 := ne_new' hr3
  have bQ3 : H3.get (H.next) = some ([.ptr r 0]) := (ha3.get (by first | omega | (simp only [go_sem, Nat.reduceBEq, Nat.reduceLeDiff, Nat.reduceEqDiff, Nat.reduceSub, Nat.reduceAdd, Int.reduceEq, Int.reduceLT, Int.reduceLE, Int.reduceAdd]; omega)) (by omega)).trans (by simp only [go_sem, Nat.reduceBEq, Nat.reduceLeDiff, Nat.reduceEqDiff, Nat.reduceSub, Nat.reduceAdd, Int.reduceEq, Int.reduceLT, Int.reduceLE, Int.reduceAdd, hg2, hn, hz, hn', Nat.add_zero, hn2, hz2, hx2, bQ2, cQ2, dQ2, eQ2, rQ, qQ, pQR, pQB, bR2, cR2, dR2, eR2, rR, qR, pRQ, pRB, bB2, cB2, dB2, eB2, rB, qB, pBQ, pBR])
  have cQ3 : ∀ j, (H3.next + j = H.next) = False := fun j => eq_false (by omega)
  have dQ3 : (H3.next = H.next) = False := eq_false (by omega)
  have eQ3 : ∀ j, (H.next = H3.next + j) = False := fun j => eq_false (by omega)
  have bR3 : H3.get (H.next + 1) = some ([.lit (.string (ba [])), .sl .nil [], .sl .nil []]) := (ha3.get (by first | omega | (simp only [go_sem, Nat.reduceBEq, Nat.reduceLeDiff, Nat.reduceEqDiff, Nat.reduceSub, Nat.reduceAdd, Int.reduceEq, Int.reduceLT, Int.reduceLE, Int.reduceAdd]; omega)) (by omega)).trans (by simp only [go_sem, Nat.reduceBEq, Nat.reduceLeDiff, Nat.reduceEqDiff, Nat.reduceSub, Nat.reduceAdd, Int.reduceEq, Int.reduceLT, Int.reduceLE, Int.reduceAdd, hg2, hn, hz, hn', Nat.add_zero, hn2, hz2, hx2, bQ2, cQ2, dQ2, eQ2, rQ, qQ, pQR, pQB, bR2, cR2, dR2, eR2, rR, qR, pRQ, pRB, bB2, cB2, dB2, eB2, rB, qB, pBQ, pBR])
  have cR3 : ∀ j, (H3.next + j = H.next + 1) = False := fun j => eq_false (by omega)
  have dR3 : (H3.next = H.next + 1) = False := eq_false (by omega)
  have eR3 : ∀ j, (H.next + 1 = H3.next + j) = False := fun j => eq_false (by omega)
  have bB3 : H3.get (H.next + 2) = some ([.lit (.string (ba (nameP l en (need l en s [102, 117, 110])).2)), .sl .nil [], .sl .nil []]) := (ha3.get (by first | omega | (simp only [go_sem, Nat.reduceBEq, Nat.reduceLeDiff, Nat.reduceEqDiff, Nat.reduceSub, Nat.reduceAdd, Int.reduceEq, Int.reduceLT, Int.reduceLE, Int.reduceAdd]; omega)) (by omega)).trans (by simp only [go_sem, Nat.reduceBEq, Nat.reduceLeDiff, Nat.reduceEqDiff, Nat.reduceSub, Nat.reduceAdd, Int.reduceEq, Int.reduceLT, Int.reduceLE, Int.reduceAdd, hg2, hn, hz, hn', Nat.add_zero, hn2, hz2, hx2, bQ2, cQ2, dQ2, eQ2, rQ, qQ, pQR, pQB, bR2, cR2, dR2, eR2, rR, qR, pRQ, pRB, bB2, cB2, dB2, eB2, rB, qB, pBQ, pBR])
  have cB3 : ∀ j, (H3.next + j = H.next + 2) = False := fun j => eq_false (by omega)
  have dB3 : (H3.next = H.next + 2) = False := eq_false (by omega)
  have eB3 : ∀ j, (H.next + 2 = H3.next + j) = False := fun j => eq_false (by omega)
  obtain ⟨_, hat1, hat2⟩ := need_lt (l := l) (en := en) (nameP l en (need l en s [102, 117, 110])).1 [40] (ok_none hf3)
  simp only [go_sem, Nat.reduceBEq, Nat.reduceLeDiff, Nat.reduceEqDiff, Nat.reduceSub, Nat.reduceAdd, Int.reduceEq, Int.reduceLT, Int.reduceLE, Int.reduceAdd, hg3, hn, hz, hn', Nat.add_zero, hn3, hz3, hx3, bQ3, cQ3, dQ3, eQ3, rQ, qQ, pQR, pQB, bR3, cR3, dR3, eR3, rR, qR, pRQ, pRB, bB3, cB3, dB3, eB3, rB, qB, pBQ, pBR]
  refine goC_LC (c_list (s := (need l en (nameP l en (need l en s [102, 117, 110])).1 [40])) (en := en) hlen (oneName_ok (l := l) (en := en) (r := r) hlen H H.next (H.next + 2) [(H.next + 1, [.lit (.string (ba [])), .sl .nil [], .sl .nil []])] (nameP l en (need l en s [102, 117, 110])).2) [41] (by decide) [] hf3 ⟨⟨hr, by omega, by simp only [go_sem, Nat.reduceBEq, Nat.reduceLeDiff, Nat.reduceEqDiff, Nat.reduceSub, Nat.reduceAdd, Int.reduceEq, Int.reduceLT, Int.reduceLE, Int.reduceAdd]; omega, by omega, by simp only [go_sem, Nat.reduceBEq, Nat.reduceLeDiff, Nat.reduceEqDiff, Nat.reduceSub, Nat.reduceAdd, Int.reduceEq, Int.reduceLT, Int.reduceLE, Int.reduceAdd]; omega, by omega, by simp only [go_sem, Nat.reduceBEq, Nat.reduceLeDiff, Nat.reduceEqDiff, Nat.reduceSub, Nat.reduceAdd, Int.reduceEq, Int.reduceLT, Int.reduceLE, Int.reduceAdd, hg3], by simp only [go_sem, Nat.reduceBEq, Nat.reduceLeDiff, Nat.reduceEqDiff, Nat.reduceSub, Nat.reduceAdd, Int.reduceEq, Int.reduceLT, Int.reduceLE, Int.reduceAdd, bQ3], ?_, hat2, fun x hx => ?_⟩, by simp, .nil, by simp only [go_sem, Nat.reduceBEq, Nat.reduceLeDiff, Nat.reduceEqDiff, Nat.reduceSub, Nat.reduceAdd, Int.reduceEq, Int.reduceLT, Int.reduceLE, Int.reduceAdd, bB3, List.map_nil], OwnB.nil _ _ _ _⟩) ?_ ?_
  · (repeat first | exact Adv.refl _ _ | assumption | refine Adv.trans ?_ had | refine Adv.trans ?_ ha1 | refine Adv.trans ?_ ha2 | refine Adv.trans ?_ ha3 | refine Adv.trans ?_ ha4 | refine Adv.trans ?_ ha5 | refine Adv.trans ?_ ha6 | refine Adv.trans ?_ ha7 | refine Adv.trans ?_ ha8 | refine Adv.trans ?_ ha9 | refine Adv.trans ?_ ha10 | refine Adv.trans ?_ ha11 | refine Adv.trans ?_ ha12 | apply Adv.up | apply Adv.put | refine Adv.new ?_ (by omega) _ | refine Adv.live ?_ (by omega) _ | refine Adv.owns ?_ (by omega) (by first | exact OwnB.lo ‹_› | exact fun _ _ _ h => by cases h))
  · simp only [List.mem_cons, List.not_mem_nil, or_false] at hx
    subst hx
    exact ⟨by simp only; omega, by simp only; omega, by simp only [go_sem, Nat.reduceBEq, Nat.reduceLeDiff, Nat.reduceEqDiff, Nat.reduceSub, Nat.reduceAdd, Int.reduceEq, Int.reduceLT, Int.reduceLE, Int.reduceAdd]; omega, by simp only [go_sem, Nat.reduceBEq, Nat.reduceLeDiff, Nat.reduceEqDiff, Nat.reduceSub, Nat.reduceAdd, Int.reduceEq, Int.reduceLT, Int.reduceLE, Int.reduceAdd, bR3]⟩
  case refine_4 =>
    intro q9 hq9 H9 had
    have hb9 : (funcP l en s).1.f = some q9 := by
      show (blockF l en FN (names l en (nameP l en (need l en s tFun)).1).1 0).1.f = some q9
      have hq8 : (names l en (nameP l en (need l en s tFun)).1).1.f = some q9 := hq9
      rw [blockF_bad (ok_some hq8)]
      exact hq8
    rw [outP_some hb9]
    simp only [go_sem, Nat.reduceBEq, Nat.reduceLeDiff, Nat.reduceEqDiff, Nat.reduceSub, Nat.reduceAdd, Int.reduceEq, Int.reduceLT, Int.reduceLE, Int.reduceAdd, san_trouble]
    exact had
  intro hfo H4 hI4
  obtain ⟨hL, hbn, o, g4, ho4⟩ := hI4
  have hg4 : H4.get r = some (cP l en (names l en (nameP l en (need l en s [102, 117, 110])).1).1) := hL.gr
  have ha4 := hL.ad
  have hl4 := hL.b1
  have hfo' : (names l en (nameP l en (need l en s [102, 117, 110])).1).1.f = none := hfo
  have hr4 : r < H4.next := by omega
  have hn4 := ne_new hr4
  have hz4 := ne_new0 hr4
  have hx4 := ne_new' hr4
  have bQ4 : H4.get (H.next) = some ([.ptr r 0]) := hL.gq
  have cQ4 : ∀ j, (H4.next + j = H.next) = False := fun j => eq_false (by omega)
  have dQ4 : (H4.next = H.next) = False := eq_false (by omega)
  have eQ4 : ∀ j, (H.next = H4.next + j) = False := fun j => eq_false (by omega)
  have bR4 : H4.get (H.next + 1) = some ([.lit (.string (ba [])), .sl .nil [], .sl .nil []]) := (hL.kk (H.next + 1, [.lit (.string (ba [])), .sl .nil [], .sl .nil []]) (by simp)).2.2.2
  have cR4 : ∀ j, (H4.next + j = H.next + 1) = False := fun j => eq_false (by omega)
  have dR4 : (H4.next = H.next + 1) = False := eq_false (by omega)
  have eR4 : ∀ j, (H.next + 1 = H4.next + j) = False := fun j => eq_false (by omega)
  have bB4 : H4.get (H.next + 2) = some ([.lit (.string (ba (nameP l en (need l en s [102, 117, 110])).2)), .sl o ((names l en (nameP l en (need l en s [102, 117, 110])).1).2.map encStr), .sl .nil []]) := g4
  have cB4 : ∀ j, (H4.next + j = H.next + 2) = False := fun j => eq_false (by omega)
  have dB4 : (H4.next = H.next + 2) = False := eq_false (by omega)
  have eB4 : ∀ j, (H.next + 2 = H4.next + j) = False := fun j => eq_false (by omega)
  simp only [go_sem, Nat.reduceBEq, Nat.reduceLeDiff, Nat.reduceEqDiff, Nat.reduceSub, Nat.reduceAdd, Int.reduceEq, Int.reduceLT, Int.reduceLE, Int.reduceAdd, hg4, hn, hz, hn', Nat.add_zero, hn4, hz4, hx4, bQ4, cQ4, dQ4, eQ4, rQ, qQ, pQR, pQB, bR4, cR4, dR4, eR4, rR, qR, pRQ, pRB, bB4, cB4, dB4, eB4, rB, qB, pBQ, pBR]
  have hblk := fun H hr hg => (c_pBlocks (en := en) hlen FN).2 r (names l en (nameP l en (need l en s [102, 117, 110])).1).1 0 H (rem_FN hlen _) (by omega) hfo' hr hg
  refine goC_out (hblk _ (by first | omega | (simp only [go_sem, Nat.reduceBEq, Nat.reduceLeDiff, Nat.reduceEqDiff, Nat.reduceSub, Nat.reduceAdd, Int.reduceEq, Int.reduceLT, Int.reduceLE, Int.reduceAdd]; omega)) (by first | assumption | simp only [go_sem, Nat.reduceBEq, Nat.reduceLeDiff, Nat.reduceEqDiff, Nat.reduceSub, Nat.reduceAdd, Int.reduceEq, Int.reduceLT, Int.reduceLE, Int.reduceAdd, hg4, hn, hz, hn', Nat.add_zero, hn4, hz4, hx4, bQ4, cQ4, dQ4, eQ4, rQ, qQ, pQR, pQB, bR4, cR4, dR4, eR4, rR, qR, pRQ, pRB, bB4, cB4, dB4, eB4, rB, qB, pBQ, pBR])) ?_ ?_
  case refine_2 =>
    intro q9 hq9 H9 had
    have hb9 : (funcP l en s).1.f = some q9 := by
      show (blockF l en FN (names l en (nameP l en (need l en s tFun)).1).1 0).1.f = some q9
      exact hq9
    rw [outP_some hb9]
    simp only [go_sem, Nat.reduceBEq, Nat.reduceLeDiff, Nat.reduceEqDiff, Nat.reduceSub, Nat.reduceAdd, Int.reduceEq, Int.reduceLT, Int.reduceLE, Int.reduceAdd, san_trouble]
    (repeat first | exact Adv.refl _ _ | assumption | refine Adv.trans ?_ had | refine Adv.trans ?_ ha1 | refine Adv.trans ?_ ha2 | refine Adv.trans ?_ ha3 | refine Adv.trans ?_ ha4 | refine Adv.trans ?_ ha5 | refine Adv.trans ?_ ha6 | refine Adv.trans ?_ ha7 | refine Adv.trans ?_ ha8 | refine Adv.trans ?_ ha9 | refine Adv.trans ?_ ha10 | refine Adv.trans ?_ ha11 | refine Adv.trans ?_ ha12 | apply Adv.up | apply Adv.put | refine Adv.new ?_ (by omega) _ | refine Adv.live ?_ (by omega) _ | refine Adv.owns ?_ (by omega) (by first | exact OwnB.lo ‹_› | exact fun _ _ _ h => by cases h))
  intro hf5 H5 hg5 ha5
  have hl5 := ha5.1
  try simp only [go_sem, Nat.reduceBEq, Nat.reduceLeDiff, Nat.reduceEqDiff, Nat.reduceSub, Nat.reduceAdd, Int.reduceEq, Int.reduceLT, Int.reduceLE, Int.reduceAdd] at hl5
  have hr5 : r < H5.next := by omega
  have hn5 := ne_new hr5
  have hz5 := ne_new0 hr5
  have hx5 := ne_new' hr5
  have bQ5 : H5.get (H.next) = some ([.ptr r 0]) := (ha5.get (by first | omega | (simp only [go_sem, Nat.reduceBEq, Nat.reduceLeDiff, Nat.reduceEqDiff, Nat.reduceSub, Nat.reduceAdd, Int.reduceEq, Int.reduceLT, Int.reduceLE, Int.reduceAdd]; omega)) (by omega)).trans (by simp only [go_sem, Nat.reduceBEq, Nat.reduceLeDiff, Nat.reduceEqDiff, Nat.reduceSub, Nat.reduceAdd, Int.reduceEq, Int.reduceLT, Int.reduceLE, Int.reduceAdd, hg4, hn, hz, hn', Nat.add_zero, hn4, hz4, hx4, bQ4, cQ4, dQ4, eQ4, rQ, qQ, pQR, pQB, bR4, cR4, dR4, eR4, rR, qR, pRQ, pRB, bB4, cB4, dB4, eB4, rB, qB, pBQ, pBR])
  have cQ5 : ∀ j, (H5.next + j = H.next) = False := fun j => eq_false (by omega)
  have dQ5 : (H5.next = H.next) = False := eq_false (by omega)
  have eQ5 : ∀ j, (H.next = H5.next + j) = False := fun j => eq_false (by omega)
  have bR5 : H5.get (H.next + 1) = some ([.lit (.string (ba [])), .sl .nil [], .sl .nil []]) := (ha5.get (by first | omega | (simp only [go_sem, Nat.reduceBEq, Nat.reduceLeDiff, Nat.reduceEqDiff, Nat.reduceSub, Nat.reduceAdd, Int.reduceEq, Int.reduceLT, Int.reduceLE, Int.reduceAdd]; omega)) (by omega)).trans (by simp only [go_sem, Nat.reduceBEq, Nat.reduceLeDiff, Nat.reduceEqDiff, Nat.reduceSub, Nat.reduceAdd, Int.reduceEq, Int.reduceLT, Int.reduceLE, Int.reduceAdd, hg4, hn, hz, hn', Nat.add_zero, hn4, hz4, hx4, bQ4, cQ4, dQ4, eQ4, rQ, qQ, pQR, pQB, bR4, cR4, dR4, eR4, rR, qR, pRQ, pRB, bB4, cB4, dB4, eB4, rB, qB, pBQ, pBR])
  have cR5 : ∀ j, (H5.next + j = H.next + 1) = False := fun j => eq_false (by omega)
  have dR5 : (H5.next = H.next + 1) = False := eq_false (by omega)
  have eR5 : ∀ j, (H.next + 1 = H5.next + j) = False := fun j => eq_false (by omega)
  have bB5 : H5.get (H.next + 2) = some ([.lit (.string (ba (nameP l en (need l en s [102, 117, 110])).2)), .sl o ((names l en (nameP l en (need l en s [102, 117, 110])).1).2.map encStr), .sl .nil []]) := (ha5.get (by first | omega | (simp only [go_sem, Nat.reduceBEq, Nat.reduceLeDiff, Nat.reduceEqDiff, Nat.reduceSub, Nat.reduceAdd, Int.reduceEq, Int.reduceLT, Int.reduceLE, Int.reduceAdd]; omega)) (by omega)).trans (by simp only [go_sem, Nat.reduceBEq, Nat.reduceLeDiff, Nat.reduceEqDiff, Nat.reduceSub, Nat.reduceAdd, Int.reduceEq, Int.reduceLT, Int.reduceLE, Int.reduceAdd, hg4, hn, hz, hn', Nat.add_zero, hn4, hz4, hx4, bQ4, cQ4, dQ4, eQ4, rQ, qQ, pQR, pQB, bR4, cR4, dR4, eR4, rR, qR, pRQ, pRB, bB4, cB4, dB4, eB4, rB, qB, pBQ, pBR])
  have cB5 : ∀ j, (H5.next + j = H.next + 2) = False := fun j => eq_false (by omega)
  have dB5 : (H5.next = H.next + 2) = False := eq_false (by omega)
  have eB5 : ∀ j, (H.next + 2 = H5.next + j) = False := fun j => eq_false (by omega)
  have hf5' : (funcP l en s).1.f = none := hf5
  rw [outP_none hf5']
  have eF : ([.lit (.string (ba (nameP l en (need l en s [102, 117, 110])).2)), .sl .sh ((names l en (nameP l en (need l en s [102, 117, 110])).1).2.map encStr), .sl .sh ((blockF l en FN (names l en (nameP l en (need l en s [102, 117, 110])).1).1 0).2.map encStmt)] : List AV) = encFunc (funcP l en s).2 := rfl
  have eS : (blockF l en FN (names l en (nameP l en (need l en s [102, 117, 110])).1).1 0).1 = (funcP l en s).1 := rfl
  simp only [go_sem, Nat.reduceBEq, Nat.reduceLeDiff, Nat.reduceEqDiff, Nat.reduceSub, Nat.reduceAdd, Int.reduceEq, Int.reduceLT, Int.reduceLE, Int.reduceAdd, hg5, hn, hz, hn', Nat.add_zero, hn5, hz5, hx5, bQ5, cQ5, dQ5, eQ5, rQ, qQ, pQR, pQB, bR5, cR5, dR5, eR5, rR, qR, pRQ, pRB, bB5, cB5, dB5, eB5, rB, qB, pBQ, pBR, rs, sanLL_encStr, sanLL_encStmt, eF, eS]
  (repeat first | exact Adv.refl _ _ | assumption | refine Adv.trans ?_ had | refine Adv.trans ?_ ha1 | refine Adv.trans ?_ ha2 | refine Adv.trans ?_ ha3 | refine Adv.trans ?_ ha4 | refine Adv.trans ?_ ha5 | refine Adv.trans ?_ ha6 | refine Adv.trans ?_ ha7 | refine Adv.trans ?_ ha8 | refine Adv.trans ?_ ha9 | refine Adv.trans ?_ ha10 | refine Adv.trans ?_ ha11 | refine Adv.trans ?_ ha12 | apply Adv.up | apply Adv.put | refine Adv.new ?_ (by omega) _ | refine Adv.live ?_ (by omega) _ | refine Adv.owns ?_ (by omega) (by first | exact OwnB.lo ‹_› | exact fun _ _ _ h => by cases h))
end
end Go.Proofs.YtghhkbigmmjanaaDoor.VA

/-! Pg0 -/
namespace Go.Proofs.YtghhkbigmmjanaaDoor.VA
open Go Go.RowKit
set_option linter.unusedSimpArgs false

structure CfgLe (c c2 : Cfg) : Prop where
  told : ∀ f h, c.told f = some h → c2.told f = some h
  fn : ∀ f fn, c.told f = none → c.fn f = some fn → c2.told f = none ∧ c2.fn f = some fn
  imp : c2.imp = c.imp
theorem call_cfg {P : Program} {c c2 : Cfg} (hl : CfgLe c c2) : ∀ k, KLe (call P c k) (call P c2 k) := by
  intro k
  induction k with
  | zero => intro f args H r h; simp [call] at h
  | succ k ih =>
    intro f args H r h
    simp only [call] at h ⊢
    cases ht : c.told f with
    | some g =>
      rw [ht] at h
      rw [hl.told f g ht]
      exact h
    | none =>
      rw [ht] at h
      simp only at h
      cases hf : c.fn f with
      | none => rw [hf] at h; cases h
      | some fn =>
        rw [hf] at h
        obtain ⟨h1, h2⟩ := hl.fn f fn ht hf
        rw [h1, h2, hl.imp]
        simp only at h ⊢
        cases hi : c.imp f with
        | true =>
          rw [hi] at h
          exact runFn_mono ih (Nat.le_refl k) h
        | false =>
          rw [hi] at h
          simp only at h ⊢
          split at h
          · rename_i v H' hrun
            rw [runFn_mono ih (Nat.le_refl k) hrun]
            exact h
          · cases h
theorem calls_cfg {P : Program} {c c2 : Cfg} (hl : CfgLe c c2) {f : FuncId} {args : List AV} {H : Heap} {r : CR} (h : calls P c f args H = some r) : calls P c2 f args H = some r := by
  obtain ⟨k, hk⟩ := calls_iff.1 h
  exact calls_iff.2 ⟨k, call_cfg hl k _ _ _ _ hk⟩

/-! ### pieces of code, in a world -/
theorem XS_wp {P : Program} {c : Cfg} (hc : CfgOk P c) {cd : Code} {e : List AV} {H : Heap} {x : Ex} {e1 : List AV} {H1 : Heap} (h : XS P c cd e H x e1 H1) {n : Nat} (hk : codeOk n cd = true) {g : Gh} {a : Act} {w : World}
    (hi : Inv g H w) (he : EnvRel g w e a.tmps) (hn : a.tmps.size = n) (ht : Top g H.next) (Q : Exit → Act → World → Prop)
    (hQ : ∀ g' x' a' w', Past H.next g w g' H1 w' → Kept cd a a' → a'.tmps.size = n → ExRel g' w' x' a' x e1 → Q x' a' w') : cd.wp P Q a w := by
  obtain ⟨k, hx⟩ := h.exec
  obtain ⟨m, hm⟩ := exec_fuel _ _ _ _ _ hx
  exact (exec_sound (call_ok hc m) hc.mixed k cd e H x e1 H1 hm hk g a w hi he hn ht Q hQ).1
theorem W_wp {P : Program} {c : Cfg} (hc : CfgOk P c) {cd : Code} {e : List AV} {H : Heap} {Q0 : Post} (h : W P c cd [] e H Q0) {n : Nat} (hk : codeOk n cd = true) {g : Gh} {a : Act} {w : World}
    (hi : Inv g H w) (he : EnvRel g w e a.tmps) (hn : a.tmps.size = n) (ht : Top g H.next) (Q : Exit → Act → World → Prop)
    (hQ : ∀ x e1 H1 g' x' a' w', Q0 x e1 H1 → Past H.next g w g' H1 w' → Kept cd a a' → a'.tmps.size = n → ExRel g' w' x' a' x e1 → Q x' a' w') : cd.wp P Q a w := by
  obtain ⟨x, e1, H1, h1, h2⟩ := h
  rw [Fin_nil] at h2
  exact XS_wp hc h1 hk hi he hn ht Q fun g' x' a' w' => hQ x e1 H1 g' x' a' w' h2
/-- The rest of a region whose order is the text's. -/
theorem WO_wp {P : Program} {c : Cfg} (hc : CfgOk P c) {ops : Array Oper} {i : Nat} {os : List Oper} {e : List AV} {H : Heap} {Q0 : Post} (h : WO P c (dsts ops) H.next os i [] e (H.up ops.size) Q0) (hos : os = ops.toList.drop i)
    {n : Nat} (hd : ∀ o, o ∈ os → dstOk n o = true) {g : Gh} {a : Act} {w : World} (hi : Inv g H w) (he : EnvRel g w e a.tmps) (hn : a.tmps.size = n) (ht : Top g H.next) (hil : i + os.length = ops.size) (Q : Exit → Act → World → Prop)
    (hQ : ∀ x e1 H1 g' x' a' w', Q0 x e1 H1 → Past H.next g w g' H1 w' → KeptL os a a' → a'.tmps.size = n → ExRel g' w' x' a' x e1 → Q x' a' w') : wpOps P ops Q (List.range' i os.length) a w := by
  obtain ⟨ops', hd', x, e1, H1, h1, h2⟩ := h
  rw [Fin_nil] at h2
  rw [runOps_ds hd'] at h1
  obtain ⟨m, hm⟩ := runOps_fuel _ _ _ _ _ h1
  have hi' : Inv g (H.up ops.size) w := hi.next (fun _ => rfl) (fun _ => rfl)
  refine runOps_sound (call_ok hc m) os i e (H.up ops.size) x e1 H1 hm hos hd g a w hi' he hn (ht.mono (by simp [Heap.up])) ?_ (by simp [Heap.up]; omega) Q fun g' x' a' w' => hQ x e1 H1 g' x' a' w' h2
  intro j h3 h4
  have := ht (H.next + j) (by omega)
  exact hi'.fresh_of this.1 this.2
end Go.Proofs.YtghhkbigmmjanaaDoor.VA

/-! Pg1 -/
namespace Go.Proofs.YtghhkbigmmjanaaDoor.VA
open Go Go.RowKit
attribute [local go_sem] Nat.add_eq_left Nat.left_eq_add true_and and_true ite_true if_false Int.cast_ofNat_Int eq_self Nat.add_assoc Option.some.injEq decide_true decide_false Bool.not_true Bool.not_false List.size_toArray List.length_cons List.length_nil
set_option linter.unusedSimpArgs false
set_option maxRecDepth 100000

/-! ### the reader's code, in three pieces -/
noncomputable def read0 : Code := match Tryd.f7.body with | some (.seq a _) => a | _ => .skip
noncomputable def read1 : Code := match Tryd.f7.body with | some (.seq _ (.seq a _)) => a | _ => .skip
noncomputable def read2 : Code := match Tryd.f7.body with | some (.seq _ (.seq _ a)) => a | _ => .skip
theorem read_body : Tryd.f7.body = some (.seq read0 (.seq read1 read2)) := rfl
/-- How the reader ends. -/
def RestQ (l : List GTok) (en : Int) : Post := fun x e H => match x with
  | .ret => (progF l en FN ⟨0, 0, none⟩ []).1.f = none ∧ gget .bad e 4 = .ptr 0 0 ∧ gget .bad e 5 = .ptr 1 0 ∧ (∃ o, H.get 0 = some [.sl o ((progF l en FN ⟨0, 0, none⟩ []).2.map encFunc)]) ∧ H.get 1 = some [.lit (.int .i64 0), .lit (.int .i64 0)]
  | .pan v => ∃ q, (progF l en FN ⟨0, 0, none⟩ []).1.f = some q ∧ v = encTrouble q.1 q.2 ∧ (∃ x, H.get 0 = some [x]) ∧ (∃ x y, H.get 1 = some [x, y])
  | _ => False
section
variable {l : List GTok} {en : Int} {e : List AV} {H : Heap}
@[go_sem] theorem RestQ_ret : RestQ l en .ret e H = ((progF l en FN ⟨0, 0, none⟩ []).1.f = none ∧ gget .bad e 4 = .ptr 0 0 ∧ gget .bad e 5 = .ptr 1 0 ∧ (∃ o, H.get 0 = some [.sl o ((progF l en FN ⟨0, 0, none⟩ []).2.map encFunc)]) ∧
    H.get 1 = some [.lit (.int .i64 0), .lit (.int .i64 0)]) := rfl
@[go_sem] theorem RestQ_pan {v : AV} : RestQ l en (.pan v) e H = (∃ q, (progF l en FN ⟨0, 0, none⟩ []).1.f = some q ∧ v = encTrouble q.1 q.2 ∧ (∃ x, H.get 0 = some [x]) ∧ (∃ x y, H.get 1 = some [x, y])) := rfl
set_option maxRecDepth 20000 in
theorem rest_run (hlen : l.length ≤ LM) (h0 : gget .bad e 0 = .sl .sh (l.map encG)) (h1 : gget .bad e 1 = .lit (.int .i64 en)) (h4 : gget .bad e 4 = .ptr 0 0) (h5 : gget .bad e 5 = .ptr 1 0) (g0 : H.get 0 = some [.sl .nil []])
    (g1 : H.get 1 = some [.lit (.int .i64 0), .lit (.int .i64 0)]) (hn : 2 ≤ H.next) : W Tryd.prog cfg read2 [] e H (RestQ l en) := by
  obtain ⟨m, hm⟩ : ∃ m, H.next = m + 2 := ⟨H.next - 2, by omega⟩
  generalize hq0 : progF l en FN ⟨0, 0, none⟩ [] = q
  have e0 : ([.sl .sh (l.map encG), .lit (.int .i64 0), .lit (.int .i64 en), .lit (.int .i64 0)] : List AV) = cP l en ⟨0, 0, none⟩ := rfl
  unfold read2
  simp only [Tryd.f7]
  simp only [go_sem, Nat.reduceBEq, Nat.reduceLeDiff, Nat.reduceEqDiff, Nat.reduceSub, Nat.reduceAdd, Int.reduceEq, Int.reduceLT, Int.reduceLE, Int.reduceAdd, h0, h1, h4, h5, g0, g1, hm, e0]
  refine W_loop_ind (fun x e H' => ∃ (s : PS) (acc : List GFunc) (o : Own) (k : Nat), x = ms l s ∧ ms l s < k ∧ s.f = none ∧ progF l en k s acc = q ∧ acc.length ≤ s.at_ ∧ acc.length ≤ l.length ∧
      gget .bad e 0 = .sl .sh (l.map encG) ∧ gget .bad e 4 = .ptr 0 0 ∧ gget .bad e 5 = .ptr 1 0 ∧ gget .bad e 6 = .ptr (m + 5) 0 ∧ H'.get 0 = some [.sl o (acc.map encFunc)] ∧ H'.get 1 = some [.lit (.int .i64 0), .lit (.int .i64 0)] ∧
      H'.get (m + 5) = some (cP l en s) ∧ m + 7 ≤ H'.next ∧ OwnB H' o 44 3 (m + 6))
    (ms l ⟨0, 0, none⟩) ⟨⟨0, 0, none⟩, [], .nil, FN, rfl, ms_FN hlen _, rfl, hq0, by simp, by simp, by simp only [go_sem, Nat.reduceBEq, Nat.reduceLeDiff, Nat.reduceEqDiff, Nat.reduceSub, Nat.reduceAdd, Int.reduceEq, Int.reduceLT, Int.reduceLE, Int.reduceAdd, h0], by simp only [go_sem, Nat.reduceBEq, Nat.reduceLeDiff, Nat.reduceEqDiff, Nat.reduceSub, Nat.reduceAdd, Int.reduceEq, Int.reduceLT, Int.reduceLE, Int.reduceAdd, h4], by simp only [go_sem, Nat.reduceBEq, Nat.reduceLeDiff, Nat.reduceEqDiff, Nat.reduceSub, Nat.reduceAdd, Int.reduceEq, Int.reduceLT, Int.reduceLE, Int.reduceAdd, h5], by simp only [go_sem, Nat.reduceBEq, Nat.reduceLeDiff, Nat.reduceEqDiff, Nat.reduceSub, Nat.reduceAdd, Int.reduceEq, Int.reduceLT, Int.reduceLE, Int.reduceAdd], by simp only [go_sem, Nat.reduceBEq, Nat.reduceLeDiff, Nat.reduceEqDiff, Nat.reduceSub, Nat.reduceAdd, Int.reduceEq, Int.reduceLT, Int.reduceLE, Int.reduceAdd, g0, List.map_nil], by simp only [go_sem, Nat.reduceBEq, Nat.reduceLeDiff, Nat.reduceEqDiff, Nat.reduceSub, Nat.reduceAdd, Int.reduceEq, Int.reduceLT, Int.reduceLE, Int.reduceAdd, g1], by simp only [go_sem, Nat.reduceBEq, Nat.reduceLeDiff, Nat.reduceEqDiff, Nat.reduceSub, Nat.reduceAdd, Int.reduceEq, Int.reduceLT, Int.reduceLE, Int.reduceAdd], by simp only [go_sem, Nat.reduceBEq, Nat.reduceLeDiff, Nat.reduceEqDiff, Nat.reduceSub, Nat.reduceAdd, Int.reduceEq, Int.reduceLT, Int.reduceLE, Int.reduceAdd, hm, Nat.le_refl], OwnB.nil _ _ _ _⟩ ?_
  rintro x ih e H ⟨s, acc, o, k, rfl, hk, hf, hq, hb1, hb2, h0, h4, h5, h6, g0, g1, g5, hnx, ho⟩
  have hok := ok_none hf
  by_cases hlt : s.at_ < l.length
  · have hlt' : decide ((s.at_ : Int) < (l.length : Nat)) = true := by simp; omega
    obtain ⟨k, rfl, h2⟩ := progF_more (en := en) (acc := acc) (s := s) (by rw [hok, Bool.true_and]; simp [hlt]) hk
    rw [h2] at hq
    simp only [go_sem, Nat.reduceBEq, Nat.reduceLeDiff, Nat.reduceEqDiff, Nat.reduceSub, Nat.reduceAdd, Int.reduceEq, Int.reduceLT, Int.reduceLE, Int.reduceAdd, h0, h4, h5, h6, g5, List.length_map, hlt']
    refine W_drawE [(1, 3)] [[1, 5, 6, 7], [5, 6, 7], [3, 4, 5, 6, 7], [4, 5, 6, 7], [5, 6, 7], [6, 7], [7], []] (by kernel_rfl) ?_
    simp only [go_sem, Nat.reduceBEq, Nat.reduceLeDiff, Nat.reduceEqDiff, Nat.reduceSub, Nat.reduceAdd, Int.reduceEq, Int.reduceLT, Int.reduceLE, Int.reduceAdd, h0, h4, h5, h6, g0, g1, g5]
    refine eK_out rfl (c_function (s := s) (l := l) (en := en) hlen hf (by simp only [go_sem, Nat.reduceBEq, Nat.reduceLeDiff, Nat.reduceEqDiff, Nat.reduceSub, Nat.reduceAdd, Int.reduceEq, Int.reduceLT, Int.reduceLE, Int.reduceAdd]; omega) (by simp only [go_sem, Nat.reduceBEq, Nat.reduceLeDiff, Nat.reduceEqDiff, Nat.reduceSub, Nat.reduceAdd, Int.reduceEq, Int.reduceLT, Int.reduceLE, Int.reduceAdd, g5])) ?_ ?_
    · intro hf1 H1 hg1 ha1
      have hl1 := ha1.1
      simp only [go_sem, Nat.reduceBEq, Nat.reduceLeDiff, Nat.reduceEqDiff, Nat.reduceSub, Nat.reduceAdd, Int.reduceEq, Int.reduceLT, Int.reduceLE, Int.reduceAdd] at hl1
      have b0 : H1.get 0 = some [.sl o (acc.map encFunc)] := (ha1.get (by simp only [go_sem, Nat.reduceBEq, Nat.reduceLeDiff, Nat.reduceEqDiff, Nat.reduceSub, Nat.reduceAdd, Int.reduceEq, Int.reduceLT, Int.reduceLE, Int.reduceAdd]; omega) (by omega)).trans (by simp only [go_sem, Nat.reduceBEq, Nat.reduceLeDiff, Nat.reduceEqDiff, Nat.reduceSub, Nat.reduceAdd, Int.reduceEq, Int.reduceLT, Int.reduceLE, Int.reduceAdd, g0])
      have b1 : H1.get 1 = some [.lit (.int .i64 0), .lit (.int .i64 0)] := (ha1.get (by simp only [go_sem, Nat.reduceBEq, Nat.reduceLeDiff, Nat.reduceEqDiff, Nat.reduceSub, Nat.reduceAdd, Int.reduceEq, Int.reduceLT, Int.reduceLE, Int.reduceAdd]; omega) (by omega)).trans (by simp only [go_sem, Nat.reduceBEq, Nat.reduceLeDiff, Nat.reduceEqDiff, Nat.reduceSub, Nat.reduceAdd, Int.reduceEq, Int.reduceLT, Int.reduceLE, Int.reduceAdd, g1])
      have hkeep := ha1.keeps (k := 0) (by simp only [go_sem, Nat.reduceBEq, Nat.reduceLeDiff, Nat.reduceEqDiff, Nat.reduceSub, Nat.reduceAdd, Int.reduceEq, Int.reduceLT, Int.reduceLE, Int.reduceAdd]; omega) (by omega)
      have ho1 := ((ho.up 7).up 8).adv ha1 (by omega)
      have hoA := ho1.appOk acc.length
      have hap := fun o x H id h => app_fun hlen (acc := acc) (by omega) o x H id h
      have hltf := funcP_lt (l := l) (en := en) s
      have hms := ms_lt hltf hok
      obtain ⟨_, q2, q3⟩ := hltf (ok_none hf1)
      have n0 : (0 = m + 5) = False := eq_false (by omega)
      have n1 : (1 = m + 5) = False := eq_false (by omega)
      simp only [go_sem, Nat.reduceBEq, Nat.reduceLeDiff, Nat.reduceEqDiff, Nat.reduceSub, Nat.reduceAdd, Int.reduceEq, Int.reduceLT, Int.reduceLE, Int.reduceAdd, h0, h4, h5, h6, b0, b1, hkeep, hap, hoA]
      exact ih _ hms _ _ ⟨_, _, _, k, rfl, by omega, hf1, hq, by simp only [List.length_append, List.length_cons, List.length_nil]; omega, by simp only [List.length_append, List.length_cons, List.length_nil]; omega, by simp only [go_sem, Nat.reduceBEq, Nat.reduceLeDiff, Nat.reduceEqDiff, Nat.reduceSub, Nat.reduceAdd, Int.reduceEq, Int.reduceLT, Int.reduceLE, Int.reduceAdd, h0], by simp only [go_sem, Nat.reduceBEq, Nat.reduceLeDiff, Nat.reduceEqDiff, Nat.reduceSub, Nat.reduceAdd, Int.reduceEq, Int.reduceLT, Int.reduceLE, Int.reduceAdd, h4], by simp only [go_sem, Nat.reduceBEq, Nat.reduceLeDiff, Nat.reduceEqDiff, Nat.reduceSub, Nat.reduceAdd, Int.reduceEq, Int.reduceLT, Int.reduceLE, Int.reduceAdd, h5], by simp only [go_sem, Nat.reduceBEq, Nat.reduceLeDiff, Nat.reduceEqDiff, Nat.reduceSub, Nat.reduceAdd, Int.reduceEq, Int.reduceLT, Int.reduceLE, Int.reduceAdd, h6],
        by simp only [go_sem, Nat.reduceBEq, Nat.reduceLeDiff, Nat.reduceEqDiff, Nat.reduceSub, Nat.reduceAdd, Int.reduceEq, Int.reduceLT, Int.reduceLE, Int.reduceAdd] <;> rfl, by simp only [go_sem, Nat.reduceBEq, Nat.reduceLeDiff, Nat.reduceEqDiff, Nat.reduceSub, Nat.reduceAdd, Int.reduceEq, Int.reduceLT, Int.reduceLE, Int.reduceAdd, b1], by simp only [go_sem, Nat.reduceBEq, Nat.reduceLeDiff, Nat.reduceEqDiff, Nat.reduceSub, Nat.reduceAdd, Int.reduceEq, Int.reduceLT, Int.reduceLE, Int.reduceAdd, n0, hg1], by simp only [go_sem, Nat.reduceBEq, Nat.reduceLeDiff, Nat.reduceEqDiff, Nat.reduceSub, Nat.reduceAdd, Int.reduceEq, Int.reduceLT, Int.reduceLE, Int.reduceAdd]; omega, (OwnB.app _ _ _ _ _ _ (by omega) (by omega)).put _ _⟩
    · intro q9 hq9 H1 had
      have b0 : H1.get 0 = some [.sl o (acc.map encFunc)] := (had.get (by simp only [go_sem, Nat.reduceBEq, Nat.reduceLeDiff, Nat.reduceEqDiff, Nat.reduceSub, Nat.reduceAdd, Int.reduceEq, Int.reduceLT, Int.reduceLE, Int.reduceAdd]; omega) (by omega)).trans (by simp only [go_sem, Nat.reduceBEq, Nat.reduceLeDiff, Nat.reduceEqDiff, Nat.reduceSub, Nat.reduceAdd, Int.reduceEq, Int.reduceLT, Int.reduceLE, Int.reduceAdd, g0])
      have b1 : H1.get 1 = some [.lit (.int .i64 0), .lit (.int .i64 0)] := (had.get (by simp only [go_sem, Nat.reduceBEq, Nat.reduceLeDiff, Nat.reduceEqDiff, Nat.reduceSub, Nat.reduceAdd, Int.reduceEq, Int.reduceLT, Int.reduceLE, Int.reduceAdd]; omega) (by omega)).trans (by simp only [go_sem, Nat.reduceBEq, Nat.reduceLeDiff, Nat.reduceEqDiff, Nat.reduceSub, Nat.reduceAdd, Int.reduceEq, Int.reduceLT, Int.reduceLE, Int.reduceAdd, g1])
      rw [progF_end (by rw [ok_some hq9, Bool.false_and])] at hq
      subst hq
      simp only [go_sem, Nat.reduceBEq, Nat.reduceLeDiff, Nat.reduceEqDiff, Nat.reduceSub, Nat.reduceAdd, Int.reduceEq, Int.reduceLT, Int.reduceLE, Int.reduceAdd, hq0]
      exact ⟨q9, hq9, rfl, ⟨_, b0⟩, _, _, b1⟩
  · have hlt' : decide ((s.at_ : Int) < (l.length : Nat)) = false := by simp; omega
    rw [progF_end (by simp [hlt])] at hq
    subst hq
    simp only [go_sem, Nat.reduceBEq, Nat.reduceLeDiff, Nat.reduceEqDiff, Nat.reduceSub, Nat.reduceAdd, Int.reduceEq, Int.reduceLT, Int.reduceLE, Int.reduceAdd, h0, h4, h5, h6, g0, g1, g5, List.length_map, hlt', hf, hq0]
    exact ⟨_, rfl⟩
end
end Go.Proofs.YtghhkbigmmjanaaDoor.VA

/-! Pg2 -/
namespace Go.Proofs.YtghhkbigmmjanaaDoor.VA
open Go Go.RowKit
attribute [local go_sem] Nat.add_eq_left Nat.left_eq_add true_and and_true ite_true if_false Int.cast_ofNat_Int eq_self Nat.add_assoc Option.some.injEq decide_true decide_false Bool.not_true Bool.not_false List.size_toArray List.length_cons List.length_nil
set_option linter.unusedSimpArgs false
set_option maxRecDepth 100000

theorem und_any : Tryd.prog.underlying 20 = some (.interface (Tryd.prog.methodsAt 20)) := by kernel_rfl
theorem catch_func : Tryd.prog.funcs[(13 : Nat)]? = some Tryd.f13 := rfl
theorem catch_idle (v0 v1 : Value) (w : World) :
    CallsD Tryd.prog 13 #[v0, v1] .returning w fun e u' w' => (∃ v, e = .returned v) ∧ u' = .returning ∧ w' = w := by
  have hnn : ∀ w, (binOp .neq 20 .nilIface .nilIface).run Tryd.prog w = .ok (.bool false) w := fun w => run_neq_nil_nil w _ und_any
  refine callsD_of_wpS catch_func rfl fun c₀ cs hu => ?_
  apply wpS_seq
  apply wpS_region
  simp [wpOpsS, go_sem, recoverD, hu, Exit.thenS]
  apply wpS_seq
  apply wpS_region
  simp [wpOpsS, go_sem, hnn, Exit.thenS]
  refine wpS_cond (t := false) (by simp [Act.eval]) ?_
  simp only [Bool.false_eq_true, if_false]
  refine wpS_of_wp (wp_skip ?_)
  cases c₀
  simp_all [bodyPostS, results, (show Tryd.f13.results = #[] from rfl)]
theorem trouble_inv {g : Gh} {w : World} {cd : Nat} {a : Int} {u : Value} (h : Rel g w (encTrouble cd a) u) : u = .iface 47 (.agg #[.int .i64 ((cd + 20 : Nat) : Int), .int .i64 a]) := by
  unfold encTrouble at h
  cases h with
  | ifc t x v h =>
    obtain ⟨vs, rfl, hL⟩ := h.agg_inv
    obtain ⟨l⟩ := vs
    have hL' : RelL g w [.lit (.int .i64 ((cd + 20 : Nat) : Int)), .lit (.int .i64 a)] l := hL
    match l, hL' with
    | [x, y], hL' => rw [hL'.head.lit_inv, hL'.tail.head.lit_inv]
    | [], hL' => exact absurd hL'.1 (by simp)
    | [_], hL' => exact absurd hL'.1 (by simp)
    | _ :: _ :: _ :: _, hL' => exact absurd hL'.1 (by simp)
theorem wpOps_step {P : Program} {ops : Array Oper} {Q : Exit → Act → World → Prop} {i : Nat} {rest : List Nat} {a : Act} {w : World} {o : Oper} {v : Value} (ho : ops[i]? = some o) (hg : o.guard = none) (hr : (execOp a.eval o).run P w = .ok (.value v) w)
    (h : wpOps P ops Q rest (a.put o.dst v) w) : wpOps P ops Q (i :: rest) a w := by
  simp only [wpOps, ho]
  rw [if_pos (by simp [Region.wanted, hg])]
  left
  simp only [Oper.wp, hr, Oper.upon_value]
  exact h
def CatchQ (k a : Int) : Post := fun x _ H => match x with
  | .nrm => H.get 0 = some [.sl .nil []] ∧ H.get 1 = some [.lit (.int .i64 k), .lit (.int .i64 a)]
  | _ => False
@[go_sem] theorem CatchQ_nrm {k a : Int} {e : List AV} {H : Heap} : CatchQ k a .nrm e H = (H.get 0 = some [.sl .nil []] ∧ H.get 1 = some [.lit (.int .i64 k), .lit (.int .i64 a)]) := rfl
def Catch2Q (N : Nat) (k a : Int) (x y z : AV) : Post := fun ex e H => match ex with
  | .nrm => gget .bad e 0 = .ptr 0 0 ∧ gget .bad e 1 = .ptr 1 0 ∧ gget .bad e 3 = .ptr (N + 5) 0 ∧ gget .bad e 4 = .lit (.bool true) ∧ H.get 0 = some [x] ∧ H.get 1 = some [y, z] ∧ H.get (N + 5) = some [.lit (.int .i64 k), .lit (.int .i64 a)] ∧ N + 8 ≤ H.next
  | _ => False
@[go_sem] theorem Catch2Q_nrm {N : Nat} {k a : Int} {x y z : AV} {e : List AV} {H : Heap} : Catch2Q N k a x y z .nrm e H = (gget .bad e 0 = .ptr 0 0 ∧ gget .bad e 1 = .ptr 1 0 ∧ gget .bad e 3 = .ptr (N + 5) 0 ∧ gget .bad e 4 = .lit (.bool true) ∧
    H.get 0 = some [x] ∧ H.get 1 = some [y, z] ∧ H.get (N + 5) = some [.lit (.int .i64 k), .lit (.int .i64 a)] ∧ N + 8 ≤ H.next) := rfl
set_option maxHeartbeats 1000000 in
theorem catch_pan (hcfg : CfgOk Tryd.prog cfg) {g : Gh} {H : Heap} {w : World} (hi : Inv g H w) (ht : Top g H.next) {v0 v1 u : Value} {cd : Nat} {a : Int} (h0 : Rel g w (.ptr 0 0) v0) (h1 : Rel g w (.ptr 1 0) v1) (hu : Rel g w (encTrouble cd a) u) {x y z : AV}
    (g0 : H.get 0 = some [x]) (g1 : H.get 1 = some [y, z]) (hn : 2 ≤ H.next) :
    CallsD Tryd.prog 13 #[v0, v1] (.panicking (oneEntry u)) w fun e u' w' => (∃ v, e = .returned v) ∧ u' = .panicking [{ v := u, recovered := true }] ∧
      ∃ g' H', Past H.next g w g' H' w' ∧ H'.get 0 = some [.sl .nil []] ∧ H'.get 1 = some [.lit (.int .i64 ((cd + 20 : Nat) : Int)), .lit (.int .i64 a)] := by
  obtain rfl := trouble_inv hu
  unfold encTrouble at hu
  generalize ((cd + 20 : Nat) : Int) = k at *
  have hnn : ∀ (x : Value) w, (binOp .neq 20 (.iface 47 x) .nilIface).run Tryd.prog w = .ok (.bool true) w := fun x w => run_neq_held_nil w _ _ _ und_any
  refine callsD_of_wpS catch_func rfl fun c₀ cs hc => ?_
  apply wpS_seq
  apply wpS_region
  simp [wpOpsS, go_sem, recoverD, hc, oneEntry, Exit.thenS]
  apply wpS_seq
  apply wpS_region
  simp [wpOpsS, go_sem, hnn, Exit.thenS]
  refine wpS_cond (t := true) (by simp [Act.eval]) ?_
  simp only [if_true]
  apply wpS_of_wp
  apply wp_seq
  apply wp_region
  show wpOps _ _ _ (0 :: 1 :: List.range' 2 6) _ _
  have hmk : ∀ (t : Array Value), t.getD 0 undef = v0 → t.getD 1 undef = v1 → t.getD 2 undef = Value.iface 47 (.agg #[.int .i64 k, .int .i64 a]) → EnvRel g w [.ptr 0 0, .ptr 1 0, .ifc 47 (.agg [.lit (.int .i64 k), .lit (.int .i64 a)])] t := by
    intro t t0 t1 t2 i
    match i with
    | 0 => rw [t0]; exact h0
    | 1 => rw [t1]; exact h1
    | 2 => rw [t2]; exact hu
    | n + 3 => exact .bad _
  have hta : ∀ (x : Value) w, (Instr.typeAssert (.iface 47 x) 20 47 true).run Tryd.prog w = .ok (.tuple #[x, .bool true]) w := by
    intro x w
    simp [Instr.typeAssert, run_underlying Tryd.underlying47 w]
  refine wpOps_step rfl rfl (v := Value.iface 47 (.agg #[.int .i64 k, .int .i64 a])) (by simp [execOp, Act.eval]) ?_
  refine wpOps_step rfl rfl (v := .tuple #[.agg #[.int .i64 k, .int .i64 a], .bool true]) ?_ ?_
  · simp [execOp, Act.eval, Act.put, hta]
  obtain ⟨m, hm⟩ : ∃ m, H.next = m + 2 := ⟨H.next - 2, by omega⟩
  have hn1 : (0 = m + 2 + 5) = False := eq_false (by omega)
  have hn2 : (1 = m + 2 + 5) = False := eq_false (by omega)
  refine WO_wp hcfg (H := H) (i := 2) (e := aput (aput [.ptr 0 0, .ptr 1 0, .ifc 47 (.agg [.lit (.int .i64 k), .lit (.int .i64 a)])] (some 9) (.ifc 47 (.agg [.lit (.int .i64 k), .lit (.int .i64 a)]))) (some 10) (.tup [.agg [.lit (.int .i64 k), .lit (.int .i64 a)], .lit (.bool true)]))
    (Q0 := Catch2Q H.next k a x y z) ?_ rfl (n := 19) ?_ hi ?_ ?_ ht rfl _ ?_
  · simp only [go_sem, Nat.reduceBEq, Nat.reduceLeDiff, Nat.reduceEqDiff, Nat.reduceSub, Nat.reduceAdd, Int.reduceEq, Int.reduceLT, Int.reduceLE, Int.reduceAdd, List.drop_succ_cons, List.drop_zero, List.toList_toArray, g0, g1, hm, Nat.le_refl]
  · decide
  · refine EnvRel.put (EnvRel.put (hmk _ (by simp) (by simp) (by simp)) (by intro d hd; cases hd; simp) hu) (by intro d hd; cases hd; simp [size_put]) (Rel.mk_tup (RelL.cons (Rel.mk_agg (RelL.cons (.lit _) (RelL.cons (.lit _) (RelL.nil _ _)))) (RelL.cons (.lit _) (RelL.nil _ _))))
  · simp [size_put]
  intro x1 e1 H1 g1' x1' a1 w1 hq hp hk hs hx
  cases x1 with
  | ret => exact hq.elim
  | exit j => exact hq.elim
  | pan v => exact hq.elim
  | nrm =>
  obtain ⟨rfl, hen⟩ := hx
  obtain ⟨q0, q1, q3, q4, b0, b1, b5, hnx⟩ := hq
  refine W_wp hcfg (Q0 := CatchQ k a) ?_ (n := 19) (by kernel_rfl) hp.inv hen hs hp.top _ ?_
  · obtain ⟨m1, hm1⟩ : ∃ m1, H1.next = m1 + 2 := ⟨H1.next - 2, by omega⟩
    have hn3 : (0 = H.next + 5) = False := eq_false (by omega)
    have hn4 : (1 = H.next + 5) = False := eq_false (by omega)
    have hn5 : (H.next + 5 = 0) = False := eq_false (by omega)
    have hn6 : (H.next + 5 = 1) = False := eq_false (by omega)
    simp only [go_sem, Nat.reduceBEq, Nat.reduceLeDiff, Nat.reduceEqDiff, Nat.reduceSub, Nat.reduceAdd, Int.reduceEq, Int.reduceLT, Int.reduceLE, Int.reduceAdd, q0, q1, q3, q4, b0, b1, b5, hm1]
    refine W_draw [(2, 3)] (by kernel_rfl) ?_
    simp only [go_sem, Nat.reduceBEq, Nat.reduceLeDiff, Nat.reduceEqDiff, Nat.reduceSub, Nat.reduceAdd, Int.reduceEq, Int.reduceLT, Int.reduceLE, Int.reduceAdd, q0, q1, q3, q4, b0, b1, b5, hm1, hn3, hn4, hn5, hn6]
  intro x2 e2 H2 g2' x2' a2 w2 hq2 hp2 hk2 hs2 hx2
  cases x2 with
  | ret => exact hq2.elim
  | exit j => exact hq2.elim
  | pan v => exact hq2.elim
  | nrm =>
  obtain ⟨rfl, hen2⟩ := hx2
  refine ⟨hk2.1.trans (hk.1.trans (by simp [defers_put])), _, rfl, .tuple #[], by simp [results, (show Tryd.f13.results = #[] from rfl)], ⟨_, rfl⟩, rfl, g2', H2, hp.trans hp2 hp.next, hq2.1, hq2.2⟩
end Go.Proofs.YtghhkbigmmjanaaDoor.VA

/-! Pg3 -/
namespace Go.Proofs.YtghhkbigmmjanaaDoor.VA
open Go Go.RowKit
attribute [local go_sem] Nat.add_eq_left Nat.left_eq_add true_and and_true ite_true if_false Int.cast_ofNat_Int eq_self Nat.add_assoc Option.some.injEq decide_true decide_false Bool.not_true Bool.not_false List.size_toArray List.length_cons List.length_nil
set_option linter.unusedSimpArgs false
set_option maxRecDepth 100000

theorem toks_inv : ∀ (es : List (List AV)) (l : List GTok), toks es = some l → es = l.map encG
  | [], l, h => by simp [toks] at h; subst h; rfl
  | e :: es, l, h => by
    have step : ∀ (k : Int) (t : ByteArray) (a : Int), e = [.lit (.int .i64 k), .lit (.string t), .lit (.int .i64 a)] → e :: es = l.map encG := by
      rintro k t a rfl
      simp only [toks] at h
      cases ht : toks es with
      | none => rw [ht] at h; cases h
      | some l' =>
        rw [ht] at h
        simp at h
        subst h
        rw [toks_inv es l' ht]
        simp only [List.map_cons, encG, ← ba_eta]
    unfold toks at h
    split at h
    · rename_i heq; cases heq
    · rename_i heq
      simp only [List.cons.injEq] at heq
      exact step _ _ _ heq.1
    · cases h
theorem tRead_inv {args : List AV} {v : AV} (h : tRead args = some v) : ∃ o l en, args = [.sl o (l.map encG), .lit (.int .i64 en)] ∧ l.length ≤ LM ∧ v = encRead (readP l en) := by
  unfold tRead at h
  split at h
  · rename_i o es en
    split at h
    · rename_i l hl
      split at h
      · rename_i hlen
        simp at h
        exact ⟨o, l, en, by rw [toks_inv es l hl], hlen, h.symm⟩
      · cases h
    · cases h
  · cases h
theorem wpOps_defer {P : Program} {ops : Array Oper} {Q : Exit → Act → World → Prop} {i : Nat} {rest : List Nat} {a : Act} {w : World} {o : Oper} {d : Deferred} (ho : ops[i]? = some o) (hg : o.guard = none) (hr : (execOp a.eval o).run P w = .ok (.defer d) w)
    (h : wpOps P ops Q rest ({ a with defers := d :: a.defers }.put o.dst undef) w) : wpOps P ops Q (i :: rest) a w := by
  simp only [wpOps, ho]
  rw [if_pos (by simp [Region.wanted, hg])]
  left
  simp only [Oper.wp, hr, Oper.upon_defer]
  exact h
/-- A call in memory of its own, seen by the caller. -/
theorem own_back {g g' : Gh} {H H' : Heap} {w w' : World} (hi : Inv g H w) (hp : Past 0 { lo := w.heap.size, vis := g.vis, box := fun _ => none, own := fun _ => none } w g' H' w') :
    Ext g w { g with vis := g'.vis } w' ∧ Inv { g with vis := g'.vis } H w' := by
  have hx := hp.ext
  have hsame : ∀ b, b < w.heap.size → w'.heap[b]? = w.heap[b]? := hx.low
  have hvis : ∀ b, b < w.heap.size → g'.vis b = g.vis b := hx.lowv
  have he : Ext g w { g with vis := g'.vis } w' :=
    ⟨rfl, hx.os, hx.tape, hx.output, hx.size, fun b hb => hsame b (Nat.lt_of_lt_of_le hb hi.lo), fun b hb => hvis b (Nat.lt_of_lt_of_le hb hi.lo), hx.vis, hx.cell, fun _ _ h => h, fun _ _ h => h⟩
  refine ⟨he, ⟨Nat.le_trans hi.lo hx.size, hp.inv.fresh, ?_, hi.boxI, ?_, ?_, hi.liveI⟩⟩
  · intro r b hb
    obtain ⟨h1, h2, h3⟩ := hi.boxB r b hb
    exact ⟨h1, Nat.lt_of_lt_of_le h2 hx.size, by rw [← h3]; exact hvis b h2⟩
  · intro r cs hr
    obtain ⟨b, vs, t, h1, h2, h3⟩ := hi.box r cs hr
    exact ⟨b, vs, t, h1, by rw [hsame b (hi.boxB r b h1).2.1]; exact h2, h3.ext he⟩
  · intro s hs
    obtain ⟨b, n, cap, e, sz, vs, h1, h2, h3, h4, h5, h6, h7, h8⟩ := hi.live s hs
    have hlt : b < w.heap.size := (Array.getElem?_eq_some_iff.1 h3).1
    exact ⟨b, n, cap, e, sz, vs, h1, h2, by rw [hsame b hlt]; exact h3, h4, h5, h6, by rw [← h7]; exact hvis b hlt, h8⟩
def Read0Q (l : List GTok) (en : Int) : Post := fun x e H => match x with
  | .nrm => gget .bad e 0 = .sl .sh (l.map encG) ∧ gget .bad e 1 = .lit (.int .i64 en) ∧ gget .bad e 4 = .ptr 0 0 ∧ gget .bad e 5 = .ptr 1 0 ∧ H.get 0 = some [.sl .nil []] ∧ H.get 1 = some [.lit (.int .i64 0), .lit (.int .i64 0)] ∧ H.next = 2
  | _ => False
@[go_sem] theorem Read0Q_nrm {l : List GTok} {en : Int} {e : List AV} {H : Heap} : Read0Q l en .nrm e H = (gget .bad e 0 = .sl .sh (l.map encG) ∧ gget .bad e 1 = .lit (.int .i64 en) ∧ gget .bad e 4 = .ptr 0 0 ∧ gget .bad e 5 = .ptr 1 0 ∧
    H.get 0 = some [.sl .nil []] ∧ H.get 1 = some [.lit (.int .i64 0), .lit (.int .i64 0)] ∧ H.next = 2) := rfl
theorem read0_run (l : List GTok) (en : Int) : W Tryd.prog cfg read0 [] [.sl .sh (l.map encG), .lit (.int .i64 en)] Heap.empty (Read0Q l en) := by
  unfold read0
  simp only [Tryd.f7]
  simp only [go_sem, Nat.reduceBEq, Nat.reduceLeDiff, Nat.reduceEqDiff, Nat.reduceSub, Nat.reduceAdd, Int.reduceEq, Int.reduceLT, Int.reduceLE, Int.reduceAdd]
/-- From the two results, as they lie, to what the reader answers. -/
theorem read_fin {l : List GTok} {en : Int} {g g' : Gh} {H H' : Heap} {w w' : World} {e : List AV} {tmps : Array Value} {o : Own} {fs : List GFunc} {k : Nat} {a : Int} (hi : Inv g H w)
    (hp : Past 0 { lo := w.heap.size, vis := g.vis, box := fun _ => none, own := fun _ => none } w g' H' w') (he : EnvRel g' w' e tmps) (e4 : gget .bad e 4 = .ptr 0 0) (e5 : gget .bad e 5 = .ptr 1 0)
    (b0 : H'.get 0 = some [.sl o (fs.map encFunc)]) (b1 : H'.get 1 = some [.lit (.int .i64 (k : Nat)), .lit (.int .i64 a)]) (hr : readP l en = (fs, k, a)) :
    ∃ v, (results Tryd.f7 tmps).run Tryd.prog w' = .ok v w' ∧ ∃ u g1, Ending.returned v = .returned u ∧ Ext g w g1 w' ∧ Inv g1 H w' ∧ g1.box = g.box ∧ g1.own = g.own ∧ Rel g1 w' (encRead (readP l en)) u := by
  have hres : aResults Tryd.prog e H' Tryd.f7.results.toList = some [.agg [.sl o (fs.map encFunc)], .agg [.lit (.int .i64 (k : Nat)), .lit (.int .i64 a)]] := by
    have rs : Tryd.f7.results.toList = [.cell 4 25, .cell 5 28] := rfl
    simp only [go_sem, Nat.reduceBEq, Nat.reduceLeDiff, Nat.reduceEqDiff, Nat.reduceSub, Nat.reduceAdd, Int.reduceEq, Int.reduceLT, Int.reduceLE, Int.reduceAdd, rs, e4, e5, b0, b1]
  obtain ⟨u, h1, h2⟩ := results_sound hres hp.inv he
  obtain ⟨hx, hv⟩ := own_back hi hp
  refine ⟨u, h1, u, _, rfl, hx, hv, rfl, rfl, ?_⟩
  have h3 := h2.san (g' := { g with vis := g'.vis }) (fun _ => Nat.le_refl _)
  rw [hr]
  have h4 : san (oneOr [.agg [.sl o (fs.map encFunc)], .agg [.lit (.int .i64 (k : Nat)), .lit (.int .i64 a)]]) = encRead (fs, k, a) := by
    simp only [go_sem, Nat.reduceBEq, Nat.reduceLeDiff, Nat.reduceEqDiff, Nat.reduceSub, Nat.reduceAdd, Int.reduceEq, Int.reduceLT, Int.reduceLE, Int.reduceAdd, encRead]
  rw [← h4]
  exact h3
end Go.Proofs.YtghhkbigmmjanaaDoor.VA

/-! Pg4 -/
namespace Go.Proofs.YtghhkbigmmjanaaDoor.VA
open Go Go.RowKit
set_option linter.unusedSimpArgs false
set_option maxRecDepth 100000

theorem read_func : Tryd.prog.funcs[(7 : Nat)]? = some Tryd.f7 := rfl
theorem getD_init (vs : Array Value) (m : Nat) (h : vs.size = 2) : (vs ++ Array.replicate m undef).size = m + 2 := by simp [h]; omega
set_option maxHeartbeats 1000000 in
theorem read_calls (hcfg : CfgOk Tryd.prog cfg) {l : List GTok} {en : Int} (hlen : l.length ≤ LM) {o : Own} {g : Gh} {H : Heap} {w : World} {vs : Array Value} (hi : Inv g H w) (hr : RelL g w [.sl o (l.map encG), .lit (.int .i64 en)] vs.toList) :
    Calls Tryd.prog 7 vs w fun en' w' => ∃ u g', en' = .returned u ∧ Ext g w g' w' ∧ Inv g' H w' ∧ g'.box = g.box ∧ g'.own = g.own ∧ Rel g' w' (encRead (readP l en)) u := by
  have hvs : vs.size = 2 := by have := hr.1; simpa using this.symm
  have hr0 : RelL { lo := w.heap.size, vis := g.vis, box := fun _ => none, own := fun _ => none } w [.sl .sh (l.map encG), .lit (.int .i64 en)] vs.toList := by
    have := hr.san (g' := { lo := w.heap.size, vis := g.vis, box := fun _ => none, own := fun _ => none }) (fun _ => Nat.le_refl _)
    simpa only [sanL, san, sanLL_encG] using this
  refine calls_of_wp_defers read_func read_body ?_
  apply wp_seq
  have hsz : (vs ++ Array.replicate (Tryd.f7.ntmps - vs.size) undef).size = 28 := by rw [hvs]; exact getD_init vs 26 hvs
  refine W_wp hcfg (read0_run l en) (n := 28) (by kernel_rfl) (inv_empty hi) (env_init hr0 _) hsz (fun _ _ => ⟨rfl, rfl⟩) _ ?_
  intro x1 e1 H1 g1 x1' a1 w1 hq1 hp1 hk1 hs1 hx1
  cases x1 with
  | ret => exact hq1.elim
  | exit j => exact hq1.elim
  | pan v => exact hq1.elim
  | nrm =>
  obtain ⟨rfl, hen1⟩ := hx1
  obtain ⟨q0, q1, q4, q5, b0, b1, hnx⟩ := hq1
  have r4 : Rel g1 w1 (.ptr 0 0) (a1.tmps.getD 4 undef) := by have := hen1 4; rwa [q4] at this
  have r5 : Rel g1 w1 (.ptr 1 0) (a1.tmps.getD 5 undef) := by have := hen1 5; rwa [q5] at this
  show (Code.seq read1 read2).wp _ _ _ _
  apply wp_seq
  unfold read1
  simp only [Tryd.f7]
  apply wp_region
  show wpOps _ _ _ [0, 1] _ _
  refine wpOps_step rfl rfl (v := .func (.func 13) #[] #[a1.tmps.getD 4 undef, a1.tmps.getD 5 undef]) (by simp [execOp, Act.eval, Instr.makeFunc]) ?_
  refine wpOps_defer rfl rfl (d := { target := .fn (.func 13) #[a1.tmps.getD 4 undef, a1.tmps.getD 5 undef], args := #[] }) ?_ ?_
  · simp [execOp, resolve, Deferred.ofValue, Act.eval, Act.put, hs1]
  show Code.wp _ read2 _ _ _
  have hd1 : a1.defers = [] := hk1.1
  generalize hp4 : a1.tmps.getD 4 undef = p4 at r4 r5
  generalize hp5 : a1.tmps.getD 5 undef = p5 at r5
  have hen2 : EnvRel g1 w1 (aput e1 (some 7) .bad) (a1.put (some 7) (.func (.func 13) #[] #[p4, p5])).tmps := hen1.put (by intro d hd; simp only [Option.some.injEq] at hd; subst hd; rw [hs1]; decide) (.bad _)
  have hinv : ∀ w : World, (invoke (.fn (.func 13) #[p4, p5]) #[]).run Tryd.prog w = .ok (.enter 13 #[p4, p5]) w := fun w => by
    simp only [invoke, Array.empty_append, List.nil_append]
    exact callFunc_enter catch_func (by decide) rfl _ _
  show Code.wp _ read2 _ { tmps := (a1.put (some 7) (.func (.func 13) #[] #[p4, p5])).tmps, defers := { target := .fn (.func 13) #[p4, p5], args := #[] } :: a1.defers } w1
  refine W_wp hcfg (rest_run (l := l) (en := en) (e := aput e1 (some 7) .bad) hlen (by simp only [aput, gget_gset]; exact q0) (by simp only [aput, gget_gset]; exact q1) (by simp only [aput, gget_gset]; exact q4) (by simp only [aput, gget_gset]; exact q5) b0 b1 (by omega)) (n := 28) (by kernel_rfl) hp1.inv ?_ ?_ hp1.top _ ?_
  · exact hen2
  · show (a1.put (some 7) _).tmps.size = 28
    rw [size_put, hs1]
  intro x3 e3 H3 g3 x3' a3 w3 hq3 hp3 hk3 hs3 hx3
  have hd3 : a3.defers = [{ target := .fn (.func 13) #[p4, p5], args := #[] }] := by
    rw [hk3.1]; simp [hd1]
  have hpp := hp1.trans hp3 hp1.next
  have r4' := r4.ext hp3.ext
  have r5' := r5.ext hp3.ext
  cases x3 with
  | nrm => exact hq3.elim
  | exit j => exact hq3.elim
  | ret =>
    obtain ⟨hf, c4, c5, ⟨o3, d0⟩, d1⟩ := hq3
    obtain ⟨rfl, hen3⟩ := hx3
    show Leaves _ _ _ _ a3.defers .returning w3
    rw [hd3]
    refine leaves_cons (by simp) (hinv w3) ?_
    refine (catch_idle p4 p5 w3).mono ?_
    rintro en' u' w4 ⟨⟨v, rfl⟩, rfl, rfl⟩
    have hrd : readP l en = ((progF l en FN ⟨0, 0, none⟩ []).2, 0, 0) := by simp only [readP, hf]
    exact read_fin (k := 0) hi hpp hen3 c4 c5 d0 d1 hrd
  | pan v =>
    obtain ⟨q, hf, rfl, ⟨x, d0⟩, y, z, d1⟩ := hq3
    obtain ⟨u, rfl, hu⟩ := hx3
    show Leaves _ _ _ _ a3.defers (.panicking (oneEntry u)) w3
    rw [hd3]
    refine leaves_cons (by simp) (hinv w3) ?_
    refine (catch_pan hcfg hp3.inv hp3.top r4' r5' hu d0 d1 (by have := hp3.next; omega)).mono ?_
    rintro en' u' w4 ⟨⟨v, rfl⟩, rfl, g4, H4, hp6, c0, c1⟩
    have hrd : readP l en = ([], q.1 + 20, q.2) := by simp only [readP, hf]
    have k4 : a3.tmps.getD 4 undef = p4 := by rw [hk3.2 4 (by kernel_rfl), ← hp4]; simp [Act.put, Array.getD_eq_getD_getElem?]
    have k5 : a3.tmps.getD 5 undef = p5 := by rw [hk3.2 5 (by kernel_rfl), ← hp5]; simp [Act.put, Array.getD_eq_getD_getElem?]
    have hen4 : EnvRel g4 w4 [.bad, .bad, .bad, .bad, .ptr 0 0, .ptr 1 0] a3.tmps := by
      intro i
      match i with
      | 0 => exact .bad _
      | 1 => exact .bad _
      | 2 => exact .bad _
      | 3 => exact .bad _
      | 4 => rw [k4]; exact r4'.ext hp6.ext
      | 5 => rw [k5]; exact r5'.ext hp6.ext
      | n + 6 => exact .bad _
    exact read_fin (fs := []) hi (hpp.trans hp6 hpp.next) hen4 rfl rfl c0 c1 hrd
theorem read_told (hcfg : CfgOk Tryd.prog cfg) : ToldOk Tryd.prog 7 tRead := by
  refine ⟨fun vs w => callFunc_enter read_func (by decide) read_body vs w, fun args v h g H w vs hi hr => ?_⟩
  obtain ⟨o, l, en, rfl, hlen, rfl⟩ := tRead_inv h
  exact read_calls hcfg hlen hi hr
end Go.Proofs.YtghhkbigmmjanaaDoor.VA

/-! Pj0 -/
namespace Go.Proofs.YtghhkbigmmjanaaDoor.VA
open Go Go.RowKit
set_option linter.unusedSimpArgs false

section
variable {l : List GTok} {en : Int}
/-- The parser's steps. -/
inductive Reach (l : List GTok) (en : Int) : PS → PS → Prop
  | refl (s : PS) : Reach l en s s
  | adv {s : PS} {x : GTok} (h : tk l s = some x) : Reach l en s s.adv
  | fail (s : PS) : Reach l en s (pfail l en s 0)
  | failAt {s : PS} {x : GTok} (c : Nat) (h : tk l s = some x) : Reach l en s (pfail l en s c)
  | count (s : PS) : Reach l en s s.count
  | trans {a b c : PS} (h : Reach l en a b) (k : Reach l en b c) : Reach l en a c
theorem Reach.isT {s : PS} {t : List UInt8} (h : isT l s t = true) : Reach l en s s.adv := let ⟨_, h, _⟩ := isT_some h; .adv h
theorem need_r (s : PS) (t : List UInt8) : Reach l en s (need l en s t) := by
  unfold need
  cases h : isT l s t with
  | true => exact .isT h
  | false => exact .fail s
theorem nameP_r (s : PS) : Reach l en s (nameP l en s).1 := by
  unfold nameP
  cases h : isName l s with
  | true => obtain ⟨x, h, _⟩ := isName_some h; exact .adv h
  | false => exact .fail s
theorem operand_r (s : PS) : Reach l en s (operand l en s).1 := by
  unfold operand
  cases h1 : isT l s tNull with
  | true => exact .isT h1
  | false =>
  cases h2 : isT l s tTrue with
  | true => exact .isT h2
  | false =>
  cases h3 : isT l s tFalse with
  | true => exact .isT h3
  | false =>
  cases h4 : isT l s [38] with
  | true => exact (Reach.isT h4).trans (nameP_r _)
  | false =>
  cases h5 : isNum l s with
  | true => obtain ⟨x, h, _⟩ := isNum_some h5; exact .adv h
  | false => exact nameP_r _
theorem listF_r {X : Type} {one : PS → X → PS × X} (h1 : ∀ s x, Reach l en s (one s x).1) (end_ : List UInt8) : ∀ (n : Nat) (s : PS) (x : X), Reach l en s (listF l en one end_ n s x).1
  | 0, s, x => Reach.refl s
  | n + 1, s, x => by
    unfold listF
    cases s.ok with
    | false => exact Reach.refl s
    | true =>
      simp only
      cases h : isT l (one s x).1 end_ with
      | true => exact (h1 s x).trans (.isT h)
      | false => exact ((h1 s x).trans (need_r _ _)).trans (listF_r h1 end_ n _ _)
theorem listP_r {X : Type} {one : PS → X → PS × X} (h1 : ∀ s x, Reach l en s (one s x).1) (end_ : List UInt8) (s : PS) (x : X) : Reach l en s (listP l en one end_ s x).1 := by
  unfold listP
  cases h : isT l s end_ with
  | true => exact .isT h
  | false => exact listF_r h1 _ _ _ _
theorem oneArg_r (s : PS) (x : List Opd) : Reach l en s (oneArg l en s x).1 := operand_r s
theorem oneName_r (s : PS) (x : List (List UInt8)) : Reach l en s (oneName l en s x).1 := nameP_r s
theorem oneProp_r (s : PS) (x : List (List UInt8) × List Opd) : Reach l en s (oneProp l en s x).1 := (nameP_r s).trans ((need_r _ _).trans (operand_r _))
theorem args_r (s : PS) : Reach l en s (args l en s).1 := (need_r _ _).trans (listP_r oneArg_r _ _ _)
theorem names_r (s : PS) : Reach l en s (names l en s).1 := (need_r _ _).trans (listP_r oneName_r _ _ _)
theorem propsP_r (s : PS) : Reach l en s (propsP l en s).1 := (need_r _ _).trans (listP_r oneProp_r _ _ _)
theorem protoP_r (s : PS) : Reach l en s (protoP l en s).1 := (need_r _ _).trans (operand_r _)
theorem object_r (s : PS) : Reach l en s (object l en s).1 := (propsP_r s).trans (protoP_r _)
theorem rest_r (s : PS) (o : Opd) : Reach l en s (rest l en s o).1 := by
  unfold rest
  cases h : signOf l s arith with
  | some t => exact (Reach.isT (signOf_some h).1).trans (operand_r _)
  | none =>
    simp only
    cases h1 : decide (o.kind = 4) && isT l s [40] with
    | true => exact args_r s
    | false =>
      simp only
      cases h2 : decide (o.kind = 4) && isT l s [46] with
      | true =>
        rw [Bool.and_eq_true] at h2
        exact (Reach.isT h2.2).trans (nameP_r _)
      | false => exact .refl s
theorem value_r (s : PS) : Reach l en s (value l en s).1 := by
  unfold value
  cases h1 : isT l s tIn with
  | true => exact .isT h1
  | false =>
  cases h2 : isT l s tCall with
  | true => exact (Reach.isT h2).trans ((nameP_r _).trans (args_r _))
  | false =>
  cases h3 : isT l s tNew with
  | true => exact (Reach.isT h3).trans (object_r _)
  | false => exact (operand_r _).trans (rest_r _ _)
theorem assign_r (s : PS) : Reach l en s (assign l en s).1 := by
  unfold assign
  cases h1 : isT l (nameP l en s).1 [46] with
  | true => exact (nameP_r s).trans ((Reach.isT h1).trans ((nameP_r _).trans ((need_r _ _).trans (operand_r _))))
  | false => exact (nameP_r s).trans ((need_r _ _).trans (value_r _))
theorem simple_r (s : PS) : Reach l en s (simple l en s).1 := by
  unfold simple
  cases h1 : isT l s tOut with
  | true => exact (Reach.isT h1).trans (operand_r _)
  | false =>
  cases h2 : isT l s tReturn with
  | true => exact (Reach.isT h2).trans (operand_r _)
  | false => exact assign_r s
theorem starts_tk {s : PS} (h : starts l s = true) : ∃ x, tk l s = some x := by
  unfold starts at h
  simp only [Bool.or_eq_true] at h
  rcases h with (((h | h) | h) | h) | h
  · obtain ⟨x, h, _⟩ := isName_some h; exact ⟨x, h⟩
  all_goals (obtain ⟨x, h, _⟩ := isT_some h; exact ⟨x, h⟩)
theorem blocks_r : ∀ (n : Nat), (∀ s deep, Reach l en s (stmtF l en n s deep).1) ∧ (∀ s deep, Reach l en s (blockF l en n s deep).1) ∧ (∀ s deep acc, Reach l en s (bodyF l en n s deep acc).1) := by
  intro n
  induction n with
  | zero => exact ⟨fun s _ => .fail s, fun s _ => .fail s, fun s _ _ => .fail s⟩
  | succ n ih =>
    obtain ⟨ih1, ih2, ih3⟩ := ih
    refine ⟨fun s deep => ?_, fun s deep => ?_, fun s deep acc => ?_⟩
    · unfold stmtF
      cases hs : starts l s with
      | false => exact .fail s
      | true =>
      cases decide (2000 ≤ s.cnt) with
      | true => obtain ⟨x, hx⟩ := starts_tk hs; exact .failAt 2 hx
      | false =>
      cases h1 : isT l s tIf with
      | true =>
        have h2 : Reach l en s (blockF l en n (operand l en s.count.adv).1 deep).1 := ((Reach.count s).trans (Reach.isT (s := s.count) h1)).trans ((operand_r _).trans (ih2 _ _))
        simp only
        cases h3 : isT l (blockF l en n (operand l en s.count.adv).1 deep).1 tElse with
        | true => exact h2.trans ((Reach.isT h3).trans (ih2 _ _))
        | false => exact h2
      | false =>
      cases h2 : isT l s tWhile with
      | true => exact ((Reach.count s).trans (Reach.isT (s := s.count) h2)).trans ((operand_r _).trans (ih2 _ _))
      | false => exact ((Reach.count s).trans (simple_r s.count)).trans (need_r _ _)
    · unfold blockF
      cases hd : isT l s [123] && decide (32 ≤ deep) with
      | true =>
        rw [Bool.and_eq_true] at hd
        obtain ⟨x, hx, _⟩ := isT_some hd.1
        exact .failAt 1 hx
      | false => exact (need_r _ _).trans (ih3 _ _ _)
    · unfold bodyF
      cases s.ok && !isT l s [125] with
      | true => exact (ih1 _ _).trans (ih3 _ _ _)
      | false => exact need_r _ _
theorem stmtF_r (n : Nat) (s : PS) (deep : Nat) : Reach l en s (stmtF l en n s deep).1 := (blocks_r n).1 s deep
theorem blockF_r (n : Nat) (s : PS) (deep : Nat) : Reach l en s (blockF l en n s deep).1 := (blocks_r n).2.1 s deep
theorem bodyF_r (n : Nat) (s : PS) (deep : Nat) (acc : List GStmt) : Reach l en s (bodyF l en n s deep acc).1 := (blocks_r n).2.2 s deep acc
theorem funcP_r (s : PS) : Reach l en s (funcP l en s).1 := (need_r _ _).trans ((nameP_r _).trans ((names_r _).trans (blockF_r _ _ _)))
theorem progF_r : ∀ (n : Nat) (s : PS) (acc : List GFunc), Reach l en s (progF l en n s acc).1
  | 0, s, acc => .refl s
  | n + 1, s, acc => by
    unfold progF
    cases s.ok && decide (s.at_ < l.length) with
    | false => exact .refl s
    | true => exact (funcP_r s).trans (progF_r n _ _)

/-! ### a fault stays, and tells its place -/
theorem Reach.stuck {s s' : PS} (h : Reach l en s s') {q : Nat × Int} (hf : s.f = some q) : s'.f = some q := by
  induction h with
  | refl s => exact hf
  | adv h => exact hf
  | fail s => simp [pfail, hf]
  | failAt c h => simp [pfail, hf]
  | count s => exact hf
  | trans h k ih1 ih2 => exact ih2 (ih1 hf)
/-- Where a fault is, it tells its place; one of another kind than the first stands at a token. -/
def FI (l : List GTok) (en : Int) (s : PS) : Prop := ∀ c p, s.f = some (c, p) → p = place l en s.at_ ∧ (c = 0 ∨ s.at_ < l.length)
theorem Reach.fi {s s' : PS} (h : Reach l en s s') (hf : FI l en s) : FI l en s' := by
  induction h with
  | refl s => exact hf
  | adv h =>
    intro c p hk
    have h1 := (tk_some h).1.symm.trans hk
    cases h1
  | fail s =>
    intro c p hk
    unfold pfail at hk ⊢
    cases hs : s.f with
    | none => rw [hs] at hk; simp at hk ⊢; obtain ⟨rfl, rfl⟩ := hk; exact ⟨rfl, .inl rfl⟩
    | some q => rw [hs] at hk; exact hf c p hk
  | failAt c h =>
    intro c' p hk
    obtain ⟨h1, _, h3, _⟩ := tk_some h
    unfold pfail at hk ⊢
    rw [h1] at hk ⊢
    simp at hk ⊢
    obtain ⟨rfl, rfl⟩ := hk
    exact ⟨rfl, .inr h3⟩
  | count s => exact hf
  | trans h k ih1 ih2 => exact ih2 (ih1 hf)
/-- Nothing is left, or nothing was left. -/
def Dead (en : Int) (s : PS) : Prop := s.f = some (0, en)
def Bad (l : List GTok) (en : Int) (s : PS) : Prop := Dead en s ∨ s.f = none ∧ l.length ≤ s.at_
theorem Dead.bad {s : PS} (h : Dead en s) : Bad l en s := .inl h
theorem Bad.tk {s : PS} (h : Bad l en s) : tk l s = none := by
  unfold VA.tk
  rcases h with h | ⟨h1, h2⟩
  · rw [h]
  · rw [h1]; exact List.getElem?_eq_none h2
theorem Bad.isT {s : PS} (h : Bad l en s) (t : List UInt8) : isT l s t = false := by simp [VA.isT, h.tk]
theorem Bad.isName {s : PS} (h : Bad l en s) : isName l s = false := by simp [VA.isName, h.tk]
theorem Reach.bad {s s' : PS} (h : Reach l en s s') (hf : Bad l en s) : Bad l en s' := by
  induction h with
  | refl s => exact hf
  | adv h => rw [hf.tk] at h; cases h
  | fail s =>
    rcases hf with hf | ⟨h1, h2⟩
    · exact .inl (by unfold Dead at hf ⊢; simp [pfail, hf])
    · refine .inl ?_
      unfold Dead
      simp only [pfail, h1, place]
      rw [if_neg (by omega)]
  | failAt c h => rw [hf.tk] at h; cases h
  | count s => exact hf
  | trans h k ih1 ih2 => exact ih2 (ih1 hf)
theorem Reach.dead {s s' : PS} (h : Reach l en s s') (hl : Lt1 l s s') (hf : Bad l en s) : Dead en s' := by
  rcases h.bad hf with h1 | ⟨h1, h2⟩
  · exact h1
  · obtain ⟨k1, k2, k3⟩ := hl (by simp [PS.ok, h1])
    rcases hf with hf | ⟨h3, h4⟩
    · simp [PS.ok, show s.f = _ from hf] at k1
    · omega
end
end Go.Proofs.YtghhkbigmmjanaaDoor.VA

/-! Pj1 -/
namespace Go.Proofs.YtghhkbigmmjanaaDoor.VA
open Go Go.RowKit
set_option linter.unusedSimpArgs false

section
variable {l l2 : List GTok} {en en2 : Int}
/-- The next token is the same. -/
structure Same1 (l l2 : List GTok) (en en2 : Int) (s : PS) : Prop where
  tk : tk l s = tk l2 s
  get : s.f = none → l.getD s.at_ default = l2.getD s.at_ default
  fail : ∀ c, pfail l en s c = pfail l2 en2 s c
theorem peek (hp : ∃ t, l2 = l ++ t) (s : PS) : Same1 l l2 en en2 s ∨ Bad l en s := by
  obtain ⟨t, rfl⟩ := hp
  cases hf : s.f with
  | some q => exact .inl ⟨by simp [tk, hf], (fun h => by rw [hf] at h; cases h), fun c => by simp [pfail, hf]⟩
  | none =>
    by_cases h : s.at_ < l.length
    · have h2 : s.at_ < (l ++ t).length := by rw [List.length_append]; omega
      have e : (l ++ t).getD s.at_ default = l.getD s.at_ default := by
        rw [List.getD_eq_getElem?_getD, List.getD_eq_getElem?_getD, List.getElem?_append_left h]
      refine .inl ⟨by simp only [tk, hf]; rw [List.getElem?_append_left h], fun _ => e.symm, fun c => ?_⟩
      simp only [pfail, hf, place, e]
      rw [if_pos h, if_pos h2]
    · exact .inr (.inr ⟨hf, by omega⟩)
theorem Same1.isT {s : PS} (h : Same1 l l2 en en2 s) (t : List UInt8) : isT l s t = isT l2 s t := by simp only [VA.isT, h.tk]
theorem Same1.isName {s : PS} (h : Same1 l l2 en en2 s) : isName l s = isName l2 s := by simp only [VA.isName, h.tk]
theorem Same1.isNum {s : PS} (h : Same1 l l2 en en2 s) : isNum l s = isNum l2 s := by simp only [VA.isNum, h.tk]
theorem Same1.text {s : PS} (h : Same1 l l2 en en2 s) (hf : s.f = none) : text l s = text l2 s := by simp only [VA.text, h.get hf]
theorem Same1.starts {s : PS} (h : Same1 l l2 en en2 s) : starts l s = starts l2 s := by simp only [VA.starts, h.isName, h.isT]
theorem Same1.sign {s : PS} (h : Same1 l l2 en en2 s) : ∀ ts, signOf l s ts = signOf l2 s ts
  | [] => rfl
  | t :: ts => by simp only [signOf, h.isT, h.sign ts]
variable (hp : ∃ t, l2 = l ++ t)
include hp
theorem need_s (s : PS) (t : List UInt8) : need l en s t = need l2 en2 s t ∨ Dead en (need l en s t) := by
  rcases peek (en := en) (en2 := en2) hp s with h | h
  · left; simp only [need, h.isT, h.fail]
  · exact .inr ((need_r s t).dead (need_lt s t) h)
theorem nameP_s (s : PS) : nameP l en s = nameP l2 en2 s ∨ Dead en (nameP l en s).1 := by
  rcases peek (en := en) (en2 := en2) hp s with h | h
  · left
    simp only [nameP, h.isName, h.fail]
    cases hn : isName l2 s with
    | true => rw [← h.isName] at hn; obtain ⟨x, hx, _⟩ := isName_some hn; simp only [h.text (tk_some hx).1]
    | false => rfl
  · exact .inr ((nameP_r s).dead (nameP_lt s) h)
theorem operand_s (s : PS) : operand l en s = operand l2 en2 s ∨ Dead en (operand l en s).1 := by
  rcases peek (en := en) (en2 := en2) hp s with h | h
  · unfold operand
    simp only [h.isT, h.isNum]
    cases h1 : isT l2 s tNull with
    | true => exact .inl rfl
    | false =>
    cases h2 : isT l2 s tTrue with
    | true => exact .inl rfl
    | false =>
    cases h3 : isT l2 s tFalse with
    | true => exact .inl rfl
    | false =>
    cases h4 : isT l2 s [38] with
    | true =>
      simp only
      rcases nameP_s (en := en) (en2 := en2) hp s.adv with k | k
      · left; rw [k]
      · exact .inr k
    | false =>
    cases h5 : isNum l2 s with
    | true => left; rw [← h.isNum] at h5; obtain ⟨x, hx, _⟩ := isNum_some h5; simp only [h.text (tk_some hx).1]
    | false =>
      simp only
      rcases nameP_s (en := en) (en2 := en2) hp s with k | k
      · left; rw [k]
      · exact .inr k
  · exact .inr ((operand_r s).dead (operand_lt s) h)
omit hp in
theorem Dead.go {s s' : PS} (h : Reach l en s s') (hd : Dead en s) : Dead en s' := h.stuck hd
omit hp in
theorem Bad.stop {s : PS} (h : Bad l en s) (hk : s.ok = false) : Dead en s := by
  rcases h with h | ⟨h, _⟩
  · exact h
  · simp [PS.ok, h] at hk
omit hp in
theorem listF_dead {X : Type} {one : PS → X → PS × X} (hr : ∀ s x, Reach l en s (one s x).1) (end_ : List UInt8) (n : Nat) (s : PS) (x : X) (hb : Bad l en (one s x).1) :
    Dead en (match isT l (one s x).1 end_ with
      | true => ((one s x).1.adv, (one s x).2)
      | false => listF l en one end_ n (need l en (one s x).1 [44]) (one s x).2).1 := by
  rw [hb.isT]
  exact Dead.go (listF_r hr end_ n _ _) ((need_r _ _).dead (need_lt _ _) hb)
theorem listF_s {X : Type} {one one2 : PS → X → PS × X} (hr : ∀ s x, Reach l en s (one s x).1) (h1 : ∀ s x, one s x = one2 s x ∨ Dead en (one s x).1) (end_ : List UInt8) :
    ∀ (n : Nat) (s : PS) (x : X), listF l en one end_ n s x = listF l2 en2 one2 end_ n s x ∨ Dead en (listF l en one end_ n s x).1
  | 0, s, x => .inl rfl
  | n + 1, s, x => by
    unfold listF
    cases s.ok with
    | false => exact .inl rfl
    | true =>
      simp only
      rcases h1 s x with h | h
      · rcases peek (en := en) (en2 := en2) hp (one s x).1 with k | k
        · rw [← h, k.isT]
          cases isT l2 (one s x).1 end_ with
          | true => exact .inl rfl
          | false =>
            simp only
            rcases need_s (en := en) (en2 := en2) hp (one s x).1 [44] with q | q
            · rw [← q]; exact listF_s hr h1 end_ n _ _
            · exact .inr (Dead.go (listF_r hr end_ n _ _) q)
        · exact .inr (listF_dead hr end_ n s x k)
      · exact .inr (listF_dead hr end_ n s x h.bad)
theorem listP_s {X : Type} {one one2 : PS → X → PS × X} (hr : ∀ s x, Reach l en s (one s x).1) (hl : ∀ s x, Lt1 l s (one s x).1) (h1 : ∀ s x, one s x = one2 s x ∨ Dead en (one s x).1) (end_ : List UInt8) (s : PS) (x : X) :
    listP l en one end_ s x = listP l2 en2 one2 end_ s x ∨ Dead en (listP l en one end_ s x).1 := by
  rcases peek (en := en) (en2 := en2) hp s with h | h
  · unfold listP
    rw [h.isT]
    cases isT l2 s end_ with
    | true => exact .inl rfl
    | false => exact listF_s hp hr h1 end_ FN s x
  · right
    unfold listP
    rw [h.isT]
    simp only
    cases hs : s.ok with
    | false => exact Dead.go (listF_r hr end_ FN s x) (h.stop hs)
    | true =>
      have e : listF l en one end_ FN s x = (match isT l (one s x).1 end_ with
        | true => ((one s x).1.adv, (one s x).2)
        | false => listF l en one end_ 4398046511103 (need l en (one s x).1 [44]) (one s x).2) := by
        rw [show FN = 4398046511103 + 1 from rfl, listF, hs]
        rfl
      rw [e]
      exact listF_dead hr end_ _ s x ((hr s x).dead (hl s x) h).bad
theorem oneArg_s (s : PS) (x : List Opd) : oneArg l en s x = oneArg l2 en2 s x ∨ Dead en (oneArg l en s x).1 := by
  rcases operand_s (en := en) (en2 := en2) hp s with h | h
  · left; simp only [oneArg, h]
  · exact .inr h
theorem oneName_s (s : PS) (x : List (List UInt8)) : oneName l en s x = oneName l2 en2 s x ∨ Dead en (oneName l en s x).1 := by
  rcases nameP_s (en := en) (en2 := en2) hp s with h | h
  · left; simp only [oneName, h]
  · exact .inr h
theorem oneProp_s (s : PS) (x : List (List UInt8) × List Opd) : oneProp l en s x = oneProp l2 en2 s x ∨ Dead en (oneProp l en s x).1 := by
  rcases nameP_s (en := en) (en2 := en2) hp s with h | h
  · rcases need_s (en := en) (en2 := en2) hp (nameP l en s).1 [58] with k | k
    · rcases operand_s (en := en) (en2 := en2) hp (need l en (nameP l en s).1 [58]) with q | q
      · left; simp only [oneProp, q]; rw [k, h]
      · exact .inr q
    · exact .inr (Dead.go (operand_r _) k)
  · exact .inr (Dead.go ((need_r _ _).trans (operand_r _)) h)
theorem args_s (s : PS) : args l en s = args l2 en2 s ∨ Dead en (args l en s).1 := by
  unfold args
  rcases need_s (en := en) (en2 := en2) hp s [40] with h | h
  · rw [← h]; exact listP_s hp oneArg_r oneArg_lt (oneArg_s hp) _ _ _
  · exact .inr (Dead.go (listP_r oneArg_r _ _ _) h)
theorem names_s (s : PS) : names l en s = names l2 en2 s ∨ Dead en (names l en s).1 := by
  unfold names
  rcases need_s (en := en) (en2 := en2) hp s [40] with h | h
  · rw [← h]; exact listP_s hp oneName_r oneName_lt (oneName_s hp) _ _ _
  · exact .inr (Dead.go (listP_r oneName_r _ _ _) h)
theorem propsP_s (s : PS) : propsP l en s = propsP l2 en2 s ∨ Dead en (propsP l en s).1 := by
  unfold propsP
  rcases need_s (en := en) (en2 := en2) hp s [123] with h | h
  · rw [← h]; exact listP_s hp oneProp_r oneProp_lt (oneProp_s hp) _ _ _
  · exact .inr (Dead.go (listP_r oneProp_r _ _ _) h)
theorem protoP_s (s : PS) : protoP l en s = protoP l2 en2 s ∨ Dead en (protoP l en s).1 := by
  unfold protoP
  rcases need_s (en := en) (en2 := en2) hp s tProto with h | h
  · rw [← h]; exact operand_s hp _
  · exact .inr (Dead.go (operand_r _) h)
theorem object_s (s : PS) : object l en s = object l2 en2 s ∨ Dead en (object l en s).1 := by
  rcases propsP_s (en := en) (en2 := en2) hp s with h | h
  · rcases protoP_s (en := en) (en2 := en2) hp (propsP l en s).1 with k | k
    · left; simp only [object, k]; rw [h]
    · exact .inr k
  · exact .inr (Dead.go (protoP_r _) h)
theorem rest_s (s : PS) (o : Opd) : rest l en s o = rest l2 en2 s o ∨ Bad l en (rest l en s o).1 := by
  rcases peek (en := en) (en2 := en2) hp s with h | h
  · unfold rest
    rw [h.sign, h.isT, h.isT]
    cases signOf l2 s arith with
    | some t =>
      simp only
      rcases operand_s (en := en) (en2 := en2) hp s.adv with k | k
      · left; rw [k]
      · exact .inr k.bad
    | none =>
      simp only
      cases decide (o.kind = 4) && isT l2 s [40] with
      | true =>
        simp only
        rcases args_s (en := en) (en2 := en2) hp s with k | k
        · left; rw [k]
        · exact .inr k.bad
      | false =>
        simp only
        cases decide (o.kind = 4) && isT l2 s [46] with
        | true =>
          simp only
          rcases nameP_s (en := en) (en2 := en2) hp s.adv with k | k
          · left; rw [k]
          · exact .inr k.bad
        | false => exact .inl rfl
  · exact .inr ((rest_r s o).bad h)
theorem value_s (s : PS) : value l en s = value l2 en2 s ∨ Bad l en (value l en s).1 := by
  rcases peek (en := en) (en2 := en2) hp s with h | h
  · unfold value
    rw [h.isT, h.isT, h.isT]
    cases isT l2 s tIn with
    | true => exact .inl rfl
    | false =>
    simp only
    cases isT l2 s tCall with
    | true =>
      simp only
      rcases nameP_s (en := en) (en2 := en2) hp s.adv with k | k
      · rcases args_s (en := en) (en2 := en2) hp (nameP l en s.adv).1 with q | q
        · left; rw [q, k]
        · exact .inr q.bad
      · exact .inr (Dead.go (args_r _) k).bad
    | false =>
    simp only
    cases isT l2 s tNew with
    | true =>
      simp only
      rcases object_s (en := en) (en2 := en2) hp s.adv with k | k
      · left; rw [k]
      · exact .inr k.bad
    | false =>
      simp only
      rcases operand_s (en := en) (en2 := en2) hp s with k | k
      · rw [← k]; exact rest_s hp _ _
      · exact .inr ((rest_r _ _).bad k.bad)
  · exact .inr ((value_r s).bad h)
theorem assign_s (s : PS) : assign l en s = assign l2 en2 s ∨ Bad l en (assign l en s).1 := by
  unfold assign
  rcases nameP_s (en := en) (en2 := en2) hp s with h | h
  · rcases peek (en := en) (en2 := en2) hp (nameP l en s).1 with k | k
    · rw [← h, k.isT]
      cases isT l2 (nameP l en s).1 [46] with
      | true =>
        simp only
        rcases nameP_s (en := en) (en2 := en2) hp (nameP l en s).1.adv with a | a
        · rcases need_s (en := en) (en2 := en2) hp (nameP l en (nameP l en s).1.adv).1 [61] with b | b
          · rcases operand_s (en := en) (en2 := en2) hp (need l en (nameP l en (nameP l en s).1.adv).1 [61]) with c | c
            · left; rw [c, b, a]
            · exact .inr c.bad
          · exact .inr (Dead.go (operand_r _) b).bad
        · exact .inr (Dead.go ((need_r _ _).trans (operand_r _)) a).bad
      | false =>
        simp only
        rcases need_s (en := en) (en2 := en2) hp (nameP l en s).1 [61] with b | b
        · rcases value_s (en := en) (en2 := en2) hp (need l en (nameP l en s).1 [61]) with c | c
          · left; rw [c, b]
          · exact .inr c
        · exact .inr ((value_r _).bad b.bad)
    · right; rw [k.isT]; exact (value_r _).bad ((need_r _ _).bad k)
  · right; rw [h.bad.isT]; exact (value_r _).bad ((need_r _ _).bad h.bad)
theorem simple_s (s : PS) : simple l en s = simple l2 en2 s ∨ Bad l en (simple l en s).1 := by
  rcases peek (en := en) (en2 := en2) hp s with h | h
  · unfold simple
    rw [h.isT, h.isT]
    cases isT l2 s tOut with
    | true =>
      simp only
      rcases operand_s (en := en) (en2 := en2) hp s.adv with k | k
      · left; rw [k]
      · exact .inr k.bad
    | false =>
    simp only
    cases isT l2 s tReturn with
    | true =>
      simp only
      rcases operand_s (en := en) (en2 := en2) hp s.adv with k | k
      · left; rw [k]
      · exact .inr k.bad
    | false => exact assign_s hp s
  · exact .inr ((simple_r s).bad h)
omit hp in
theorem pfail_dead {s : PS} (h : Bad l en s) : Dead en (pfail l en s 0) := (Reach.fail s).dead (bad_lt (pfail_bad _ _)) h
theorem blocks_s : ∀ (n : Nat), (∀ s deep, stmtF l en n s deep = stmtF l2 en2 n s deep ∨ Bad l en (stmtF l en n s deep).1) ∧ (∀ s deep, blockF l en n s deep = blockF l2 en2 n s deep ∨ Dead en (blockF l en n s deep).1) ∧
    (∀ s deep acc, bodyF l en n s deep acc = bodyF l2 en2 n s deep acc ∨ Dead en (bodyF l en n s deep acc).1) := by
  intro n
  induction n with
  | zero =>
    refine ⟨fun s _ => ?_, fun s _ => ?_, fun s _ _ => ?_⟩ <;> rcases peek (en := en) (en2 := en2) hp s with h | h
    · left; simp only [stmtF, h.fail]
    · exact .inr (pfail_dead h).bad
    · left; simp only [blockF, h.fail]
    · exact .inr (pfail_dead h)
    · left; simp only [bodyF, h.fail]
    · exact .inr (pfail_dead h)
  | succ n ih =>
    obtain ⟨ih1, ih2, ih3⟩ := ih
    refine ⟨fun s deep => ?_, fun s deep => ?_, fun s deep acc => ?_⟩
    · rcases peek (en := en) (en2 := en2) hp s with h | h
      · unfold stmtF
        rw [h.starts, h.isT, h.isT]
        cases starts l2 s with
        | false => left; simp only [h.fail]
        | true =>
        simp only
        cases decide (2000 ≤ s.cnt) with
        | true => left; simp only [h.fail]
        | false =>
        simp only
        cases isT l2 s tIf with
        | true =>
          simp only
          rcases operand_s (en := en) (en2 := en2) hp s.count.adv with a | a
          · rw [← a]
            rcases ih2 (operand l en s.count.adv).1 deep with b | b
            · rw [← b]
              rcases peek (en := en) (en2 := en2) hp (blockF l en n (operand l en s.count.adv).1 deep).1 with c | c
              · rw [c.isT]
                cases isT l2 (blockF l en n (operand l en s.count.adv).1 deep).1 tElse with
                | true =>
                  simp only
                  rcases ih2 (blockF l en n (operand l en s.count.adv).1 deep).1.adv deep with d | d
                  · left; rw [← d]
                  · exact .inr d.bad
                | false => exact .inl rfl
              · right; rw [c.isT]; exact c
            · right; rw [b.bad.isT]; exact b.bad
          · right
            have b : Dead en (blockF l en n (operand l en s.count.adv).1 deep).1 := Dead.go (blockF_r _ _ _) a
            rw [b.bad.isT]; exact b.bad
        | false =>
        simp only
        cases isT l2 s tWhile with
        | true =>
          simp only
          rcases operand_s (en := en) (en2 := en2) hp s.count.adv with a | a
          · rw [← a]
            rcases ih2 (operand l en s.count.adv).1 deep with b | b
            · left; rw [← b]
            · exact .inr b.bad
          · exact .inr (Dead.go (blockF_r _ _ _) a).bad
        | false =>
          simp only [semi]
          rcases simple_s (en := en) (en2 := en2) hp s.count with a | a
          · rw [← a]
            rcases need_s (en := en) (en2 := en2) hp (simple l en s.count).1 [59] with b | b
            · left; rw [← b]
            · exact .inr b.bad
          · exact .inr ((need_r _ _).bad a)
      · exact .inr ((stmtF_r (n + 1) s deep).bad h)
    · rcases peek (en := en) (en2 := en2) hp s with h | h
      · unfold blockF
        rw [h.isT]
        cases isT l2 s [123] && decide (32 ≤ deep) with
        | true => left; simp only [h.fail]
        | false =>
          simp only
          rcases need_s (en := en) (en2 := en2) hp s [123] with a | a
          · rw [← a]; exact ih3 _ _ _
          · exact .inr (Dead.go (bodyF_r _ _ _ _) a)
      · exact .inr ((blockF_r (n + 1) s deep).dead (blockF_lt _ _ _) h)
    · rcases peek (en := en) (en2 := en2) hp s with h | h
      · unfold bodyF
        rw [h.isT]
        cases s.ok && !isT l2 s [125] with
        | true =>
          simp only
          rcases ih1 s (deep + 1) with a | a
          · rw [← a]; exact ih3 _ _ _
          · exact .inr ((bodyF_r _ _ _ _).dead (bodyF_lt _ _ _ _) a)
        | false =>
          simp only
          rcases need_s (en := en) (en2 := en2) hp s [125] with a | a
          · left; rw [← a]
          · exact .inr a
      · exact .inr ((bodyF_r (n + 1) s deep acc).dead (bodyF_lt _ _ _ _) h)
theorem funcP_s (s : PS) : funcP l en s = funcP l2 en2 s ∨ Dead en (funcP l en s).1 := by
  simp only [funcP]
  rcases need_s (en := en) (en2 := en2) hp s tFun with a | a
  · rw [← a]
    rcases nameP_s (en := en) (en2 := en2) hp (need l en s tFun) with b | b
    · rw [← b]
      rcases names_s (en := en) (en2 := en2) hp (nameP l en (need l en s tFun)).1 with c | c
      · rw [← c]
        rcases (blocks_s (en := en) (en2 := en2) hp FN).2.1 (names l en (nameP l en (need l en s tFun)).1).1 0 with d | d
        · left; rw [← d]
        · exact .inr d
      · exact .inr (Dead.go (blockF_r _ _ _) c)
    · exact .inr (Dead.go ((names_r _).trans (blockF_r _ _ _)) b)
  · exact .inr (Dead.go ((nameP_r _).trans ((names_r _).trans (blockF_r _ _ _))) a)
theorem progF_s : ∀ (n : Nat) (s : PS) (acc : List GFunc), progF l en n s acc = progF l2 en2 n s acc ∨ Bad l en (progF l en n s acc).1
  | 0, s, acc => .inl rfl
  | n + 1, s, acc => by
    by_cases h : s.ok = true ∧ s.at_ < l.length
    · have h1 : (s.ok && decide (s.at_ < l.length)) = true := by simp [h]
      have h2 : (s.ok && decide (s.at_ < l2.length)) = true := by obtain ⟨t, rfl⟩ := hp; simp [h]; omega
      unfold progF
      rw [h1, h2]
      simp only
      rcases funcP_s (en := en) (en2 := en2) hp s with a | a
      · rw [← a]; exact progF_s n _ _
      · exact .inr ((progF_r n _ _).bad a.bad)
    · have h1 : (s.ok && decide (s.at_ < l.length)) = false := by
        cases hk : s.ok with
        | false => rfl
        | true => simp [hk] at h; simp; omega
      cases hf : s.f with
      | some q =>
        have h0 : s.ok = false := by simp [PS.ok, hf]
        left
        unfold progF
        rw [h0]; rfl
      | none =>
        right
        have h0 : s.ok = true := by simp [PS.ok, hf]
        unfold progF
        rw [h1]
        exact .inr ⟨hf, by simp [h0] at h; omega⟩
end
end Go.Proofs.YtghhkbigmmjanaaDoor.VA

/-! Pk1 -/
namespace Go.Proofs.YtghhkbigmmjanaaDoor.VA
open Go Go.RowKit
set_option linter.unusedSimpArgs false

/-- The same tokens but for places. -/
def Like (t t' : List GTok) : Prop := t.length = t'.length ∧ ∀ i : Nat, (t[i]?).map (fun (x : GTok) => (x.kind, x.text)) = (t'[i]?).map (fun (x : GTok) => (x.kind, x.text))
def Sh (d k : Nat) (s : PS) : PS := ⟨d + s.at_, k + s.cnt, none⟩
section
variable {l1 t t' : List GTok} {en en' : Int} {k : Nat}
theorem sh_adv (s : PS) : Sh l1.length k s.adv = (Sh l1.length k s).adv := rfl
theorem sh_count (s : PS) : Sh l1.length k s.count = (Sh l1.length k s).count := rfl
theorem sh_ok (s : PS) : (Sh l1.length k s).ok = true := rfl
variable (hk : Like t t')
include hk
theorem sh_tk {s : PS} (h : s.ok = true) : (tk (l1 ++ t') (Sh l1.length k s)).map (fun (x : GTok) => (x.kind, x.text)) = (tk t s).map (fun (x : GTok) => (x.kind, x.text)) := by
  have hf : s.f = none := by cases hf : s.f with | none => rfl | some q => simp [PS.ok, hf] at h
  simp only [tk, Sh, hf]
  rw [List.getElem?_append_right (by omega), Nat.add_sub_cancel_left]
  exact (hk.2 s.at_).symm
theorem sh_isT {s : PS} (h : s.ok = true) (x : List UInt8) : isT (l1 ++ t') (Sh l1.length k s) x = isT t s x := by
  have e := sh_tk (l1 := l1) (k := k) hk h
  unfold isT
  cases h1 : tk (l1 ++ t') (Sh l1.length k s) with
  | none => rw [h1] at e; cases h2 : tk t s with
    | none => rfl
    | some b => rw [h2] at e; cases e
  | some a => rw [h1] at e; cases h2 : tk t s with
    | none => rw [h2] at e; cases e
    | some b =>
      rw [h2] at e; simp at e
      simp only [rightG, e.1, e.2]
theorem sh_isName {s : PS} (h : s.ok = true) : isName (l1 ++ t') (Sh l1.length k s) = isName t s := by
  have e := sh_tk (l1 := l1) (k := k) hk h
  unfold isName
  cases h1 : tk (l1 ++ t') (Sh l1.length k s) with
  | none => rw [h1] at e; cases h2 : tk t s with
    | none => rfl
    | some b => rw [h2] at e; cases e
  | some a => rw [h1] at e; cases h2 : tk t s with
    | none => rw [h2] at e; cases e
    | some b =>
      rw [h2] at e; simp at e
      simp only [rightG, e.1, e.2]
theorem sh_isNum {s : PS} (h : s.ok = true) : isNum (l1 ++ t') (Sh l1.length k s) = isNum t s := by
  have e := sh_tk (l1 := l1) (k := k) hk h
  unfold isNum
  cases h1 : tk (l1 ++ t') (Sh l1.length k s) with
  | none => rw [h1] at e; cases h2 : tk t s with
    | none => rfl
    | some b => rw [h2] at e; cases e
  | some a => rw [h1] at e; cases h2 : tk t s with
    | none => rw [h2] at e; cases e
    | some b =>
      rw [h2] at e; simp at e
      simp only [rightG, e.1, e.2]
theorem sh_text {s : PS} {x : GTok} (h : tk t s = some x) : text (l1 ++ t') (Sh l1.length k s) = text t s := by
  obtain ⟨h1, h2, h3, h4⟩ := tk_some h
  have e := hk.2 s.at_
  have h3' : s.at_ < t'.length := by rw [← hk.1]; exact h3
  rw [List.getElem?_eq_getElem h3, List.getElem?_eq_getElem h3'] at e
  simp at e
  simp only [text, Sh, List.getD_eq_getElem?_getD]
  rw [List.getElem?_append_right (by omega), Nat.add_sub_cancel_left, List.getElem?_eq_getElem h3, List.getElem?_eq_getElem h3']
  exact e.2.symm
theorem sh_starts {s : PS} (h : s.ok = true) : starts (l1 ++ t') (Sh l1.length k s) = starts t s := by simp only [starts, sh_isName hk h, sh_isT hk h]
theorem sh_sign {s : PS} (h : s.ok = true) : ∀ ts, signOf (l1 ++ t') (Sh l1.length k s) ts = signOf t s ts
  | [] => rfl
  | x :: ts => by simp only [signOf, sh_isT hk h, sh_sign h ts]
theorem need_h {s : PS} {x : List UInt8} (h : (need t en s x).ok = true) : need (l1 ++ t') en' (Sh l1.length k s) x = Sh l1.length k (need t en s x) := by
  have hs := (need_lt s x h).1
  revert h
  unfold need
  rw [sh_isT hk hs]
  cases isT t s x with
  | true => intro _; rfl
  | false => intro h; simp only [pfail_bad] at h; cases h
theorem nameP_h {s : PS} (h : (nameP t en s).1.ok = true) : nameP (l1 ++ t') en' (Sh l1.length k s) = (Sh l1.length k (nameP t en s).1, (nameP t en s).2) := by
  have hs := (nameP_lt s h).1
  revert h
  unfold nameP
  rw [sh_isName hk hs]
  cases hn : isName t s with
  | true => intro _; obtain ⟨x, hx, _⟩ := isName_some hn; simp only [sh_text hk hx]; rfl
  | false => intro h; simp only [pfail_bad] at h; cases h
theorem operand_h {s : PS} (h : (operand t en s).1.ok = true) : operand (l1 ++ t') en' (Sh l1.length k s) = (Sh l1.length k (operand t en s).1, (operand t en s).2) := by
  have hs := (operand_lt s h).1
  revert h
  unfold operand
  rw [sh_isT hk hs, sh_isT hk hs, sh_isT hk hs, sh_isT hk hs, sh_isNum hk hs]
  cases h1 : isT t s tNull with
  | true => intro _; rfl
  | false =>
  cases h2 : isT t s tTrue with
  | true => intro _; rfl
  | false =>
  cases h3 : isT t s tFalse with
  | true => intro _; rfl
  | false =>
  cases h4 : isT t s [38] with
  | true => intro h; simp only at h ⊢; rw [← sh_adv, nameP_h hk h]
  | false =>
  cases h5 : isNum t s with
  | true => intro _; obtain ⟨x, hx, _⟩ := isNum_some h5; simp only [sh_text hk hx]; rfl
  | false => intro h; simp only at h ⊢; rw [nameP_h hk h]
theorem listF_h {X : Type} {one one2 : PS → X → PS × X} (hl : ∀ s x, Lt1 t s (one s x).1) (h1 : ∀ s x, (one s x).1.ok = true → one2 (Sh l1.length k s) x = (Sh l1.length k (one s x).1, (one s x).2)) (end_ : List UInt8) :
    ∀ (n : Nat) (s : PS) (x : X), (listF t en one end_ n s x).1.ok = true → listF (l1 ++ t') en' one2 end_ n (Sh l1.length k s) x = (Sh l1.length k (listF t en one end_ n s x).1, (listF t en one end_ n s x).2)
  | 0, s, x => fun _ => rfl
  | n + 1, s, x => by
    unfold listF
    cases hs : s.ok with
    | false => intro h; simp only [hs] at h; cases h
    | true =>
      rw [sh_ok]
      simp only
      cases he : isT t (one s x).1 end_ with
      | true =>
        intro h
        have ho : (one s x).1.ok = true := h
        rw [h1 s x ho, sh_isT hk ho, he]; rfl
      | false =>
        intro h
        have hn := (listF_le hl end_ n _ _ h).1
        have ho := (need_lt _ _ hn).1
        rw [h1 s x ho, sh_isT hk ho, he]
        simp only
        rw [need_h hk hn]
        exact listF_h hl h1 end_ n _ _ h
theorem listP_h {X : Type} {one one2 : PS → X → PS × X} (hl : ∀ s x, Lt1 t s (one s x).1) (h1 : ∀ s x, (one s x).1.ok = true → one2 (Sh l1.length k s) x = (Sh l1.length k (one s x).1, (one s x).2)) (end_ : List UInt8) (s : PS) (x : X)
    (h : (listP t en one end_ s x).1.ok = true) : listP (l1 ++ t') en' one2 end_ (Sh l1.length k s) x = (Sh l1.length k (listP t en one end_ s x).1, (listP t en one end_ s x).2) := by
  have hs := (listP_le hl end_ s x h).1
  revert h
  unfold listP
  rw [sh_isT hk hs]
  cases isT t s end_ with
  | true => intro _; rfl
  | false => intro h; exact listF_h hk hl h1 end_ FN s x h
theorem oneArg_h (s : PS) (x : List Opd) (h : (oneArg t en s x).1.ok = true) : oneArg (l1 ++ t') en' (Sh l1.length k s) x = (Sh l1.length k (oneArg t en s x).1, (oneArg t en s x).2) := by
  have h' : (operand t en s).1.ok = true := h
  simp only [oneArg, operand_h (en' := en') hk h']
theorem oneName_h (s : PS) (x : List (List UInt8)) (h : (oneName t en s x).1.ok = true) : oneName (l1 ++ t') en' (Sh l1.length k s) x = (Sh l1.length k (oneName t en s x).1, (oneName t en s x).2) := by
  have h' : (nameP t en s).1.ok = true := h
  simp only [oneName, nameP_h (en' := en') hk h']
theorem oneProp_h (s : PS) (x : List (List UInt8) × List Opd) (h : (oneProp t en s x).1.ok = true) : oneProp (l1 ++ t') en' (Sh l1.length k s) x = (Sh l1.length k (oneProp t en s x).1, (oneProp t en s x).2) := by
  have h3 : (operand t en (need t en (nameP t en s).1 [58])).1.ok = true := h
  have h2 := (operand_lt _ h3).1
  have h1 := (need_lt _ _ h2).1
  simp only [oneProp, nameP_h (en' := en') hk h1, need_h (en' := en') hk h2, operand_h (en' := en') hk h3]
theorem args_h {s : PS} (h : (args t en s).1.ok = true) : args (l1 ++ t') en' (Sh l1.length k s) = (Sh l1.length k (args t en s).1, (args t en s).2) := by
  unfold args at h ⊢
  rw [need_h hk (listP_le oneArg_lt _ _ _ h).1]
  exact listP_h hk oneArg_lt (oneArg_h hk) _ _ _ h
theorem names_h {s : PS} (h : (names t en s).1.ok = true) : names (l1 ++ t') en' (Sh l1.length k s) = (Sh l1.length k (names t en s).1, (names t en s).2) := by
  unfold names at h ⊢
  rw [need_h hk (listP_le oneName_lt _ _ _ h).1]
  exact listP_h hk oneName_lt (oneName_h hk) _ _ _ h
theorem propsP_h {s : PS} (h : (propsP t en s).1.ok = true) : propsP (l1 ++ t') en' (Sh l1.length k s) = (Sh l1.length k (propsP t en s).1, (propsP t en s).2) := by
  unfold propsP at h ⊢
  rw [need_h hk (listP_le oneProp_lt _ _ _ h).1]
  exact listP_h hk oneProp_lt (oneProp_h hk) _ _ _ h
theorem protoP_h {s : PS} (h : (protoP t en s).1.ok = true) : protoP (l1 ++ t') en' (Sh l1.length k s) = (Sh l1.length k (protoP t en s).1, (protoP t en s).2) := by
  unfold protoP at h ⊢
  rw [need_h hk (operand_lt _ h).1, operand_h hk h]
theorem object_h {s : PS} (h : (object t en s).1.ok = true) : object (l1 ++ t') en' (Sh l1.length k s) = (Sh l1.length k (object t en s).1, (object t en s).2) := by
  have h2 : (protoP t en (propsP t en s).1).1.ok = true := h
  have h1 := (protoP_lt _ h2).1
  simp only [object, propsP_h (en' := en') hk h1, protoP_h (en' := en') hk h2]
theorem rest_h {s : PS} {o : Opd} (h : (rest t en s o).1.ok = true) : rest (l1 ++ t') en' (Sh l1.length k s) o = (Sh l1.length k (rest t en s o).1, (rest t en s o).2) := by
  have hs := (rest_le s o h).1
  revert h
  unfold rest
  rw [sh_sign hk hs, sh_isT hk hs, sh_isT hk hs]
  cases signOf t s arith with
  | some x => intro h; simp only at h ⊢; rw [← sh_adv, operand_h hk h]
  | none =>
    simp only
    cases decide (o.kind = 4) && isT t s [40] with
    | true => intro h; simp only at h ⊢; rw [args_h hk h]
    | false =>
      simp only
      cases decide (o.kind = 4) && isT t s [46] with
      | true => intro h; simp only at h ⊢; rw [← sh_adv, nameP_h hk h]
      | false => intro _; rfl
theorem value_h {s : PS} (h : (value t en s).1.ok = true) : value (l1 ++ t') en' (Sh l1.length k s) = (Sh l1.length k (value t en s).1, (value t en s).2) := by
  have hs := (value_lt s h).1
  revert h
  unfold value
  rw [sh_isT hk hs, sh_isT hk hs, sh_isT hk hs]
  cases isT t s tIn with
  | true => intro _; rfl
  | false =>
  simp only
  cases isT t s tCall with
  | true =>
    intro h; simp only at h ⊢
    rw [← sh_adv, nameP_h hk (args_lt _ h).1, args_h hk h]
  | false =>
  simp only
  cases isT t s tNew with
  | true => intro h; simp only at h ⊢; rw [← sh_adv, object_h hk h]
  | false => intro h; simp only at h ⊢; rw [operand_h hk (rest_le _ _ h).1, rest_h hk h]
theorem assign_h {s : PS} (h : (assign t en s).1.ok = true) : assign (l1 ++ t') en' (Sh l1.length k s) = (Sh l1.length k (assign t en s).1, (assign t en s).2) := by
  revert h
  unfold assign
  cases hb : isT t (nameP t en s).1 [46] with
  | true =>
    intro h
    simp only at h
    have h4 := (operand_lt _ h).1
    have h3 := (need_lt _ _ h4).1
    have h2 := (nameP_lt _ h3).1
    have h1 : (nameP t en s).1.ok = true := h2
    rw [nameP_h hk h1, sh_isT hk h1, hb]
    simp only
    rw [← sh_adv, nameP_h hk h3, need_h hk h4, operand_h hk h]
  | false =>
    intro h
    simp only at h
    have h2 := (value_lt _ h).1
    have h1 := (need_lt _ _ h2).1
    rw [nameP_h hk h1, sh_isT hk h1, hb]
    simp only
    rw [need_h hk h2, value_h hk h]
theorem simple_h {s : PS} (h : (simple t en s).1.ok = true) : simple (l1 ++ t') en' (Sh l1.length k s) = (Sh l1.length k (simple t en s).1, (simple t en s).2) := by
  have hs := (simple_lt s h).1
  revert h
  unfold simple
  rw [sh_isT hk hs, sh_isT hk hs]
  cases isT t s tOut with
  | true => intro h; simp only at h ⊢; rw [← sh_adv, operand_h hk h]
  | false =>
  simp only
  cases isT t s tReturn with
  | true => intro h; simp only at h ⊢; rw [← sh_adv, operand_h hk h]
  | false => intro h; exact assign_h hk h
omit hk in
/-- Too many statements. -/
def Many (s : PS) : Prop := ∃ p, s.f = some (2, p)
omit hk in
theorem Many.go {l : List GTok} {s s' : PS} (h : Reach l en' s s') (hm : Many s) : Many s' := let ⟨p, hp⟩ := hm; ⟨p, h.stuck hp⟩
omit hk in
theorem Many.isT {l : List GTok} {s : PS} (hm : Many s) (x : List UInt8) : isT l s x = false := by obtain ⟨p, hp⟩ := hm; simp [VA.isT, tk, hp]
theorem blocks_h : ∀ (n : Nat),
    (∀ s deep, (stmtF t en n s deep).1.ok = true → stmtF (l1 ++ t') en' n (Sh l1.length k s) deep = (Sh l1.length k (stmtF t en n s deep).1, (stmtF t en n s deep).2) ∨ Many (stmtF (l1 ++ t') en' n (Sh l1.length k s) deep).1) ∧
    (∀ s deep, (blockF t en n s deep).1.ok = true → blockF (l1 ++ t') en' n (Sh l1.length k s) deep = (Sh l1.length k (blockF t en n s deep).1, (blockF t en n s deep).2) ∨ Many (blockF (l1 ++ t') en' n (Sh l1.length k s) deep).1) ∧
    (∀ s deep acc, (bodyF t en n s deep acc).1.ok = true → bodyF (l1 ++ t') en' n (Sh l1.length k s) deep acc = (Sh l1.length k (bodyF t en n s deep acc).1, (bodyF t en n s deep acc).2) ∨ Many (bodyF (l1 ++ t') en' n (Sh l1.length k s) deep acc).1) := by
  intro n
  induction n with
  | zero =>
    refine ⟨fun s _ h => ?_, fun s _ h => ?_, fun s _ _ h => ?_⟩
    · have := pfail_bad (l := t) (en := en) s 0; unfold stmtF at h; rw [this] at h; cases h
    · have := pfail_bad (l := t) (en := en) s 0; unfold blockF at h; rw [this] at h; cases h
    · have := pfail_bad (l := t) (en := en) s 0; unfold bodyF at h; rw [this] at h; cases h
  | succ n ih =>
    obtain ⟨ih1, ih2, ih3⟩ := ih
    refine ⟨fun s deep h => ?_, fun s deep h => ?_, fun s deep acc h => ?_⟩
    · have hs := (stmtF_lt _ _ _ h).1
      revert h
      unfold stmtF
      rw [sh_starts hk hs, sh_isT hk hs, sh_isT hk hs]
      cases starts t s with
      | false => intro h; simp only [pfail_bad] at h; cases h
      | true =>
      simp only
      cases decide (2000 ≤ s.cnt) with
      | true => intro h; simp only [pfail_bad] at h; cases h
      | false =>
      simp only
      cases decide (2000 ≤ (Sh l1.length k s).cnt) with
      | true => intro _; right; exact ⟨place (l1 ++ t') en' (Sh l1.length k s).at_, rfl⟩
      | false =>
      simp only
      cases isT t s tIf with
      | true =>
        simp only
        rw [← sh_count, ← sh_adv]
        cases he : isT t (blockF t en n (operand t en s.count.adv).1 deep).1 tElse with
        | true =>
          intro h
          simp only at h
          have h2 : (blockF t en n (operand t en s.count.adv).1 deep).1.ok = true := (blockF_lt _ _ _ h).1
          have h1 := (blockF_lt _ _ _ h2).1
          rw [operand_h hk h1]
          simp only
          rcases ih2 _ deep h2 with b | b
          · rw [b, sh_isT hk h2, he]
            simp only
            rw [← sh_adv]
            rcases ih2 _ deep h with c | c
            · left; rw [c]
            · exact .inr c
          · right; rw [b.isT]; exact b
        | false =>
          intro h
          simp only at h
          have h1 := (blockF_lt _ _ _ h).1
          rw [operand_h hk h1]
          simp only
          rcases ih2 _ deep h with b | b
          · rw [b, sh_isT hk h, he]; exact .inl rfl
          · right; rw [b.isT]; exact b
      | false =>
      simp only
      cases isT t s tWhile with
      | true =>
        intro h
        simp only at h ⊢
        rw [← sh_count, ← sh_adv]
        have h1 := (blockF_lt _ _ _ h).1
        rw [operand_h hk h1]
        simp only
        rcases ih2 _ deep h with b | b
        · left; rw [b]
        · exact .inr b
      | false =>
        intro h
        simp only [semi] at h ⊢
        rw [← sh_count]
        have h1 := (need_lt _ _ h).1
        left
        rw [simple_h hk h1]
        simp only
        rw [need_h hk h]
    · have hs := (blockF_lt _ _ _ h).1
      revert h
      unfold blockF
      rw [sh_isT hk hs]
      cases isT t s [123] && decide (32 ≤ deep) with
      | true => intro h; simp only [pfail_bad] at h; cases h
      | false =>
        intro h
        simp only at h ⊢
        rw [need_h hk (bodyF_lt _ _ _ _ h).1]
        exact ih3 _ _ _ h
    · have hs := (bodyF_lt _ _ _ _ h).1
      revert h
      unfold bodyF
      rw [sh_isT hk hs, hs, sh_ok]
      cases true && !isT t s [125] with
      | true =>
        intro h
        simp only at h ⊢
        rcases ih1 s (deep + 1) (bodyF_lt _ _ _ _ h).1 with a | a
        · rw [a]; exact ih3 _ _ _ h
        · exact .inr (Many.go (bodyF_r _ _ _ _) a)
      | false =>
        intro h
        simp only at h ⊢
        left; rw [need_h hk h]
theorem funcP_h {s : PS} (h : (funcP t en s).1.ok = true) : funcP (l1 ++ t') en' (Sh l1.length k s) = (Sh l1.length k (funcP t en s).1, (funcP t en s).2) ∨ Many (funcP (l1 ++ t') en' (Sh l1.length k s)).1 := by
  simp only [funcP] at h ⊢
  have h3 := (blockF_lt _ _ _ h).1
  have h2 := (names_lt _ h3).1
  have h1 := (nameP_lt _ h2).1
  rw [need_h hk h1, nameP_h hk h2]
  simp only
  rw [names_h hk h3]
  simp only
  rcases (blocks_h hk FN).2.1 _ 0 h with b | b
  · left; rw [b]
  · exact .inr b
omit hk in
theorem progF_go {l : List GTok} {n : Nat} {s : PS} {acc : List GFunc} (h : (s.ok && decide (s.at_ < l.length)) = true) : progF l en (n + 1) s acc = progF l en n (funcP l en s).1 (acc ++ [(funcP l en s).2]) := by rw [progF, h]
omit hk in
theorem progF_no {l : List GTok} {n : Nat} {s : PS} {acc : List GFunc} (h : (s.ok && decide (s.at_ < l.length)) = false) : progF l en (n + 1) s acc = (s, acc) := by rw [progF, h]
omit hk in
theorem ok_of_reach {l : List GTok} {s s' : PS} (h : Reach l en s s') (hk : s'.ok = true) : s.ok = true := by
  cases hf : s.f with
  | none => simp [PS.ok, hf]
  | some q => have := h.stuck hf; simp [PS.ok, this] at hk
theorem progF_h : ∀ (n : Nat) (s : PS) (acc : List GFunc), (progF t en n s acc).1.ok = true → t.length ≤ (progF t en n s acc).1.at_ → ∀ (m : Nat) (acc2 : List GFunc), t.length - s.at_ < m →
    ∃ new, (progF t en n s acc).2 = acc ++ new ∧ (progF (l1 ++ t') en' m (Sh l1.length k s) acc2 = (Sh l1.length k (progF t en n s acc).1, acc2 ++ new) ∨ Many (progF (l1 ++ t') en' m (Sh l1.length k s) acc2).1) := by
  have stop : ∀ (s : PS) (acc2 : List GFunc) (m : Nat), t.length ≤ s.at_ → t.length - s.at_ < m → progF (l1 ++ t') en' m (Sh l1.length k s) acc2 = (Sh l1.length k s, acc2) := by
    intro s acc2 m h hm
    obtain ⟨m, rfl⟩ : ∃ j, m = j + 1 := ⟨m - 1, by omega⟩
    have h1 : ((Sh l1.length k s).ok && decide ((Sh l1.length k s).at_ < (l1 ++ t').length)) = false := by
      rw [sh_ok, List.length_append, ← hk.1]; simp [Sh]; omega
    exact progF_no h1
  intro n
  induction n with
  | zero =>
    intro s acc h1 h2 m acc2 hm
    exact ⟨[], by simp [progF], .inl (by rw [stop s acc2 m h2 hm]; simp [progF])⟩
  | succ n ih =>
    intro s acc
    cases hc : (s.ok && decide (s.at_ < t.length)) with
    | false =>
      rw [progF_no hc]
      intro h1 h2 m acc2 hm
      exact ⟨[], by simp, .inl (by rw [stop s acc2 m h2 hm]; simp)⟩
    | true =>
      rw [progF_go hc]
      intro h1 h2 m acc2 hm
      simp only [Bool.and_eq_true, decide_eq_true_eq] at hc
      obtain ⟨m, rfl⟩ : ∃ j, m = j + 1 := ⟨m - 1, by omega⟩
      have hf := ok_of_reach (progF_r n _ _) h1
      obtain ⟨c1, c2, c3⟩ := funcP_lt s hf
      have e1 : ((Sh l1.length k s).ok && decide ((Sh l1.length k s).at_ < (l1 ++ t').length)) = true := by
        rw [sh_ok, List.length_append, ← hk.1]; simp [Sh]; exact hc.2
      rw [progF_go e1]
      rcases funcP_h (l1 := l1) (en' := en') (k := k) hk hf with a | a
      · rw [a]
        obtain ⟨new, n1, n2⟩ := ih _ _ h1 h2 m (acc2 ++ [(funcP t en s).2]) (by omega)
        refine ⟨(funcP t en s).2 :: new, by rw [n1]; simp, ?_⟩
        rcases n2 with n2 | n2
        · left; simp only; rw [n2]; simp
        · exact .inr n2
      · obtain ⟨new, n1, _⟩ := ih _ _ h1 h2 m acc2 (by omega)
        exact ⟨(funcP t en s).2 :: new, by rw [n1]; simp, .inr (Many.go (progF_r _ _ _) a)⟩
omit hk in
theorem progF_first {l : List GTok} (hp : ∃ t, l = l1 ++ t) : ∀ (n : Nat) (s : PS) (acc : List GFunc), (progF l1 en n s acc).1.ok = true →
    ∃ m, n + s.at_ ≤ m + (progF l1 en n s acc).1.at_ ∧ progF l en' n s acc = progF l en' m (progF l1 en n s acc).1 (progF l1 en n s acc).2 := by
  intro n
  induction n with
  | zero => intro s acc _; exact ⟨0, by simp [progF], rfl⟩
  | succ n ih =>
    intro s acc
    by_cases hc : (s.ok && decide (s.at_ < l1.length)) = true
    · have e2 : (s.ok && decide (s.at_ < l.length)) = true := by
        obtain ⟨t, rfl⟩ := hp; simp only [Bool.and_eq_true, decide_eq_true_eq, List.length_append] at hc ⊢; exact ⟨hc.1, by omega⟩
      have e1 : progF l1 en (n + 1) s acc = progF l1 en n (funcP l1 en s).1 (acc ++ [(funcP l1 en s).2]) := by rw [progF, hc]
      have e3 : progF l en' (n + 1) s acc = progF l en' n (funcP l en' s).1 (acc ++ [(funcP l en' s).2]) := by rw [progF, e2]
      rw [e1, e3]
      intro h
      have hf := ok_of_reach (progF_r n _ _) h
      obtain ⟨c1, c2, c3⟩ := funcP_lt s hf
      rcases funcP_s (en := en) (en2 := en') hp s with a | a
      · rw [← a]
        obtain ⟨m, m1, m2⟩ := ih _ _ h
        exact ⟨m, by omega, m2⟩
      · rw [PS.ok, show (funcP l1 en s).1.f = _ from a] at hf; cases hf
    · have e1 : progF l1 en (n + 1) s acc = (s, acc) := by
        rw [progF, show (s.ok && decide (s.at_ < l1.length)) = false by simpa using hc]
      rw [e1]
      intro _
      exact ⟨n + 1, by simp, rfl⟩
omit hk in
theorem progF_ends {l : List GTok} : ∀ (n : Nat) (s : PS) (acc : List GFunc), (progF l en n s acc).1.ok = true → s.at_ ≤ l.length → l.length - s.at_ < n → (progF l en n s acc).1.at_ = l.length := by
  intro n
  induction n with
  | zero => intro s acc _ _ h; omega
  | succ n ih =>
    intro s acc
    unfold progF
    cases hc : (s.ok && decide (s.at_ < l.length)) with
    | false =>
      intro h1 h2 _
      simp only at h1 ⊢
      rw [h1] at hc
      simp at hc; omega
    | true =>
      intro h1 h2 h3
      simp only at h1 ⊢
      simp only [Bool.and_eq_true, decide_eq_true_eq] at hc
      have hf := ok_of_reach (progF_r n _ _) h1
      obtain ⟨c1, c2, c3⟩ := funcP_lt s hf
      exact ih _ _ h1 c3 (by omega)
theorem readP_parts {en0 : Int} (h1 : (readP l1 en0).2.1 = 0) (h2 : (readP t en).2.1 = 0) (hb : l1.length + t.length + 2 ≤ FN) :
    (readP (l1 ++ t') en').2.1 = 22 ∨ readP (l1 ++ t') en' = ((readP l1 en0).1 ++ (readP t en).1, 0, 0) := by
  have ok1 : (progF l1 en0 FN ⟨0, 0, none⟩ []).1.ok = true := by
    revert h1; unfold readP
    cases hf : (progF l1 en0 FN ⟨0, 0, none⟩ []).1.f with
    | none => intro _; simp [PS.ok, hf]
    | some q => intro h; simp at h
  have ok2 : (progF t en FN ⟨0, 0, none⟩ []).1.ok = true := by
    revert h2; unfold readP
    cases hf : (progF t en FN ⟨0, 0, none⟩ []).1.f with
    | none => intro _; simp [PS.ok, hf]
    | some q => intro h; simp at h
  have a1 := progF_ends FN ⟨0, 0, none⟩ [] ok1 (Nat.zero_le _) (by simp only; omega)
  have a2 := progF_ends FN ⟨0, 0, none⟩ [] ok2 (Nat.zero_le _) (by simp only; omega)
  obtain ⟨m, m1, m2⟩ := progF_first (en' := en') ⟨t', rfl⟩ FN ⟨0, 0, none⟩ [] ok1
  have hf1 : (progF l1 en0 FN ⟨0, 0, none⟩ []).1.f = none := by
    cases hf : (progF l1 en0 FN ⟨0, 0, none⟩ []).1.f with
    | none => rfl
    | some q => rw [PS.ok, hf] at ok1; cases ok1
  have e1 : (readP l1 en0).1 = (progF l1 en0 FN ⟨0, 0, none⟩ []).2 := by unfold readP; rw [hf1]
  have hf2 : (progF t en FN ⟨0, 0, none⟩ []).1.f = none := by
    cases hf : (progF t en FN ⟨0, 0, none⟩ []).1.f with
    | none => rfl
    | some q => rw [PS.ok, hf] at ok2; cases ok2
  have e2 : (readP t en).1 = (progF t en FN ⟨0, 0, none⟩ []).2 := by unfold readP; rw [hf2]
  rw [e1, e2]
  unfold readP
  rw [m2]
  generalize (progF l1 en0 FN ⟨0, 0, none⟩ []) = r at *
  obtain ⟨⟨ra, rc, rf⟩, fs⟩ := r
  simp only at a1 hf1 m1
  subst a1; subst hf1
  obtain ⟨new, n1, n2⟩ := progF_h (l1 := l1) (en' := en') (k := rc) hk FN ⟨0, 0, none⟩ [] ok2 (by omega) m fs (by simp only; omega)
  have e3 : Sh l1.length rc ⟨0, 0, none⟩ = ⟨l1.length, rc, none⟩ := rfl
  rw [e3] at n2
  rcases n2 with n2 | n2
  · right
    rw [n2, n1]; rfl
  · left
    obtain ⟨p, hp⟩ := n2
    rw [hp]
end
end Go.Proofs.YtghhkbigmmjanaaDoor.VA

/-! Lp2 -/
namespace Go.Proofs.YtghhkbigmmjanaaDoor.VA
open Go Go.RowKit
set_option linter.unusedSimpArgs false

def Tok.up (d : Nat) (t : Tok) : Tok := ⟨t.kind, t.text, t.at_ + d⟩
def LexR.up (d : Nat) : LexR → LexR
  | .ok l => .ok (l.map (Tok.up d))
  | .err a => .err (a + d)
theorem LexR.up_pre (d : Nat) (l : List Tok) (r : LexR) : LexR.up d (LexR.pre l r) = LexR.pre (l.map (Tok.up d)) (LexR.up d r) := by cases r <;> simp [LexR.up, LexR.pre]
theorem lexF_up (d : Nat) : ∀ (n : Nat) (l : List UInt8) (a : Nat), lexF n l (a + d) = LexR.up d (lexF n l a) := by
  intro n
  induction n with
  | zero => intro l a; rfl
  | succ n ih =>
    intro l a
    cases l with
    | nil => rfl
    | cons b l =>
      have sw : ∀ k, a + d + k = a + k + d := fun k => by omega
      simp only [lexF]
      split
      · rw [sw, ih]
      · rw [sw, ih]
      · rw [sw, ih, LexR.up_pre]; rfl
      · split
        · rw [sw, ih, LexR.up_pre]; rfl
        · rfl
      · rw [sw, ih, LexR.up_pre]; rfl
      · rfl
theorem lexL_up (d : Nat) (l : List UInt8) (a : Nat) : lexL l (a + d) = LexR.up d (lexL l a) := lexF_up d _ l a
/-- One answer, and then another one's. -/
def LexR.andThen (r : LexR) (q : LexR) : LexR :=
  match r with
  | .ok ts => LexR.pre ts q
  | .err a => .err a
theorem LexR.pre_andThen (l : List Tok) (r q : LexR) : LexR.andThen (LexR.pre l r) q = LexR.pre l (LexR.andThen r q) := by
  cases r with
  | ok ts => exact (LexR.pre_pre l ts q).symm
  | err a => rfl
theorem lexL_parts (t : List UInt8) : ∀ (n : Nat) (s : List UInt8) (a : Nat), s.length < n → lexL (s ++ 10 :: t) a = LexR.andThen (lexL s a) (lexL t (a + s.length + 1)) := by
  intro n
  induction n with
  | zero => intro s a h; omega
  | succ n ih =>
    intro s a hn
    cases s with
    | nil =>
      rw [List.nil_append, lexL_blank (by rfl), lexL_nil]
      simp only [LexR.andThen, LexR.pre_nil]; rfl
    | cons b l =>
      have hc := cls_lt b.toNat
      have hs : ∀ p, p 10 = false → span p ((b :: l) ++ 10 :: t) = span p (b :: l) := fun p hp => span_app (show stops p (10 :: t) from hp) _
      have hle : ∀ p, span p (b :: l) ≤ (b :: l).length := fun p => span_le p _
      have hd : ∀ p, ((b :: l) ++ 10 :: t).drop (span p (b :: l)) = (b :: l).drop (span p (b :: l)) ++ 10 :: t := fun p => List.drop_append_of_le_length (hle p)
      have ht : ∀ p, ((b :: l) ++ 10 :: t).take (span p (b :: l)) = (b :: l).take (span p (b :: l)) := fun p => List.take_append_of_le_length (hle p)
      have step : ∀ p, 0 < span p (b :: l) → lexL ((b :: l).drop (span p (b :: l)) ++ 10 :: t) (a + span p (b :: l)) =
          LexR.andThen (lexL ((b :: l).drop (span p (b :: l))) (a + span p (b :: l))) (lexL t (a + (b :: l).length + 1)) := fun p hp => by
        rw [ih _ _ (by simp only [List.length_drop, List.length_cons] at hn ⊢; omega)]
        congr 2
        have := hle p
        simp only [List.length_drop]; omega
      rw [List.cons_append] at hs hd ht ⊢
      by_cases c1 : cls b.toNat = 1
      · rw [lexL_blank c1, lexL_blank c1, ih l _ (by simp at hn; omega)]
        congr 2; simp; omega
      by_cases c2 : cls b.toNat = 2
      · rw [lexL_remark c2, lexL_remark c2, hs notNl rfl, hd notNl, step notNl (by rw [span_pos (cls2 c2)]; omega)]
      by_cases c3 : cls b.toNat = 3
      · rw [lexL_word c3, lexL_word c3, hs inWord rfl, hd inWord, ht inWord, step inWord (by rw [span_pos (cls3 c3)]; omega), LexR.pre_andThen]
      by_cases c4 : cls b.toNat = 4
      · have he : endsNum ((b :: l).drop (span isDigit (b :: l)) ++ 10 :: t) = endsNum ((b :: l).drop (span isDigit (b :: l))) := by
          cases (b :: l).drop (span isDigit (b :: l)) with
          | nil => rfl
          | cons c r => rfl
        by_cases hnn : span isDigit (b :: l) ≤ 9 ∧ endsNum ((b :: l).drop (span isDigit (b :: l))) = true
        · rw [lexL_num c4 (by rw [hs isDigit rfl]; exact hnn.1) (by rw [hs isDigit rfl, hd isDigit, he]; exact hnn.2), lexL_num c4 hnn.1 hnn.2, hs isDigit rfl, hd isDigit, ht isDigit,
            step isDigit (by rw [span_pos (cls4 c4)]; omega), LexR.pre_andThen]
        · rw [lexL_notnum c4 (by rw [hs isDigit rfl, hd isDigit, he]; exact hnn), lexL_notnum c4 hnn]; rfl
      by_cases c5 : cls b.toNat = 5
      · rw [lexL_sign c5, lexL_sign c5, ih l _ (by simp at hn; omega), LexR.pre_andThen]
        congr 3; simp; omega
      · rw [lexL_other (by omega), lexL_other (by omega)]; rfl
theorem parts_lex (s t : List UInt8) : lexL (s ++ [10] ++ t) 0 = LexR.andThen (lexL s 0) (LexR.up (s.length + 1) (lexL t 0)) := by
  have h1 := lexL_parts t (s.length + 1) s 0 (by omega)
  have h2 := lexL_up (s.length + 1) t 0
  rw [List.append_assoc]
  simp only [Nat.zero_add] at h1 h2
  rw [h2] at h1
  exact h1
end Go.Proofs.YtghhkbigmmjanaaDoor.VA

/-! Sb -/
namespace Go.Proofs.YtghhkbigmmjanaaDoor.VA
open Go Go.RowKit
set_option linter.unusedSimpArgs false

theorem str_addba (a b : List UInt8) (h : a.length + b.length ≤ 9223372036854775807) : aStr .add (.mk a.toArray) (ba b) = some (.lit (.string (ba (a ++ b)))) := by
  have := str_add (ba a) (ba b) (by simpa using h)
  rw [ba_append] at this; exact this
theorem add_ba (a b : List UInt8) (h : a.length + b.length ≤ 9223372036854775807) : aStr .add (ba a) (ba b) = some (.lit (.string (ba (a ++ b)))) := str_addba a b h
end Go.Proofs.YtghhkbigmmjanaaDoor.VA
