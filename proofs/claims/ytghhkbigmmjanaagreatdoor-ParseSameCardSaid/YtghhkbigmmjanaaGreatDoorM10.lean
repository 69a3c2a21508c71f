/- What is proved: what the parser's blocks and functions answer, or panic with, in the abstract interpreter (VA). Condition: no more tokens than a machine holds.
What is proved: what the parser's reader does behind its deferred call, in the abstract interpreter (VA). Condition: no more tokens than a machine holds.
What is proved: what the reader's deferred closure does: nothing behind a return; it lays the fault behind a panic. Condition, of the second: the two results lie where the closure looks.
What is proved: what the parser's reader comes to, panics and all: what the document's parser says. Condition: the table of what is told is sound; no more tokens than a machine holds.
What is proved: the parser's reader comes to what the document's parser says, in every world that its arguments mean something in. Condition: the table of what is told is sound.
What is proved: strings.Join answers as the abstract interpreter (VA) is told. No condition. -/
import Derived.Test.YtghhkbigmmjanaaGreatDoorM9
import Derived.Test.YtghhkbigmmjanaaGreatDoorM6
import Derived.Test.YtghhkbigmmjanaaGreatDoorM3
import Derived.Tactics
import Derived.Tactics2
import Derived.Defers
import Derived.Recover
import Derived.WideLaws
import Derived.Test.YtghhkbigmmjanaaGreatDoorM4
/-! Pf1 -/
namespace Go.Proofs.YtghhkbigmmjanaaGreatDoor.VA
open Go Go.RowKit
attribute [local go_sem] Nat.add_eq_left Nat.left_eq_add true_and and_true ite_true if_false Int.cast_ofNat_Int eq_self Nat.add_assoc Option.some.injEq decide_true decide_false Bool.not_true Bool.not_false List.size_toArray List.length_cons List.length_nil
set_option linter.unusedSimpArgs false
set_option maxRecDepth 100000

section
variable {l : List GTok} {en : Int} {r : Nat} {s : PS} {H : Heap}
set_option maxRecDepth 20000 in
theorem c_pBlock (hlen : l.length ≤ LM) (n : Nat) (ihs : ∀ k, k < n → PStmtOk l en k) : PBlockOk l en (n + 1) := by
  intro r s deep H hn hdeep hf hr hg
  obtain ⟨q1, q2, hq⟩ : ∃ q1 q2, blockF l en (n + 1) s deep = (q1, q2) := ⟨_, _, rfl⟩
  rw [hq]
  show PCall _ _ _ _ _ _ (outP l en q1 (.sl .sh (q2.map encStmt)))
  refine PCall_of' (fn := Tryz.f85) rfl rfl rfl rfl rfl ?_
  have rs : Tryz.f85.results.toList = [.tmp 4] := rfl
  unfold blockF at hq
  have d : decide (32 ≤ ((deep : Nat) : Int)) = decide (32 ≤ deep) := by rw [Bool.eq_iff_iff]; simp; omega
  simp only [go_sem, Nat.reduceBEq, Nat.reduceLeDiff, Nat.reduceEqDiff, Nat.reduceSub, Nat.reduceAdd, Int.reduceEq, Int.reduceLT, Int.reduceLE, Int.reduceAdd]
  refine goC_ok (c_is (s := s) (l := l) (en := en) hlen hf (by simp only [go_sem, Nat.reduceBEq, Nat.reduceLeDiff, Nat.reduceEqDiff, Nat.reduceSub, Nat.reduceAdd, Int.reduceEq, Int.reduceLT, Int.reduceLE, Int.reduceAdd]; omega) (by simp only [go_sem, Nat.reduceBEq, Nat.reduceLeDiff, Nat.reduceEqDiff, Nat.reduceSub, Nat.reduceAdd, Int.reduceEq, Int.reduceLT, Int.reduceLE, Int.reduceAdd, hg]) [123] (by decide)) ?_
  intro H1 hg1 ha1
  have hl1 := ha1.1
  simp only [go_sem, Nat.reduceBEq, Nat.reduceLeDiff, Nat.reduceEqDiff, Nat.reduceSub, Nat.reduceAdd, Int.reduceEq, Int.reduceLT, Int.reduceLE, Int.reduceAdd] at hl1
  cases h1 : isT l s [123] with
  | false =>
    simp only [h1, Bool.false_and] at hq
    simp only [go_sem, Nat.reduceBEq, Nat.reduceLeDiff, Nat.reduceEqDiff, Nat.reduceSub, Nat.reduceAdd, Int.reduceEq, Int.reduceLT, Int.reduceLE, Int.reduceAdd, hg1]
    refine goC_out (c_need (s := s) (l := l) (en := en) hlen hf (by simp only [go_sem, Nat.reduceBEq, Nat.reduceLeDiff, Nat.reduceEqDiff, Nat.reduceSub, Nat.reduceAdd, Int.reduceEq, Int.reduceLT, Int.reduceLE, Int.reduceAdd]; omega) (by simp only [go_sem, Nat.reduceBEq, Nat.reduceLeDiff, Nat.reduceEqDiff, Nat.reduceSub, Nat.reduceAdd, Int.reduceEq, Int.reduceLT, Int.reduceLE, Int.reduceAdd, hg1]) [123] (by decide)) ?_ ?_
    · intro hf2
      have : (need l en s [123]).ok = false := by simp only [need, h1]; exact pfail_bad _ _
      rw [ok_none hf2] at this; cases this
    · intro q9 hq9 H9 had
      rw [outP_some (show q1.f = some q9 by rw [show q1 = (bodyF l en n (need l en s [123]) deep []).1 by rw [hq], bodyF_bad (ok_some hq9)]; exact hq9)]
      simp only [go_sem, Nat.reduceBEq, Nat.reduceLeDiff, Nat.reduceEqDiff, Nat.reduceSub, Nat.reduceAdd, Int.reduceEq, Int.reduceLT, Int.reduceLE, Int.reduceAdd, san_trouble]
      (repeat first | exact Adv.refl _ _ | assumption | refine Adv.trans ?_ had | refine Adv.trans ?_ ha1 | refine Adv.trans ?_ ha2 | refine Adv.trans ?_ ha3 | refine Adv.trans ?_ ha4 | refine Adv.trans ?_ ha5 | refine Adv.trans ?_ ha6 | refine Adv.trans ?_ ha7 | refine Adv.trans ?_ ha8 | refine Adv.trans ?_ ha9 | refine Adv.trans ?_ ha10 | refine Adv.trans ?_ ha11 | refine Adv.trans ?_ ha12 | apply Adv.up | apply Adv.put | refine Adv.new ?_ (by omega) _ | refine Adv.live ?_ (by omega) _ | refine Adv.owns ?_ (by omega) (by first | exact OwnB.lo ‹_› | exact fun _ _ _ h => by cases h))
  | true =>
  cases h2 : decide (32 ≤ deep) with
  | true =>
    simp only [h1, h2, Bool.and_self] at hq
    cases hq
    rw [outP_fail hf]
    simp only [go_sem, Nat.reduceBEq, Nat.reduceLeDiff, Nat.reduceEqDiff, Nat.reduceSub, Nat.reduceAdd, Int.reduceEq, Int.reduceLT, Int.reduceLE, Int.reduceAdd, hg1, d, h2]
    refine goC_bad (c_fail (s := s) (l := l) (en := en) (by simp only [go_sem, Nat.reduceBEq, Nat.reduceLeDiff, Nat.reduceEqDiff, Nat.reduceSub, Nat.reduceAdd, Int.reduceEq, Int.reduceLT, Int.reduceLE, Int.reduceAdd]; omega) (by simp only [go_sem, Nat.reduceBEq, Nat.reduceLeDiff, Nat.reduceEqDiff, Nat.reduceSub, Nat.reduceAdd, Int.reduceEq, Int.reduceLT, Int.reduceLE, Int.reduceAdd, hg1]) 1 rfl) ?_
    intro H9 had
    simp only [go_sem, Nat.reduceBEq, Nat.reduceLeDiff, Nat.reduceEqDiff, Nat.reduceSub, Nat.reduceAdd, Int.reduceEq, Int.reduceLT, Int.reduceLE, Int.reduceAdd, san_trouble]
    (repeat first | exact Adv.refl _ _ | assumption | refine Adv.trans ?_ had | refine Adv.trans ?_ ha1 | refine Adv.trans ?_ ha2 | refine Adv.trans ?_ ha3 | refine Adv.trans ?_ ha4 | refine Adv.trans ?_ ha5 | refine Adv.trans ?_ ha6 | refine Adv.trans ?_ ha7 | refine Adv.trans ?_ ha8 | refine Adv.trans ?_ ha9 | refine Adv.trans ?_ ha10 | refine Adv.trans ?_ ha11 | refine Adv.trans ?_ ha12 | apply Adv.up | apply Adv.put | refine Adv.new ?_ (by omega) _ | refine Adv.live ?_ (by omega) _ | refine Adv.owns ?_ (by omega) (by first | exact OwnB.lo ‹_› | exact fun _ _ _ h => by cases h))
  | false =>
  simp only [h1, h2, Bool.and_false] at hq
  have hdp : ¬ 32 ≤ deep := by simpa using h2
  simp only [go_sem, Nat.reduceBEq, Nat.reduceLeDiff, Nat.reduceEqDiff, Nat.reduceSub, Nat.reduceAdd, Int.reduceEq, Int.reduceLT, Int.reduceLE, Int.reduceAdd, hg1, d, h2]
  refine goC_out (c_need (s := s) (l := l) (en := en) hlen hf (by simp only [go_sem, Nat.reduceBEq, Nat.reduceLeDiff, Nat.reduceEqDiff, Nat.reduceSub, Nat.reduceAdd, Int.reduceEq, Int.reduceLT, Int.reduceLE, Int.reduceAdd]; omega) (by simp only [go_sem, Nat.reduceBEq, Nat.reduceLeDiff, Nat.reduceEqDiff, Nat.reduceSub, Nat.reduceAdd, Int.reduceEq, Int.reduceLT, Int.reduceLE, Int.reduceAdd, hg1]) [123] (by decide)) ?_ ?_
  case refine_2 =>
    intro q9 hq9 H9 had
    rw [outP_some (show q1.f = some q9 by rw [show q1 = (bodyF l en n (need l en s [123]) deep []).1 by rw [hq], bodyF_bad (ok_some hq9)]; exact hq9)]
    simp only [go_sem, Nat.reduceBEq, Nat.reduceLeDiff, Nat.reduceEqDiff, Nat.reduceSub, Nat.reduceAdd, Int.reduceEq, Int.reduceLT, Int.reduceLE, Int.reduceAdd, san_trouble]
    (repeat first | exact Adv.refl _ _ | assumption | refine Adv.trans ?_ had | refine Adv.trans ?_ ha1 | refine Adv.trans ?_ ha2 | refine Adv.trans ?_ ha3 | refine Adv.trans ?_ ha4 | refine Adv.trans ?_ ha5 | refine Adv.trans ?_ ha6 | refine Adv.trans ?_ ha7 | refine Adv.trans ?_ ha8 | refine Adv.trans ?_ ha9 | refine Adv.trans ?_ ha10 | refine Adv.trans ?_ ha11 | refine Adv.trans ?_ ha12 | apply Adv.up | apply Adv.put | refine Adv.new ?_ (by omega) _ | refine Adv.live ?_ (by omega) _ | refine Adv.owns ?_ (by omega) (by first | exact OwnB.lo ‹_› | exact fun _ _ _ h => by cases h))
  intro hf2 H2 hg2 ha2
  have hl2 := ha2.1
  simp only [go_sem, Nat.reduceBEq, Nat.reduceLeDiff, Nat.reduceEqDiff, Nat.reduceSub, Nat.reduceAdd, Int.reduceEq, Int.reduceLT, Int.reduceLE, Int.reduceAdd] at hl2
  have hlt := need_lt (l := l) (en := en) s [123]
  obtain ⟨_, hat1, hat2⟩ := hlt (ok_none hf2)
  have hrem := (rem_lt hlt).1
  have had : Adv r H H2 := by
    (repeat first | exact Adv.refl _ _ | assumption | refine Adv.trans ?_ had | refine Adv.trans ?_ ha1 | refine Adv.trans ?_ ha2 | refine Adv.trans ?_ ha3 | refine Adv.trans ?_ ha4 | refine Adv.trans ?_ ha5 | refine Adv.trans ?_ ha6 | refine Adv.trans ?_ ha7 | refine Adv.trans ?_ ha8 | refine Adv.trans ?_ ha9 | refine Adv.trans ?_ ha10 | refine Adv.trans ?_ ha11 | refine Adv.trans ?_ ha12 | apply Adv.up | apply Adv.put | refine Adv.new ?_ (by omega) _ | refine Adv.live ?_ (by omega) _ | refine Adv.owns ?_ (by omega) (by first | exact OwnB.lo ‹_› | exact fun _ _ _ h => by cases h))
  generalize need l en s [123] = s at hq hlt hrem hf2 hg2 hat1 hat2
  simp only [go_sem, Nat.reduceBEq, Nat.reduceLeDiff, Nat.reduceEqDiff, Nat.reduceSub, Nat.reduceAdd, Int.reduceEq, Int.reduceLT, Int.reduceLE, Int.reduceAdd]
  refine W_loop_ind (fun x e H' => ∃ (s : PS) (acc : List GStmt) (o : Own) (k : Nat), x = ms l s ∧ k < n + 1 ∧ 3 * rem l s + 2 ≤ k ∧ s.f = none ∧ bodyF l en k s deep acc = (q1, q2) ∧ acc.length ≤ s.at_ ∧ s.at_ ≤ l.length ∧
      gget .bad e 0 = .ptr r 0 ∧ gget .bad e 1 = .lit (.int .i64 (deep : Nat)) ∧ gget .bad e 5 = .sl o (acc.map encStmt) ∧ H'.get r = some (cP l en s) ∧ r < H'.next ∧ Adv r H H' ∧ OwnB H' o 40 8 H.next)
    (ms l s) ⟨s, [], .nil, n, rfl, by omega, by omega, hf2, hq, by simp, hat2, by simp only [go_sem, Nat.reduceBEq, Nat.reduceLeDiff, Nat.reduceEqDiff, Nat.reduceSub, Nat.reduceAdd, Int.reduceEq, Int.reduceLT, Int.reduceLE, Int.reduceAdd], by simp only [go_sem, Nat.reduceBEq, Nat.reduceLeDiff, Nat.reduceEqDiff, Nat.reduceSub, Nat.reduceAdd, Int.reduceEq, Int.reduceLT, Int.reduceLE, Int.reduceAdd], by simp only [go_sem, Nat.reduceBEq, Nat.reduceLeDiff, Nat.reduceEqDiff, Nat.reduceSub, Nat.reduceAdd, Int.reduceEq, Int.reduceLT, Int.reduceLE, Int.reduceAdd, List.map_nil], by simp only [go_sem, Nat.reduceBEq, Nat.reduceLeDiff, Nat.reduceEqDiff, Nat.reduceSub, Nat.reduceAdd, Int.reduceEq, Int.reduceLT, Int.reduceLE, Int.reduceAdd, hg2], by simp only [go_sem, Nat.reduceBEq, Nat.reduceLeDiff, Nat.reduceEqDiff, Nat.reduceSub, Nat.reduceAdd, Int.reduceEq, Int.reduceLT, Int.reduceLE, Int.reduceAdd]; omega, had.up 1, OwnB.nil _ _ _ _⟩ ?_
  clear had hat1 hat2 hlt hrem hf2 hg2 ha2 hl2 hq h1 ha1 hg1 hl1 hf hg hn h2 s
  rintro x ih e H3 ⟨s, acc, o, k, rfl, hkn, hkr, hf, hq, hb1, hb2, e0, e1, e5, hg3, hr3, ha3, ho⟩
  obtain ⟨k, rfl⟩ : ∃ j, k = j + 1 := ⟨k - 1, by omega⟩
  have hok := ok_none hf
  simp only [go_sem, Nat.reduceBEq, Nat.reduceLeDiff, Nat.reduceEqDiff, Nat.reduceSub, Nat.reduceAdd, Int.reduceEq, Int.reduceLT, Int.reduceLE, Int.reduceAdd, e0, e1, e5]
  cases h5 : isT l s [125] with
  | true =>
    have hq' : (s.adv, acc) = (q1, q2) := by rw [← hq]; simp only [bodyF, h5, Bool.not_true, Bool.and_false, needYes h5]
    cases hq'
    rw [outP_none (show s.adv.f = none from hf)]
    refine goC_ok (c_take_yes (s := s) (l := l) (en := en) hlen hf (by simp only [go_sem, Nat.reduceBEq, Nat.reduceLeDiff, Nat.reduceEqDiff, Nat.reduceSub, Nat.reduceAdd, Int.reduceEq, Int.reduceLT, Int.reduceLE, Int.reduceAdd]; omega) (by simp only [go_sem, Nat.reduceBEq, Nat.reduceLeDiff, Nat.reduceEqDiff, Nat.reduceSub, Nat.reduceAdd, Int.reduceEq, Int.reduceLT, Int.reduceLE, Int.reduceAdd, hg3]) (by decide) h5) ?_
    intro H4 hg4 ha4
    simp only [go_sem, Nat.reduceBEq, Nat.reduceLeDiff, Nat.reduceEqDiff, Nat.reduceSub, Nat.reduceAdd, Int.reduceEq, Int.reduceLT, Int.reduceLE, Int.reduceAdd, rs, e5, sanLL_encStmt, hg4]
    exact ((ha3.up 3).trans ha4).up 2
  | false =>
    have hq' : bodyF l en k (stmtF l en k s (deep + 1)).1 deep (acc ++ [(stmtF l en k s (deep + 1)).2]) = (q1, q2) := by rw [← hq]; simp only [bodyF, hok, h5, Bool.not_false, Bool.and_self]
    refine goC_ok (c_take_no (s := s) (l := l) (en := en) hlen hf (by simp only [go_sem, Nat.reduceBEq, Nat.reduceLeDiff, Nat.reduceEqDiff, Nat.reduceSub, Nat.reduceAdd, Int.reduceEq, Int.reduceLT, Int.reduceLE, Int.reduceAdd]; omega) (by simp only [go_sem, Nat.reduceBEq, Nat.reduceLeDiff, Nat.reduceEqDiff, Nat.reduceSub, Nat.reduceAdd, Int.reduceEq, Int.reduceLT, Int.reduceLE, Int.reduceAdd, hg3]) (by decide) h5) ?_
    intro H4 hg4 ha4
    have hl4 := ha4.1
    simp only [go_sem, Nat.reduceBEq, Nat.reduceLeDiff, Nat.reduceEqDiff, Nat.reduceSub, Nat.reduceAdd, Int.reduceEq, Int.reduceLT, Int.reduceLE, Int.reduceAdd] at hl4
    have hwd := wrap1 (show deep + 1 ≤ 9223372036854775807 by omega)
    simp only [go_sem, Nat.reduceBEq, Nat.reduceLeDiff, Nat.reduceEqDiff, Nat.reduceSub, Nat.reduceAdd, Int.reduceEq, Int.reduceLT, Int.reduceLE, Int.reduceAdd, e0, e1, e5, hwd]
    refine goC_out (ihs k (by omega) r s (deep + 1) _ (by omega) (by omega) hf (by simp only [go_sem, Nat.reduceBEq, Nat.reduceLeDiff, Nat.reduceEqDiff, Nat.reduceSub, Nat.reduceAdd, Int.reduceEq, Int.reduceLT, Int.reduceLE, Int.reduceAdd]; omega) (by simp only [go_sem, Nat.reduceBEq, Nat.reduceLeDiff, Nat.reduceEqDiff, Nat.reduceSub, Nat.reduceAdd, Int.reduceEq, Int.reduceLT, Int.reduceLE, Int.reduceAdd, hg4])) ?_ ?_
    · intro hf5 H5 hg5 ha5
      have hl5 := ha5.1
      simp only [go_sem, Nat.reduceBEq, Nat.reduceLeDiff, Nat.reduceEqDiff, Nat.reduceSub, Nat.reduceAdd, Int.reduceEq, Int.reduceLT, Int.reduceLE, Int.reduceAdd] at hl5
      have hap := fun o x H id h => app_stm hlen (acc := acc) (by omega) o x H id h
      have ho5 := ((((ho.up 3).adv ha4 hr).up 8).adv ha5 hr)
      have hoA := ho5.appOk acc.length
      have hol := ho5.lo
      have hlt := stmtF_lt (l := l) (en := en) k s (deep + 1)
      have hms := ms_lt hlt hok
      obtain ⟨_, q5, q6⟩ := hlt (ok_none hf5)
      have hrl := (rem_lt hlt).2 hok (by omega)
      have ha6 := (((ha3.up 3).trans ha4).up 8).trans ha5
      have hnx := ha3.1
      simp only [go_sem, Nat.reduceBEq, Nat.reduceLeDiff, Nat.reduceEqDiff, Nat.reduceSub, Nat.reduceAdd, Int.reduceEq, Int.reduceLT, Int.reduceLE, Int.reduceAdd, e0, e1, e5, hap, hoA]
      exact ih _ hms _ _ ⟨_, _, _, k, rfl, by omega, by omega, hf5, hq', by simp only [List.length_append, List.length_cons, List.length_nil]; omega, q6, by simp only [go_sem, Nat.reduceBEq, Nat.reduceLeDiff, Nat.reduceEqDiff, Nat.reduceSub, Nat.reduceAdd, Int.reduceEq, Int.reduceLT, Int.reduceLE, Int.reduceAdd, e0], by simp only [go_sem, Nat.reduceBEq, Nat.reduceLeDiff, Nat.reduceEqDiff, Nat.reduceSub, Nat.reduceAdd, Int.reduceEq, Int.reduceLT, Int.reduceLE, Int.reduceAdd, e1], by simp only [go_sem, Nat.reduceBEq, Nat.reduceLeDiff, Nat.reduceEqDiff, Nat.reduceSub, Nat.reduceAdd, Int.reduceEq, Int.reduceLT, Int.reduceLE, Int.reduceAdd] <;> rfl, by simp only [go_sem, Nat.reduceBEq, Nat.reduceLeDiff, Nat.reduceEqDiff, Nat.reduceSub, Nat.reduceAdd, Int.reduceEq, Int.reduceLT, Int.reduceLE, Int.reduceAdd, hg5],
        by simp only [go_sem, Nat.reduceBEq, Nat.reduceLeDiff, Nat.reduceEqDiff, Nat.reduceSub, Nat.reduceAdd, Int.reduceEq, Int.reduceLT, Int.reduceLE, Int.reduceAdd]; omega, Adv.owns ha6 (by omega) hol, OwnB.app _ _ _ _ _ _ (by omega) (by omega)⟩
    · intro q9 hq9 H9 had
      rw [outP_some (show q1.f = some q9 by rw [show q1 = (bodyF l en k (stmtF l en k s (deep + 1)).1 deep (acc ++ [(stmtF l en k s (deep + 1)).2])).1 by rw [hq'], bodyF_bad (ok_some hq9)]; exact hq9)]
      simp only [go_sem, Nat.reduceBEq, Nat.reduceLeDiff, Nat.reduceEqDiff, Nat.reduceSub, Nat.reduceAdd, Int.reduceEq, Int.reduceLT, Int.reduceLE, Int.reduceAdd, san_trouble]
      exact (((ha3.up 3).trans ha4).up 8).trans had
theorem c_pBlocks (hlen : l.length ≤ LM) : ∀ n, PStmtOk l en n ∧ PBlockOk l en n := by
  intro n
  induction n using Nat.strongRecOn with
  | ind n ih =>
    cases n with
    | zero => exact ⟨fun r s deep H h => by omega, fun r s deep H h => by omega⟩
    | succ n => exact ⟨c_stmt hlen n (ih n (by omega)).2, c_pBlock hlen n fun k hk => (ih k (by omega)).1⟩
set_option maxRecDepth 20000 in
theorem c_function (hlen : l.length ≤ LM) (hf : s.f = none) (hr : r < H.next) (hg : H.get r = some (cP l en s)) :
    PCall Tryz.prog cfg r 53 [.ptr r 0] H (outP l en (funcP l en s).1 (.agg (encFunc (funcP l en s).2))) := by
  refine PCall_of' (fn := Tryz.f53) rfl rfl rfl rfl rfl ?_
  have rs : Tryz.f53.results.toList = [.cell 2 42] := rfl
  have hn := ne_new hr
  have hz := ne_new0 hr
  have hn' := ne_new' hr
  simp only [go_sem, Nat.reduceBEq, Nat.reduceLeDiff, Nat.reduceEqDiff, Nat.reduceSub, Nat.reduceAdd, Int.reduceEq, Int.reduceLT, Int.reduceLE, Int.reduceAdd]
  have rQ : (H.next = r) = False := eq_false (by omega)
  have qQ : (r = H.next) = False := eq_false (by omega)
  have pRQ : (H.next + 1 = H.next) = False := eq_false (by omega)
  have pQR : (H.next = H.next + 1) = False := eq_false (by omega)
  have rR : (H.next + 1 = r) = False := eq_false (by omega)
  have qR : (r = H.next + 1) = False := eq_false (by omega)
  have pBQ : (H.next + 2 = H.next) = False := eq_false (by omega)
  have pQB : (H.next = H.next + 2) = False := eq_false (by omega)
  have pBR : (H.next + 2 = H.next + 1) = False := eq_false (by omega)
  have pRB : (H.next + 1 = H.next + 2) = False := eq_false (by omega)
  have rB : (H.next + 2 = r) = False := eq_false (by omega)
  have qB : (r = H.next + 2) = False := eq_false (by omega)
  simp only [go_sem, Nat.reduceBEq, Nat.reduceLeDiff, Nat.reduceEqDiff, Nat.reduceSub, Nat.reduceAdd, Int.reduceEq, Int.reduceLT, Int.reduceLE, Int.reduceAdd, hg, hn, hz, hn', Nat.add_zero, rQ, qQ, pQR, pQB, rR, qR, pRQ, pRB, rB, qB, pBQ, pBR]
  refine goC_out (c_need (s := s) (l := l) (en := en) hlen hf (by first | omega | (simp only [go_sem, Nat.reduceBEq, Nat.reduceLeDiff, Nat.reduceEqDiff, Nat.reduceSub, Nat.reduceAdd, Int.reduceEq, Int.reduceLT, Int.reduceLE, Int.reduceAdd]; omega)) (by first | assumption | simp only [go_sem, Nat.reduceBEq, Nat.reduceLeDiff, Nat.reduceEqDiff, Nat.reduceSub, Nat.reduceAdd, Int.reduceEq, Int.reduceLT, Int.reduceLE, Int.reduceAdd, hg, hn, hz, hn', Nat.add_zero, rQ, qQ, pQR, pQB, rR, qR, pRQ, pRB, rB, qB, pBQ, pBR]) [102, 117, 110] (by decide)) ?_ ?_
  case refine_2 =>
    intro q9 hq9 H9 had
    have hb9 : (funcP l en s).1.f = some q9 := by
      show (blockF l en FN (names l en (nameP l en (need l en s tFun)).1).1 0).1.f = some q9
      have hq8 : (need l en s tFun).f = some q9 := hq9
      rw [show (nameP l en (need l en s tFun)).1 = need l en s tFun from nameP_bad (ok_some hq8), show (names l en (need l en s tFun)).1 = need l en s tFun from names_bad (ok_some hq8), blockF_bad (ok_some hq8)]
      exact hq8
    rw [outP_some hb9]
    simp only [go_sem, Nat.reduceBEq, Nat.reduceLeDiff, Nat.reduceEqDiff, Nat.reduceSub, Nat.reduceAdd, Int.reduceEq, Int.reduceLT, Int.reduceLE, Int.reduceAdd, san_trouble]
    (repeat first | exact Adv.refl _ _ | assumption | refine Adv.trans ?_ had | refine Adv.trans ?_ ha1 | refine Adv.trans ?_ ha2 | refine Adv.trans ?_ ha3 | refine Adv.trans ?_ ha4 | refine Adv.trans ?_ ha5 | refine Adv.trans ?_ ha6 | refine Adv.trans ?_ ha7 | refine Adv.trans ?_ ha8 | refine Adv.trans ?_ ha9 | refine Adv.trans ?_ ha10 | refine Adv.trans ?_ ha11 | refine Adv.trans ?_ ha12 | apply Adv.up | apply Adv.put | refine Adv.new ?_ (by omega) _ | refine Adv.live ?_ (by omega) _ | refine Adv.owns ?_ (by omega) (by first | exact OwnB.lo ‹_› | exact fun _ _ _ h => by cases h))
  intro hf1 H1 hg1 ha1
  have hl1 := ha1.1
  try simp only [go_sem, Nat.reduceBEq, Nat.reduceLeDiff, Nat.reduceEqDiff, Nat.reduceSub, Nat.reduceAdd, Int.reduceEq, Int.reduceLT, Int.reduceLE, Int.reduceAdd] at hl1
  have hr1 : r < H1.next := by omega
  have hn1 := ne_new hr1
  have hz1 := ne_new0 hr1
  have hx1 := ne_new' hr1
  have bQ1 : H1.get (H.next) = some ([.ptr r 0]) := (ha1.get (by first | omega | (simp only [go_sem, Nat.reduceBEq, Nat.reduceLeDiff, Nat.reduceEqDiff, Nat.reduceSub, Nat.reduceAdd, Int.reduceEq, Int.reduceLT, Int.reduceLE, Int.reduceAdd]; omega)) (by omega)).trans (by simp only [go_sem, Nat.reduceBEq, Nat.reduceLeDiff, Nat.reduceEqDiff, Nat.reduceSub, Nat.reduceAdd, Int.reduceEq, Int.reduceLT, Int.reduceLE, Int.reduceAdd, hg, hn, hz, hn', Nat.add_zero, rQ, qQ, pQR, pQB, rR, qR, pRQ, pRB, rB, qB, pBQ, pBR])
  have cQ1 : ∀ j, (H1.next + j = H.next) = False := fun j => eq_false (by omega)
  have dQ1 : (H1.next = H.next) = False := eq_false (by omega)
  have eQ1 : ∀ j, (H.next = H1.next + j) = False := fun j => eq_false (by omega)
  have bR1 : H1.get (H.next + 1) = some ([.lit (.string (ba [])), .sl .nil [], .sl .nil []]) := (ha1.get (by first | omega | (simp only [go_sem, Nat.reduceBEq, Nat.reduceLeDiff, Nat.reduceEqDiff, Nat.reduceSub, Nat.reduceAdd, Int.reduceEq, Int.reduceLT, Int.reduceLE, Int.reduceAdd]; omega)) (by omega)).trans (by simp only [go_sem, Nat.reduceBEq, Nat.reduceLeDiff, Nat.reduceEqDiff, Nat.reduceSub, Nat.reduceAdd, Int.reduceEq, Int.reduceLT, Int.reduceLE, Int.reduceAdd, hg, hn, hz, hn', Nat.add_zero, rQ, qQ, pQR, pQB, rR, qR, pRQ, pRB, rB, qB, pBQ, pBR])
  have cR1 : ∀ j, (H1.next + j = H.next + 1) = False := fun j => eq_false (by omega)
  have dR1 : (H1.next = H.next + 1) = False := eq_false (by omega)
  have eR1 : ∀ j, (H.next + 1 = H1.next + j) = False := fun j => eq_false (by omega)
  have bB1 : H1.get (H.next + 2) = some ([.lit (.string (ba [])), .sl .nil [], .sl .nil []]) := (ha1.get (by first | omega | (simp only [go_sem, Nat.reduceBEq, Nat.reduceLeDiff, Nat.reduceEqDiff, Nat.reduceSub, Nat.reduceAdd, Int.reduceEq, Int.reduceLT, Int.reduceLE, Int.reduceAdd]; omega)) (by omega)).trans (by simp only [go_sem, Nat.reduceBEq, Nat.reduceLeDiff, Nat.reduceEqDiff, Nat.reduceSub, Nat.reduceAdd, Int.reduceEq, Int.reduceLT, Int.reduceLE, Int.reduceAdd, hg, hn, hz, hn', Nat.add_zero, rQ, qQ, pQR, pQB, rR, qR, pRQ, pRB, rB, qB, pBQ, pBR])
  have cB1 : ∀ j, (H1.next + j = H.next + 2) = False := fun j => eq_false (by omega)
  have dB1 : (H1.next = H.next + 2) = False := eq_false (by omega)
  have eB1 : ∀ j, (H.next + 2 = H1.next + j) = False := fun j => eq_false (by omega)
  simp only [go_sem, Nat.reduceBEq, Nat.reduceLeDiff, Nat.reduceEqDiff, Nat.reduceSub, Nat.reduceAdd, Int.reduceEq, Int.reduceLT, Int.reduceLE, Int.reduceAdd, hg1, hn, hz, hn', Nat.add_zero, hn1, hz1, hx1, bQ1, cQ1, dQ1, eQ1, rQ, qQ, pQR, pQB, bR1, cR1, dR1, eR1, rR, qR, pRQ, pRB, bB1, cB1, dB1, eB1, rB, qB, pBQ, pBR]
  refine goC_out (c_name (s := (need l en s [102, 117, 110])) (l := l) (en := en) hlen hf1 (by first | omega | (simp only [go_sem, Nat.reduceBEq, Nat.reduceLeDiff, Nat.reduceEqDiff, Nat.reduceSub, Nat.reduceAdd, Int.reduceEq, Int.reduceLT, Int.reduceLE, Int.reduceAdd]; omega)) (by first | assumption | simp only [go_sem, Nat.reduceBEq, Nat.reduceLeDiff, Nat.reduceEqDiff, Nat.reduceSub, Nat.reduceAdd, Int.reduceEq, Int.reduceLT, Int.reduceLE, Int.reduceAdd, hg1, hn, hz, hn', Nat.add_zero, hn1, hz1, hx1, bQ1, cQ1, dQ1, eQ1, rQ, qQ, pQR, pQB, bR1, cR1, dR1, eR1, rR, qR, pRQ, pRB, bB1, cB1, dB1, eB1, rB, qB, pBQ, pBR])) ?_ ?_
  case refine_2 =>
    intro q9 hq9 H9 had
    have hb9 : (funcP l en s).1.f = some q9 := by
      show (blockF l en FN (names l en (nameP l en (need l en s tFun)).1).1 0).1.f = some q9
      have hq8 : (nameP l en (need l en s tFun)).1.f = some q9 := hq9
      rw [show (names l en (nameP l en (need l en s tFun)).1).1 = (nameP l en (need l en s tFun)).1 from names_bad (ok_some hq8), blockF_bad (ok_some hq8)]
      exact hq8
    rw [outP_some hb9]
    simp only [go_sem, Nat.reduceBEq, Nat.reduceLeDiff, Nat.reduceEqDiff, Nat.reduceSub, Nat.reduceAdd, Int.reduceEq, Int.reduceLT, Int.reduceLE, Int.reduceAdd, san_trouble]
    (repeat first | exact Adv.refl _ _ | assumption | refine Adv.trans ?_ had | refine Adv.trans ?_ ha1 | refine Adv.trans ?_ ha2 | refine Adv.trans ?_ ha3 | refine Adv.trans ?_ ha4 | refine Adv.trans ?_ ha5 | refine Adv.trans ?_ ha6 | refine Adv.trans ?_ ha7 | refine Adv.trans ?_ ha8 | refine Adv.trans ?_ ha9 | refine Adv.trans ?_ ha10 | refine Adv.trans ?_ ha11 | refine Adv.trans ?_ ha12 | apply Adv.up | apply Adv.put | refine Adv.new ?_ (by omega) _ | refine Adv.live ?_ (by omega) _ | refine Adv.owns ?_ (by omega) (by first | exact OwnB.lo ‹_› | exact fun _ _ _ h => by cases h))
  intro hf2 H2 hg2 ha2
  have hl2 := ha2.1
  try simp only [go_sem, Nat.reduceBEq, Nat.reduceLeDiff, Nat.reduceEqDiff, Nat.reduceSub, Nat.reduceAdd, Int.reduceEq, Int.reduceLT, Int.reduceLE, Int.reduceAdd] at hl2
  have hr2 : r < H2.next := by omega
  have hn2 := ne_new hr2
  have hz2 := ne_new0 hr2
  have hx2 := ne_new' hr2
  have bQ2 : H2.get (H.next) = some ([.ptr r 0]) := (ha2.get (by first | omega | (simp only [go_sem, Nat.reduceBEq, Nat.reduceLeDiff, Nat.reduceEqDiff, Nat.reduceSub, Nat.reduceAdd, Int.reduceEq, Int.reduceLT, Int.reduceLE, Int.reduceAdd]; omega)) (by omega)).trans (by simp only [go_sem, Nat.reduceBEq, Nat.reduceLeDiff, Nat.reduceEqDiff, Nat.reduceSub, Nat.reduceAdd, Int.reduceEq, Int.reduceLT, Int.reduceLE, Int.reduceAdd, hg1, hn, hz, hn', Nat.add_zero, hn1, hz1, hx1, bQ1, cQ1, dQ1, eQ1, rQ, qQ, pQR, pQB, bR1, cR1, dR1, eR1, rR, qR, pRQ, pRB, bB1, cB1, dB1, eB1, rB, qB, pBQ, pBR])
  have cQ2 : ∀ j, (H2.next + j = H.next) = False := fun j => eq_false (by omega)
  have dQ2 : (H2.next = H.next) = False := eq_false (by omega)
  have eQ2 : ∀ j, (H.next = H2.next + j) = False := fun j => eq_false (by omega)
  have bR2 : H2.get (H.next + 1) = some ([.lit (.string (ba [])), .sl .nil [], .sl .nil []]) := (ha2.get (by first | omega | (simp only [go_sem, Nat.reduceBEq, Nat.reduceLeDiff, Nat.reduceEqDiff, Nat.reduceSub, Nat.reduceAdd, Int.reduceEq, Int.reduceLT, Int.reduceLE, Int.reduceAdd]; omega)) (by omega)).trans (by simp only [go_sem, Nat.reduceBEq, Nat.reduceLeDiff, Nat.reduceEqDiff, Nat.reduceSub, Nat.reduceAdd, Int.reduceEq, Int.reduceLT, Int.reduceLE, Int.reduceAdd, hg1, hn, hz, hn', Nat.add_zero, hn1, hz1, hx1, bQ1, cQ1, dQ1, eQ1, rQ, qQ, pQR, pQB, bR1, cR1, dR1, eR1, rR, qR, pRQ, pRB, bB1, cB1, dB1, eB1, rB, qB, pBQ, pBR])
  have cR2 : ∀ j, (H2.next + j = H.next + 1) = False := fun j => eq_false (by omega)
  have dR2 : (H2.next = H.next + 1) = False := eq_false (by omega)
  have eR2 : ∀ j, (H.next + 1 = H2.next + j) = False := fun j => eq_false (by omega)
  have bB2 : H2.get (H.next + 2) = some ([.lit (.string (ba [])), .sl .nil [], .sl .nil []]) := (ha2.get (by first | omega | (simp only [go_sem, Nat.reduceBEq, Nat.reduceLeDiff, Nat.reduceEqDiff, Nat.reduceSub, Nat.reduceAdd, Int.reduceEq, Int.reduceLT, Int.reduceLE, Int.reduceAdd]; omega)) (by omega)).trans (by simp only [go_sem, Nat.reduceBEq, Nat.reduceLeDiff, Nat.reduceEqDiff, Nat.reduceSub, Nat.reduceAdd, Int.reduceEq, Int.reduceLT, Int.reduceLE, Int.reduceAdd, hg1, hn, hz, hn', Nat.add_zero, hn1, hz1, hx1, bQ1, cQ1, dQ1, eQ1, rQ, qQ, pQR, pQB, bR1, cR1, dR1, eR1, rR, qR, pRQ, pRB, bB1, cB1, dB1, eB1, rB, qB, pBQ, pBR])
  have cB2 : ∀ j, (H2.next + j = H.next + 2) = False := fun j => eq_false (by omega)
  have dB2 : (H2.next = H.next + 2) = False := eq_false (by omega)
  have eB2 : ∀ j, (H.next + 2 = H2.next + j) = False := fun j => eq_false (by omega)
  simp only [go_sem, Nat.reduceBEq, Nat.reduceLeDiff, Nat.reduceEqDiff, Nat.reduceSub, Nat.reduceAdd, Int.reduceEq, Int.reduceLT, Int.reduceLE, Int.reduceAdd, hg2, hn, hz, hn', Nat.add_zero, hn2, hz2, hx2, bQ2, cQ2, dQ2, eQ2, rQ, qQ, pQR, pQB, bR2, cR2, dR2, eR2, rR, qR, pRQ, pRB, bB2, cB2, dB2, eB2, rB, qB, pBQ, pBR]
  refine goC_out (c_need (s := (nameP l en (need l en s [102, 117, 110])).1) (l := l) (en := en) hlen hf2 (by first | omega | (simp only [go_sem, Nat.reduceBEq, Nat.reduceLeDiff, Nat.reduceEqDiff, Nat.reduceSub, Nat.reduceAdd, Int.reduceEq, Int.reduceLT, Int.reduceLE, Int.reduceAdd]; omega)) (by first | assumption | simp only [go_sem, Nat.reduceBEq, Nat.reduceLeDiff, Nat.reduceEqDiff, Nat.reduceSub, Nat.reduceAdd, Int.reduceEq, Int.reduceLT, Int.reduceLE, Int.reduceAdd, hg2, hn, hz, hn', Nat.add_zero, hn2, hz2, hx2, bQ2, cQ2, dQ2, eQ2, rQ, qQ, pQR, pQB, bR2, cR2, dR2, eR2, rR, qR, pRQ, pRB, bB2, cB2, dB2, eB2, rB, qB, pBQ, pBR]) [40] (by decide)) ?_ ?_
  case refine_2 =>
    intro q9 hq9 H9 had
    have hb9 : (funcP l en s).1.f = some q9 := by
      show (blockF l en FN (names l en (nameP l en (need l en s tFun)).1).1 0).1.f = some q9
      have hq8 : (names l en (nameP l en (need l en s tFun)).1).1.f = some q9 := by
        show (names l en (nameP l en (need l en s [102, 117, 110])).1).1.f = some q9
        simp only [names, listP_bad _ _ (ok_some hq9)]; exact hq9
      rw [blockF_bad (ok_some hq8)]
      exact hq8
    rw [outP_some hb9]
    simp only [go_sem, Nat.reduceBEq, Nat.reduceLeDiff, Nat.reduceEqDiff, Nat.reduceSub, Nat.reduceAdd, Int.reduceEq, Int.reduceLT, Int.reduceLE, Int.reduceAdd, san_trouble]
    (repeat first | exact Adv.refl _ _ | assumption | refine Adv.trans ?_ had | refine Adv.trans ?_ ha1 | refine Adv.trans ?_ ha2 | refine Adv.trans ?_ ha3 | refine Adv.trans ?_ ha4 | refine Adv.trans ?_ ha5 | refine Adv.trans ?_ ha6 | refine Adv.trans ?_ ha7 | refine Adv.trans ?_ ha8 | refine Adv.trans ?_ ha9 | refine Adv.trans ?_ ha10 | refine Adv.trans ?_ ha11 | refine Adv.trans ?_ ha12 | apply Adv.up | apply Adv.put | refine Adv.new ?_ (by omega) _ | refine Adv.live ?_ (by omega) _ | refine Adv.owns ?_ (by omega) (by first | exact OwnB.lo ‹_› | exact fun _ _ _ h => by cases h))
  intro hf3 H3 hg3 ha3
  have hl3 := ha3.1
  try simp only [go_sem, Nat.reduceBEq, Nat.reduceLeDiff, Nat.reduceEqDiff, Nat.reduceSub, Nat.reduceAdd, Int.reduceEq, Int.reduceLT, Int.reduceLE, Int.reduceAdd] at hl3
  have hr3 : r < H3.next := by omega
  have hn3 := ne_new hr3
  have hz3 := ne_new0 hr3
  have hx3 := ne_new' hr3
  have bQ3 : H3.get (H.next) = some ([.ptr r 0]) := (ha3.get (by first | omega | (simp only [go_sem, Nat.reduceBEq, Nat.reduceLeDiff, Nat.reduceEqDiff, Nat.reduceSub, Nat.reduceAdd, Int.reduceEq, Int.reduceLT, Int.reduceLE, Int.reduceAdd]; omega)) (by omega)).trans (by simp only [go_sem, Nat.reduceBEq, Nat.reduceLeDiff, Nat.reduceEqDiff, Nat.reduceSub, Nat.reduceAdd, Int.reduceEq, Int.reduceLT, Int.reduceLE, Int.reduceAdd, hg2, hn, hz, hn', Nat.add_zero, hn2, hz2, hx2, bQ2, cQ2, dQ2, eQ2, rQ, qQ, pQR, pQB, bR2, cR2, dR2, eR2, rR, qR, pRQ, pRB, bB2, cB2, dB2, eB2, rB, qB, pBQ, pBR])
  have cQ3 : ∀ j, (H3.next + j = H.next) = False := fun j => eq_false (by omega)
  have dQ3 : (H3.next = H.next) = False := eq_false (by omega)
  have eQ3 : ∀ j, (H.next = H3.next + j) = False := fun j => eq_false (by omega)
  have bR3 : H3.get (H.next + 1) = some ([.lit (.string (ba [])), .sl .nil [], .sl .nil []]) := (ha3.get (by first | omega | (simp only [go_sem, Nat.reduceBEq, Nat.reduceLeDiff, Nat.reduceEqDiff, Nat.reduceSub, Nat.reduceAdd, Int.reduceEq, Int.reduceLT, Int.reduceLE, Int.reduceAdd]; omega)) (by omega)).trans (by simp only [go_sem, Nat.reduceBEq, Nat.reduceLeDiff, Nat.reduceEqDiff, Nat.reduceSub, Nat.reduceAdd, Int.reduceEq, Int.reduceLT, Int.reduceLE, Int.reduceAdd, hg2, hn, hz, hn', Nat.add_zero, hn2, hz2, hx2, bQ2, cQ2, dQ2, eQ2, rQ, qQ, pQR, pQB, bR2, cR2, dR2, eR2, rR, qR, pRQ, pRB, bB2, cB2, dB2, eB2, rB, qB, pBQ, pBR])
  have cR3 : ∀ j, (H3.next + j = H.next + 1) = False := fun j => eq_false (by omega)
  have dR3 : (H3.next = H.next + 1) = False := eq_false (by omega)
  have eR3 : ∀ j, (H.next + 1 = H3.next + j) = False := fun j => eq_false (by omega)
  have bB3 : H3.get (H.next + 2) = some ([.lit (.string (ba (nameP l en (need l en s [102, 117, 110])).2)), .sl .nil [], .sl .nil []]) := (ha3.get (by first | omega | (simp only [go_sem, Nat.reduceBEq, Nat.reduceLeDiff, Nat.reduceEqDiff, Nat.reduceSub, Nat.reduceAdd, Int.reduceEq, Int.reduceLT, Int.reduceLE, Int.reduceAdd]; omega)) (by omega)).trans (by simp only [go_sem, Nat.reduceBEq, Nat.reduceLeDiff, Nat.reduceEqDiff, Nat.reduceSub, Nat.reduceAdd, Int.reduceEq, Int.reduceLT, Int.reduceLE, Int.reduceAdd, hg2, hn, hz, hn', Nat.add_zero, hn2, hz2, hx2, bQ2, cQ2, dQ2, eQ2, rQ, qQ, pQR, pQB, bR2, cR2, dR2, eR2, rR, qR, pRQ, pRB, bB2, cB2, dB2, eB2, rB, qB, pBQ, pBR])
  have cB3 : ∀ j, (H3.next + j = H.next + 2) = False := fun j => eq_false (by omega)
  have dB3 : (H3.next = H.next + 2) = False := eq_false (by omega)
  have eB3 : ∀ j, (H.next + 2 = H3.next + j) = False := fun j => eq_false (by omega)
  obtain ⟨_, hat1, hat2⟩ := need_lt (l := l) (en := en) (nameP l en (need l en s [102, 117, 110])).1 [40] (ok_none hf3)
  simp only [go_sem, Nat.reduceBEq, Nat.reduceLeDiff, Nat.reduceEqDiff, Nat.reduceSub, Nat.reduceAdd, Int.reduceEq, Int.reduceLT, Int.reduceLE, Int.reduceAdd, hg3, hn, hz, hn', Nat.add_zero, hn3, hz3, hx3, bQ3, cQ3, dQ3, eQ3, rQ, qQ, pQR, pQB, bR3, cR3, dR3, eR3, rR, qR, pRQ, pRB, bB3, cB3, dB3, eB3, rB, qB, pBQ, pBR]
  refine goC_LC (c_list (s := (need l en (nameP l en (need l en s [102, 117, 110])).1 [40])) (en := en) hlen (oneName_ok (l := l) (en := en) (r := r) hlen H H.next (H.next + 2) [(H.next + 1, [.lit (.string (ba [])), .sl .nil [], .sl .nil []])] (nameP l en (need l en s [102, 117, 110])).2) [41] (by decide) [] hf3 ⟨⟨hr, by omega, by simp only [go_sem, Nat.reduceBEq, Nat.reduceLeDiff, Nat.reduceEqDiff, Nat.reduceSub, Nat.reduceAdd, Int.reduceEq, Int.reduceLT, Int.reduceLE, Int.reduceAdd]; omega, by omega, by simp only [go_sem, Nat.reduceBEq, Nat.reduceLeDiff, Nat.reduceEqDiff, Nat.reduceSub, Nat.reduceAdd, Int.reduceEq, Int.reduceLT, Int.reduceLE, Int.reduceAdd]; omega, by omega, by simp only [go_sem, Nat.reduceBEq, Nat.reduceLeDiff, Nat.reduceEqDiff, Nat.reduceSub, Nat.reduceAdd, Int.reduceEq, Int.reduceLT, Int.reduceLE, Int.reduceAdd, hg3], by simp only [go_sem, Nat.reduceBEq, Nat.reduceLeDiff, Nat.reduceEqDiff, Nat.reduceSub, Nat.reduceAdd, Int.reduceEq, Int.reduceLT, Int.reduceLE, Int.reduceAdd, bQ3], ?_, hat2, fun x hx => ?_⟩, by simp, .nil, by simp only [go_sem, Nat.reduceBEq, Nat.reduceLeDiff, Nat.reduceEqDiff, Nat.reduceSub, Nat.reduceAdd, Int.reduceEq, Int.reduceLT, Int.reduceLE, Int.reduceAdd, bB3, List.map_nil], OwnB.nil _ _ _ _⟩) ?_ ?_
  · (repeat first | exact Adv.refl _ _ | assumption | refine Adv.trans ?_ had | refine Adv.trans ?_ ha1 | refine Adv.trans ?_ ha2 | refine Adv.trans ?_ ha3 | refine Adv.trans ?_ ha4 | refine Adv.trans ?_ ha5 | refine Adv.trans ?_ ha6 | refine Adv.trans ?_ ha7 | refine Adv.trans ?_ ha8 | refine Adv.trans ?_ ha9 | refine Adv.trans ?_ ha10 | refine Adv.trans ?_ ha11 | refine Adv.trans ?_ ha12 | apply Adv.up | apply Adv.put | refine Adv.new ?_ (by omega) _ | refine Adv.live ?_ (by omega) _ | refine Adv.owns ?_ (by omega) (by first | exact OwnB.lo ‹_› | exact fun _ _ _ h => by cases h))
  · simp only [List.mem_cons, List.not_mem_nil, or_false] at hx
    subst hx
    exact ⟨by simp only; omega, by simp only; omega, by simp only [go_sem, Nat.reduceBEq, Nat.reduceLeDiff, Nat.reduceEqDiff, Nat.reduceSub, Nat.reduceAdd, Int.reduceEq, Int.reduceLT, Int.reduceLE, Int.reduceAdd]; omega, by simp only [go_sem, Nat.reduceBEq, Nat.reduceLeDiff, Nat.reduceEqDiff, Nat.reduceSub, Nat.reduceAdd, Int.reduceEq, Int.reduceLT, Int.reduceLE, Int.reduceAdd, bR3]⟩
  case refine_4 =>
    intro q9 hq9 H9 had
    have hb9 : (funcP l en s).1.f = some q9 := by
      show (blockF l en FN (names l en (nameP l en (need l en s tFun)).1).1 0).1.f = some q9
      have hq8 : (names l en (nameP l en (need l en s tFun)).1).1.f = some q9 := hq9
      rw [blockF_bad (ok_some hq8)]
      exact hq8
    rw [outP_some hb9]
    simp only [go_sem, Nat.reduceBEq, Nat.reduceLeDiff, Nat.reduceEqDiff, Nat.reduceSub, Nat.reduceAdd, Int.reduceEq, Int.reduceLT, Int.reduceLE, Int.reduceAdd, san_trouble]
    exact had
  intro hfo H4 hI4
  obtain ⟨hL, hbn, o, g4, ho4⟩ := hI4
  have hg4 : H4.get r = some (cP l en (names l en (nameP l en (need l en s [102, 117, 110])).1).1) := hL.gr
  have ha4 := hL.ad
  have hl4 := hL.b1
  have hfo' : (names l en (nameP l en (need l en s [102, 117, 110])).1).1.f = none := hfo
  have hr4 : r < H4.next := by omega
  have hn4 := ne_new hr4
  have hz4 := ne_new0 hr4
  have hx4 := ne_new' hr4
  have bQ4 : H4.get (H.next) = some ([.ptr r 0]) := hL.gq
  have cQ4 : ∀ j, (H4.next + j = H.next) = False := fun j => eq_false (by omega)
  have dQ4 : (H4.next = H.next) = False := eq_false (by omega)
  have eQ4 : ∀ j, (H.next = H4.next + j) = False := fun j => eq_false (by omega)
  have bR4 : H4.get (H.next + 1) = some ([.lit (.string (ba [])), .sl .nil [], .sl .nil []]) := (hL.kk (H.next + 1, [.lit (.string (ba [])), .sl .nil [], .sl .nil []]) (by simp)).2.2.2
  have cR4 : ∀ j, (H4.next + j = H.next + 1) = False := fun j => eq_false (by omega)
  have dR4 : (H4.next = H.next + 1) = False := eq_false (by omega)
  have eR4 : ∀ j, (H.next + 1 = H4.next + j) = False := fun j => eq_false (by omega)
  have bB4 : H4.get (H.next + 2) = some ([.lit (.string (ba (nameP l en (need l en s [102, 117, 110])).2)), .sl o ((names l en (nameP l en (need l en s [102, 117, 110])).1).2.map encStr), .sl .nil []]) := g4
  have cB4 : ∀ j, (H4.next + j = H.next + 2) = False := fun j => eq_false (by omega)
  have dB4 : (H4.next = H.next + 2) = False := eq_false (by omega)
  have eB4 : ∀ j, (H.next + 2 = H4.next + j) = False := fun j => eq_false (by omega)
  simp only [go_sem, Nat.reduceBEq, Nat.reduceLeDiff, Nat.reduceEqDiff, Nat.reduceSub, Nat.reduceAdd, Int.reduceEq, Int.reduceLT, Int.reduceLE, Int.reduceAdd, hg4, hn, hz, hn', Nat.add_zero, hn4, hz4, hx4, bQ4, cQ4, dQ4, eQ4, rQ, qQ, pQR, pQB, bR4, cR4, dR4, eR4, rR, qR, pRQ, pRB, bB4, cB4, dB4, eB4, rB, qB, pBQ, pBR]
  have hblk := fun H hr hg => (c_pBlocks (en := en) hlen FN).2 r (names l en (nameP l en (need l en s [102, 117, 110])).1).1 0 H (rem_FN hlen _) (by omega) hfo' hr hg
  refine goC_out (hblk _ (by first | omega | (simp only [go_sem, Nat.reduceBEq, Nat.reduceLeDiff, Nat.reduceEqDiff, Nat.reduceSub, Nat.reduceAdd, Int.reduceEq, Int.reduceLT, Int.reduceLE, Int.reduceAdd]; omega)) (by first | assumption | simp only [go_sem, Nat.reduceBEq, Nat.reduceLeDiff, Nat.reduceEqDiff, Nat.reduceSub, Nat.reduceAdd, Int.reduceEq, Int.reduceLT, Int.reduceLE, Int.reduceAdd, hg4, hn, hz, hn', Nat.add_zero, hn4, hz4, hx4, bQ4, cQ4, dQ4, eQ4, rQ, qQ, pQR, pQB, bR4, cR4, dR4, eR4, rR, qR, pRQ, pRB, bB4, cB4, dB4, eB4, rB, qB, pBQ, pBR])) ?_ ?_
  case refine_2 =>
    intro q9 hq9 H9 had
    have hb9 : (funcP l en s).1.f = some q9 := by
      show (blockF l en FN (names l en (nameP l en (need l en s tFun)).1).1 0).1.f = some q9
      exact hq9
    rw [outP_some hb9]
    simp only [go_sem, Nat.reduceBEq, Nat.reduceLeDiff, Nat.reduceEqDiff, Nat.reduceSub, Nat.reduceAdd, Int.reduceEq, Int.reduceLT, Int.reduceLE, Int.reduceAdd, san_trouble]
    (repeat first | exact Adv.refl _ _ | assumption | refine Adv.trans ?_ had | refine Adv.trans ?_ ha1 | refine Adv.trans ?_ ha2 | refine Adv.trans ?_ ha3 | refine Adv.trans ?_ ha4 | refine Adv.trans ?_ ha5 | refine Adv.trans ?_ ha6 | refine Adv.trans ?_ ha7 | refine Adv.trans ?_ ha8 | refine Adv.trans ?_ ha9 | refine Adv.trans ?_ ha10 | refine Adv.trans ?_ ha11 | refine Adv.trans ?_ ha12 | apply Adv.up | apply Adv.put | refine Adv.new ?_ (by omega) _ | refine Adv.live ?_ (by omega) _ | refine Adv.owns ?_ (by omega) (by first | exact OwnB.lo ‹_› | exact fun _ _ _ h => by cases h))
  intro hf5 H5 hg5 ha5
  have hl5 := ha5.1
  try simp only [go_sem, Nat.reduceBEq, Nat.reduceLeDiff, Nat.reduceEqDiff, Nat.reduceSub, Nat.reduceAdd, Int.reduceEq, Int.reduceLT, Int.reduceLE, Int.reduceAdd] at hl5
  have hr5 : r < H5.next := by omega
  have hn5 := ne_new hr5
  have hz5 := ne_new0 hr5
  have hx5 := ne_new' hr5
  have bQ5 : H5.get (H.next) = some ([.ptr r 0]) := (ha5.get (by first | omega | (simp only [go_sem, Nat.reduceBEq, Nat.reduceLeDiff, Nat.reduceEqDiff, Nat.reduceSub, Nat.reduceAdd, Int.reduceEq, Int.reduceLT, Int.reduceLE, Int.reduceAdd]; omega)) (by omega)).trans (by simp only [go_sem, Nat.reduceBEq, Nat.reduceLeDiff, Nat.reduceEqDiff, Nat.reduceSub, Nat.reduceAdd, Int.reduceEq, Int.reduceLT, Int.reduceLE, Int.reduceAdd, hg4, hn, hz, hn', Nat.add_zero, hn4, hz4, hx4, bQ4, cQ4, dQ4, eQ4, rQ, qQ, pQR, pQB, bR4, cR4, dR4, eR4, rR, qR, pRQ, pRB, bB4, cB4, dB4, eB4, rB, qB, pBQ, pBR])
  have cQ5 : ∀ j, (H5.next + j = H.next) = False := fun j => eq_false (by omega)
  have dQ5 : (H5.next = H.next) = False := eq_false (by omega)
  have eQ5 : ∀ j, (H.next = H5.next + j) = False := fun j => eq_false (by omega)
  have bR5 : H5.get (H.next + 1) = some ([.lit (.string (ba [])), .sl .nil [], .sl .nil []]) := (ha5.get (by first | omega | (simp only [go_sem, Nat.reduceBEq, Nat.reduceLeDiff, Nat.reduceEqDiff, Nat.reduceSub, Nat.reduceAdd, Int.reduceEq, Int.reduceLT, Int.reduceLE, Int.reduceAdd]; omega)) (by omega)).trans (by simp only [go_sem, Nat.reduceBEq, Nat.reduceLeDiff, Nat.reduceEqDiff, Nat.reduceSub, Nat.reduceAdd, Int.reduceEq, Int.reduceLT, Int.reduceLE, Int.reduceAdd, hg4, hn, hz, hn', Nat.add_zero, hn4, hz4, hx4, bQ4, cQ4, dQ4, eQ4, rQ, qQ, pQR, pQB, bR4, cR4, dR4, eR4, rR, qR, pRQ, pRB, bB4, cB4, dB4, eB4, rB, qB, pBQ, pBR])
  have cR5 : ∀ j, (H5.next + j = H.next + 1) = False := fun j => eq_false (by omega)
  have dR5 : (H5.next = H.next + 1) = False := eq_false (by omega)
  have eR5 : ∀ j, (H.next + 1 = H5.next + j) = False := fun j => eq_false (by omega)
  have bB5 : H5.get (H.next + 2) = some ([.lit (.string (ba (nameP l en (need l en s [102, 117, 110])).2)), .sl o ((names l en (nameP l en (need l en s [102, 117, 110])).1).2.map encStr), .sl .nil []]) := (ha5.get (by first | omega | (simp only [go_sem, Nat.reduceBEq, Nat.reduceLeDiff, Nat.reduceEqDiff, Nat.reduceSub, Nat.reduceAdd, Int.reduceEq, Int.reduceLT, Int.reduceLE, Int.reduceAdd]; omega)) (by omega)).trans (by simp only [go_sem, Nat.reduceBEq, Nat.reduceLeDiff, Nat.reduceEqDiff, Nat.reduceSub, Nat.reduceAdd, Int.reduceEq, Int.reduceLT, Int.reduceLE, Int.reduceAdd, hg4, hn, hz, hn', Nat.add_zero, hn4, hz4, hx4, bQ4, cQ4, dQ4, eQ4, rQ, qQ, pQR, pQB, bR4, cR4, dR4, eR4, rR, qR, pRQ, pRB, bB4, cB4, dB4, eB4, rB, qB, pBQ, pBR])
  have cB5 : ∀ j, (H5.next + j = H.next + 2) = False := fun j => eq_false (by omega)
  have dB5 : (H5.next = H.next + 2) = False := eq_false (by omega)
  have eB5 : ∀ j, (H.next + 2 = H5.next + j) = False := fun j => eq_false (by omega)
  have hf5' : (funcP l en s).1.f = none := hf5
  rw [outP_none hf5']
  have eF : ([.lit (.string (ba (nameP l en (need l en s [102, 117, 110])).2)), .sl .sh ((names l en (nameP l en (need l en s [102, 117, 110])).1).2.map encStr), .sl .sh ((blockF l en FN (names l en (nameP l en (need l en s [102, 117, 110])).1).1 0).2.map encStmt)] : List AV) = encFunc (funcP l en s).2 := rfl
  have eS : (blockF l en FN (names l en (nameP l en (need l en s [102, 117, 110])).1).1 0).1 = (funcP l en s).1 := rfl
  simp only [go_sem, Nat.reduceBEq, Nat.reduceLeDiff, Nat.reduceEqDiff, Nat.reduceSub, Nat.reduceAdd, Int.reduceEq, Int.reduceLT, Int.reduceLE, Int.reduceAdd, hg5, hn, hz, hn', Nat.add_zero, hn5, hz5, hx5, bQ5, cQ5, dQ5, eQ5, rQ, qQ, pQR, pQB, bR5, cR5, dR5, eR5, rR, qR, pRQ, pRB, bB5, cB5, dB5, eB5, rB, qB, pBQ, pBR, rs, sanLL_encStr, sanLL_encStmt, eF, eS]
  (repeat first | exact Adv.refl _ _ | assumption | refine Adv.trans ?_ had | refine Adv.trans ?_ ha1 | refine Adv.trans ?_ ha2 | refine Adv.trans ?_ ha3 | refine Adv.trans ?_ ha4 | refine Adv.trans ?_ ha5 | refine Adv.trans ?_ ha6 | refine Adv.trans ?_ ha7 | refine Adv.trans ?_ ha8 | refine Adv.trans ?_ ha9 | refine Adv.trans ?_ ha10 | refine Adv.trans ?_ ha11 | refine Adv.trans ?_ ha12 | apply Adv.up | apply Adv.put | refine Adv.new ?_ (by omega) _ | refine Adv.live ?_ (by omega) _ | refine Adv.owns ?_ (by omega) (by first | exact OwnB.lo ‹_› | exact fun _ _ _ h => by cases h))
end
end Go.Proofs.YtghhkbigmmjanaaGreatDoor.VA

/-! Pg1 -/
namespace Go.Proofs.YtghhkbigmmjanaaGreatDoor.VA
open Go Go.RowKit
attribute [local go_sem] Nat.add_eq_left Nat.left_eq_add true_and and_true ite_true if_false Int.cast_ofNat_Int eq_self Nat.add_assoc Option.some.injEq decide_true decide_false Bool.not_true Bool.not_false List.size_toArray List.length_cons List.length_nil
set_option linter.unusedSimpArgs false
set_option maxRecDepth 100000

/-! ### the reader's code, in three pieces -/
noncomputable def read0 : Code := match Tryz.f27.body with | some (.seq a _) => a | _ => .skip
noncomputable def read1 : Code := match Tryz.f27.body with | some (.seq _ (.seq a _)) => a | _ => .skip
noncomputable def read2 : Code := match Tryz.f27.body with | some (.seq _ (.seq _ a)) => a | _ => .skip
theorem read_body : Tryz.f27.body = some (.seq read0 (.seq read1 read2)) := rfl
/-- How the reader ends. -/
def RestQ (l : List GTok) (en : Int) : Post := fun x e H => match x with
  | .ret => (progF l en FN ⟨0, 0, none⟩ []).1.f = none ∧ gget .bad e 4 = .ptr 0 0 ∧ gget .bad e 5 = .ptr 1 0 ∧ (∃ o, H.get 0 = some [.sl o ((progF l en FN ⟨0, 0, none⟩ []).2.map encFunc)]) ∧ H.get 1 = some [.lit (.int .i64 0), .lit (.int .i64 0)]
  | .pan v => ∃ q, (progF l en FN ⟨0, 0, none⟩ []).1.f = some q ∧ v = encTrouble q.1 q.2 ∧ (∃ x, H.get 0 = some [x]) ∧ (∃ x y, H.get 1 = some [x, y])
  | _ => False
section
variable {l : List GTok} {en : Int} {e : List AV} {H : Heap}
@[go_sem] theorem RestQ_ret : RestQ l en .ret e H = ((progF l en FN ⟨0, 0, none⟩ []).1.f = none ∧ gget .bad e 4 = .ptr 0 0 ∧ gget .bad e 5 = .ptr 1 0 ∧ (∃ o, H.get 0 = some [.sl o ((progF l en FN ⟨0, 0, none⟩ []).2.map encFunc)]) ∧
    H.get 1 = some [.lit (.int .i64 0), .lit (.int .i64 0)]) := rfl
@[go_sem] theorem RestQ_pan {v : AV} : RestQ l en (.pan v) e H = (∃ q, (progF l en FN ⟨0, 0, none⟩ []).1.f = some q ∧ v = encTrouble q.1 q.2 ∧ (∃ x, H.get 0 = some [x]) ∧ (∃ x y, H.get 1 = some [x, y])) := rfl
set_option maxRecDepth 20000 in
theorem rest_run (hlen : l.length ≤ LM) (h0 : gget .bad e 0 = .sl .sh (l.map encG)) (h1 : gget .bad e 1 = .lit (.int .i64 en)) (h4 : gget .bad e 4 = .ptr 0 0) (h5 : gget .bad e 5 = .ptr 1 0) (g0 : H.get 0 = some [.sl .nil []])
    (g1 : H.get 1 = some [.lit (.int .i64 0), .lit (.int .i64 0)]) (hn : 2 ≤ H.next) : W Tryz.prog cfg read2 [] e H (RestQ l en) := by
  obtain ⟨m, hm⟩ : ∃ m, H.next = m + 2 := ⟨H.next - 2, by omega⟩
  generalize hq0 : progF l en FN ⟨0, 0, none⟩ [] = q
  have e0 : ([.sl .sh (l.map encG), .lit (.int .i64 0), .lit (.int .i64 en), .lit (.int .i64 0)] : List AV) = cP l en ⟨0, 0, none⟩ := rfl
  unfold read2
  simp only [Tryz.f27]
  simp only [go_sem, Nat.reduceBEq, Nat.reduceLeDiff, Nat.reduceEqDiff, Nat.reduceSub, Nat.reduceAdd, Int.reduceEq, Int.reduceLT, Int.reduceLE, Int.reduceAdd, h0, h1, h4, h5, g0, g1, hm, e0]
  refine W_loop_ind (fun x e H' => ∃ (s : PS) (acc : List GFunc) (o : Own) (k : Nat), x = ms l s ∧ ms l s < k ∧ s.f = none ∧ progF l en k s acc = q ∧ acc.length ≤ s.at_ ∧ acc.length ≤ l.length ∧
      gget .bad e 0 = .sl .sh (l.map encG) ∧ gget .bad e 4 = .ptr 0 0 ∧ gget .bad e 5 = .ptr 1 0 ∧ gget .bad e 6 = .ptr (m + 5) 0 ∧ H'.get 0 = some [.sl o (acc.map encFunc)] ∧ H'.get 1 = some [.lit (.int .i64 0), .lit (.int .i64 0)] ∧
      H'.get (m + 5) = some (cP l en s) ∧ m + 7 ≤ H'.next ∧ OwnB H' o 42 3 (m + 6))
    (ms l ⟨0, 0, none⟩) ⟨⟨0, 0, none⟩, [], .nil, FN, rfl, ms_FN hlen _, rfl, hq0, by simp, by simp, by simp only [go_sem, Nat.reduceBEq, Nat.reduceLeDiff, Nat.reduceEqDiff, Nat.reduceSub, Nat.reduceAdd, Int.reduceEq, Int.reduceLT, Int.reduceLE, Int.reduceAdd, h0], by simp only [go_sem, Nat.reduceBEq, Nat.reduceLeDiff, Nat.reduceEqDiff, Nat.reduceSub, Nat.reduceAdd, Int.reduceEq, Int.reduceLT, Int.reduceLE, Int.reduceAdd, h4], by simp only [go_sem, Nat.reduceBEq, Nat.reduceLeDiff, Nat.reduceEqDiff, Nat.reduceSub, Nat.reduceAdd, Int.reduceEq, Int.reduceLT, Int.reduceLE, Int.reduceAdd, h5], by simp only [go_sem, Nat.reduceBEq, Nat.reduceLeDiff, Nat.reduceEqDiff, Nat.reduceSub, Nat.reduceAdd, Int.reduceEq, Int.reduceLT, Int.reduceLE, Int.reduceAdd], by simp only [go_sem, Nat.reduceBEq, Nat.reduceLeDiff, Nat.reduceEqDiff, Nat.reduceSub, Nat.reduceAdd, Int.reduceEq, Int.reduceLT, Int.reduceLE, Int.reduceAdd, g0, List.map_nil], by simp only [go_sem, Nat.reduceBEq, Nat.reduceLeDiff, Nat.reduceEqDiff, Nat.reduceSub, Nat.reduceAdd, Int.reduceEq, Int.reduceLT, Int.reduceLE, Int.reduceAdd, g1], by simp only [go_sem, Nat.reduceBEq, Nat.reduceLeDiff, Nat.reduceEqDiff, Nat.reduceSub, Nat.reduceAdd, Int.reduceEq, Int.reduceLT, Int.reduceLE, Int.reduceAdd], by simp only [go_sem, Nat.reduceBEq, Nat.reduceLeDiff, Nat.reduceEqDiff, Nat.reduceSub, Nat.reduceAdd, Int.reduceEq, Int.reduceLT, Int.reduceLE, Int.reduceAdd, hm, Nat.le_refl], OwnB.nil _ _ _ _⟩ ?_
  rintro x ih e H ⟨s, acc, o, k, rfl, hk, hf, hq, hb1, hb2, h0, h4, h5, h6, g0, g1, g5, hnx, ho⟩
  have hok := ok_none hf
  by_cases hlt : s.at_ < l.length
  · have hlt' : decide ((s.at_ : Int) < (l.length : Nat)) = true := by simp; omega
    obtain ⟨k, rfl, h2⟩ := progF_more (en := en) (acc := acc) (s := s) (by rw [hok, Bool.true_and]; simp [hlt]) hk
    rw [h2] at hq
    simp only [go_sem, Nat.reduceBEq, Nat.reduceLeDiff, Nat.reduceEqDiff, Nat.reduceSub, Nat.reduceAdd, Int.reduceEq, Int.reduceLT, Int.reduceLE, Int.reduceAdd, h0, h4, h5, h6, g5, List.length_map, hlt']
    refine W_drawE [(1, 3)] [[1, 5, 6, 7], [5, 6, 7], [3, 4, 5, 6, 7], [4, 5, 6, 7], [5, 6, 7], [6, 7], [7], []] (by kernel_rfl) ?_
    simp only [go_sem, Nat.reduceBEq, Nat.reduceLeDiff, Nat.reduceEqDiff, Nat.reduceSub, Nat.reduceAdd, Int.reduceEq, Int.reduceLT, Int.reduceLE, Int.reduceAdd, h0, h4, h5, h6, g0, g1, g5]
    refine eK_out rfl (c_function (s := s) (l := l) (en := en) hlen hf (by simp only [go_sem, Nat.reduceBEq, Nat.reduceLeDiff, Nat.reduceEqDiff, Nat.reduceSub, Nat.reduceAdd, Int.reduceEq, Int.reduceLT, Int.reduceLE, Int.reduceAdd]; omega) (by simp only [go_sem, Nat.reduceBEq, Nat.reduceLeDiff, Nat.reduceEqDiff, Nat.reduceSub, Nat.reduceAdd, Int.reduceEq, Int.reduceLT, Int.reduceLE, Int.reduceAdd, g5])) ?_ ?_
    · intro hf1 H1 hg1 ha1
      have hl1 := ha1.1
      simp only [go_sem, Nat.reduceBEq, Nat.reduceLeDiff, Nat.reduceEqDiff, Nat.reduceSub, Nat.reduceAdd, Int.reduceEq, Int.reduceLT, Int.reduceLE, Int.reduceAdd] at hl1
      have b0 : H1.get 0 = some [.sl o (acc.map encFunc)] := (ha1.get (by simp only [go_sem, Nat.reduceBEq, Nat.reduceLeDiff, Nat.reduceEqDiff, Nat.reduceSub, Nat.reduceAdd, Int.reduceEq, Int.reduceLT, Int.reduceLE, Int.reduceAdd]; omega) (by omega)).trans (by simp only [go_sem, Nat.reduceBEq, Nat.reduceLeDiff, Nat.reduceEqDiff, Nat.reduceSub, Nat.reduceAdd, Int.reduceEq, Int.reduceLT, Int.reduceLE, Int.reduceAdd, g0])
      have b1 : H1.get 1 = some [.lit (.int .i64 0), .lit (.int .i64 0)] := (ha1.get (by simp only [go_sem, Nat.reduceBEq, Nat.reduceLeDiff, Nat.reduceEqDiff, Nat.reduceSub, Nat.reduceAdd, Int.reduceEq, Int.reduceLT, Int.reduceLE, Int.reduceAdd]; omega) (by omega)).trans (by simp only [go_sem, Nat.reduceBEq, Nat.reduceLeDiff, Nat.reduceEqDiff, Nat.reduceSub, Nat.reduceAdd, Int.reduceEq, Int.reduceLT, Int.reduceLE, Int.reduceAdd, g1])
      have hkeep := ha1.keeps (k := 0) (by simp only [go_sem, Nat.reduceBEq, Nat.reduceLeDiff, Nat.reduceEqDiff, Nat.reduceSub, Nat.reduceAdd, Int.reduceEq, Int.reduceLT, Int.reduceLE, Int.reduceAdd]; omega) (by omega)
      have ho1 := ((ho.up 7).up 8).adv ha1 (by omega)
      have hoA := ho1.appOk acc.length
      have hap := fun o x H id h => app_fun hlen (acc := acc) (by omega) o x H id h
      have hltf := funcP_lt (l := l) (en := en) s
      have hms := ms_lt hltf hok
      obtain ⟨_, q2, q3⟩ := hltf (ok_none hf1)
      have n0 : (0 = m + 5) = False := eq_false (by omega)
      have n1 : (1 = m + 5) = False := eq_false (by omega)
      simp only [go_sem, Nat.reduceBEq, Nat.reduceLeDiff, Nat.reduceEqDiff, Nat.reduceSub, Nat.reduceAdd, Int.reduceEq, Int.reduceLT, Int.reduceLE, Int.reduceAdd, h0, h4, h5, h6, b0, b1, hkeep, hap, hoA]
      exact ih _ hms _ _ ⟨_, _, _, k, rfl, by omega, hf1, hq, by simp only [List.length_append, List.length_cons, List.length_nil]; omega, by simp only [List.length_append, List.length_cons, List.length_nil]; omega, by simp only [go_sem, Nat.reduceBEq, Nat.reduceLeDiff, Nat.reduceEqDiff, Nat.reduceSub, Nat.reduceAdd, Int.reduceEq, Int.reduceLT, Int.reduceLE, Int.reduceAdd, h0], by simp only [go_sem, Nat.reduceBEq, Nat.reduceLeDiff, Nat.reduceEqDiff, Nat.reduceSub, Nat.reduceAdd, Int.reduceEq, Int.reduceLT, Int.reduceLE, Int.reduceAdd, h4], by simp only [go_sem, Nat.reduceBEq, Nat.reduceLeDiff, Nat.reduceEqDiff, Nat.reduceSub, Nat.reduceAdd, Int.reduceEq, Int.reduceLT, Int.reduceLE, Int.reduceAdd, h5], by simp only [go_sem, Nat.reduceBEq, Nat.reduceLeDiff, Nat.reduceEqDiff, Nat.reduceSub, Nat.reduceAdd, Int.reduceEq, Int.reduceLT, Int.reduceLE, Int.reduceAdd, h6],
        by simp only [go_sem, Nat.reduceBEq, Nat.reduceLeDiff, Nat.reduceEqDiff, Nat.reduceSub, Nat.reduceAdd, Int.reduceEq, Int.reduceLT, Int.reduceLE, Int.reduceAdd] <;> rfl, by simp only [go_sem, Nat.reduceBEq, Nat.reduceLeDiff, Nat.reduceEqDiff, Nat.reduceSub, Nat.reduceAdd, Int.reduceEq, Int.reduceLT, Int.reduceLE, Int.reduceAdd, b1], by simp only [go_sem, Nat.reduceBEq, Nat.reduceLeDiff, Nat.reduceEqDiff, Nat.reduceSub, Nat.reduceAdd, Int.reduceEq, Int.reduceLT, Int.reduceLE, Int.reduceAdd, n0, hg1], by simp only [go_sem, Nat.reduceBEq, Nat.reduceLeDiff, Nat.reduceEqDiff, Nat.reduceSub, Nat.reduceAdd, Int.reduceEq, Int.reduceLT, Int.reduceLE, Int.reduceAdd]; omega, (OwnB.app _ _ _ _ _ _ (by omega) (by omega)).put _ _⟩
    · intro q9 hq9 H1 had
      have b0 : H1.get 0 = some [.sl o (acc.map encFunc)] := (had.get (by simp only [go_sem, Nat.reduceBEq, Nat.reduceLeDiff, Nat.reduceEqDiff, Nat.reduceSub, Nat.reduceAdd, Int.reduceEq, Int.reduceLT, Int.reduceLE, Int.reduceAdd]; omega) (by omega)).trans (by simp only [go_sem, Nat.reduceBEq, Nat.reduceLeDiff, Nat.reduceEqDiff, Nat.reduceSub, Nat.reduceAdd, Int.reduceEq, Int.reduceLT, Int.reduceLE, Int.reduceAdd, g0])
      have b1 : H1.get 1 = some [.lit (.int .i64 0), .lit (.int .i64 0)] := (had.get (by simp only [go_sem, Nat.reduceBEq, Nat.reduceLeDiff, Nat.reduceEqDiff, Nat.reduceSub, Nat.reduceAdd, Int.reduceEq, Int.reduceLT, Int.reduceLE, Int.reduceAdd]; omega) (by omega)).trans (by simp only [go_sem, Nat.reduceBEq, Nat.reduceLeDiff, Nat.reduceEqDiff, Nat.reduceSub, Nat.reduceAdd, Int.reduceEq, Int.reduceLT, Int.reduceLE, Int.reduceAdd, g1])
      rw [progF_end (by rw [ok_some hq9, Bool.false_and])] at hq
      subst hq
      simp only [go_sem, Nat.reduceBEq, Nat.reduceLeDiff, Nat.reduceEqDiff, Nat.reduceSub, Nat.reduceAdd, Int.reduceEq, Int.reduceLT, Int.reduceLE, Int.reduceAdd, hq0]
      exact ⟨q9, hq9, rfl, ⟨_, b0⟩, _, _, b1⟩
  · have hlt' : decide ((s.at_ : Int) < (l.length : Nat)) = false := by simp; omega
    rw [progF_end (by simp [hlt])] at hq
    subst hq
    simp only [go_sem, Nat.reduceBEq, Nat.reduceLeDiff, Nat.reduceEqDiff, Nat.reduceSub, Nat.reduceAdd, Int.reduceEq, Int.reduceLT, Int.reduceLE, Int.reduceAdd, h0, h4, h5, h6, g0, g1, g5, List.length_map, hlt', hf, hq0]
    exact ⟨_, rfl⟩
end
end Go.Proofs.YtghhkbigmmjanaaGreatDoor.VA

/-! Pg2 -/
namespace Go.Proofs.YtghhkbigmmjanaaGreatDoor.VA
open Go Go.RowKit
attribute [local go_sem] Nat.add_eq_left Nat.left_eq_add true_and and_true ite_true if_false Int.cast_ofNat_Int eq_self Nat.add_assoc Option.some.injEq decide_true decide_false Bool.not_true Bool.not_false List.size_toArray List.length_cons List.length_nil
set_option linter.unusedSimpArgs false
set_option maxRecDepth 100000

theorem und_any : Tryz.prog.underlying 20 = some (.interface (Tryz.prog.methodsAt 20)) := by kernel_rfl
theorem catch_func : Tryz.prog.funcs[(52 : Nat)]? = some Tryz.f52 := rfl
theorem catch_idle (v0 v1 : Value) (w : World) :
    CallsD Tryz.prog 52 #[v0, v1] .returning w fun e u' w' => (∃ v, e = .returned v) ∧ u' = .returning ∧ w' = w := by
  have hnn : ∀ w, (binOp .neq 20 .nilIface .nilIface).run Tryz.prog w = .ok (.bool false) w := fun w => run_neq_nil_nil w _ und_any
  refine callsD_of_wpS catch_func rfl fun c₀ cs hu => ?_
  apply wpS_seq
  apply wpS_region
  simp [wpOpsS, go_sem, recoverD, hu, Exit.thenS]
  apply wpS_seq
  apply wpS_region
  simp [wpOpsS, go_sem, hnn, Exit.thenS]
  refine wpS_cond (t := false) (by simp [Act.eval]) ?_
  simp only [Bool.false_eq_true, if_false]
  refine wpS_of_wp (wp_skip ?_)
  cases c₀
  simp_all [bodyPostS, results, (show Tryz.f52.results = #[] from rfl)]
theorem trouble_inv {g : Gh} {w : World} {cd : Nat} {a : Int} {u : Value} (h : Rel g w (encTrouble cd a) u) : u = .iface 73 (.agg #[.int .i64 ((cd + 20 : Nat) : Int), .int .i64 a]) := by
  unfold encTrouble at h
  cases h with
  | ifc t x v h =>
    obtain ⟨vs, rfl, hL⟩ := h.agg_inv
    obtain ⟨l⟩ := vs
    have hL' : RelL g w [.lit (.int .i64 ((cd + 20 : Nat) : Int)), .lit (.int .i64 a)] l := hL
    match l, hL' with
    | [x, y], hL' => rw [hL'.head.lit_inv, hL'.tail.head.lit_inv]
    | [], hL' => exact absurd hL'.1 (by simp)
    | [_], hL' => exact absurd hL'.1 (by simp)
    | _ :: _ :: _ :: _, hL' => exact absurd hL'.1 (by simp)
theorem wpOps_step {P : Program} {ops : Array Oper} {Q : Exit → Act → World → Prop} {i : Nat} {rest : List Nat} {a : Act} {w : World} {o : Oper} {v : Value} (ho : ops[i]? = some o) (hg : o.guard = none) (hr : (execOp a.eval o).run P w = .ok (.value v) w)
    (h : wpOps P ops Q rest (a.put o.dst v) w) : wpOps P ops Q (i :: rest) a w := by
  simp only [wpOps, ho]
  rw [if_pos (by simp [Region.wanted, hg])]
  left
  simp only [Oper.wp, hr, Oper.upon_value]
  exact h
def CatchQ (k a : Int) : Post := fun x _ H => match x with
  | .nrm => H.get 0 = some [.sl .nil []] ∧ H.get 1 = some [.lit (.int .i64 k), .lit (.int .i64 a)]
  | _ => False
@[go_sem] theorem CatchQ_nrm {k a : Int} {e : List AV} {H : Heap} : CatchQ k a .nrm e H = (H.get 0 = some [.sl .nil []] ∧ H.get 1 = some [.lit (.int .i64 k), .lit (.int .i64 a)]) := rfl
def Catch2Q (N : Nat) (k a : Int) (x y z : AV) : Post := fun ex e H => match ex with
  | .nrm => gget .bad e 0 = .ptr 0 0 ∧ gget .bad e 1 = .ptr 1 0 ∧ gget .bad e 3 = .ptr (N + 5) 0 ∧ gget .bad e 4 = .lit (.bool true) ∧ H.get 0 = some [x] ∧ H.get 1 = some [y, z] ∧ H.get (N + 5) = some [.lit (.int .i64 k), .lit (.int .i64 a)] ∧ N + 8 ≤ H.next
  | _ => False
@[go_sem] theorem Catch2Q_nrm {N : Nat} {k a : Int} {x y z : AV} {e : List AV} {H : Heap} : Catch2Q N k a x y z .nrm e H = (gget .bad e 0 = .ptr 0 0 ∧ gget .bad e 1 = .ptr 1 0 ∧ gget .bad e 3 = .ptr (N + 5) 0 ∧ gget .bad e 4 = .lit (.bool true) ∧
    H.get 0 = some [x] ∧ H.get 1 = some [y, z] ∧ H.get (N + 5) = some [.lit (.int .i64 k), .lit (.int .i64 a)] ∧ N + 8 ≤ H.next) := rfl
set_option maxHeartbeats 1000000 in
theorem catch_pan (hcfg : CfgOk Tryz.prog cfg) {g : Gh} {H : Heap} {w : World} (hi : Inv g H w) (ht : Top g H.next) {v0 v1 u : Value} {cd : Nat} {a : Int} (h0 : Rel g w (.ptr 0 0) v0) (h1 : Rel g w (.ptr 1 0) v1) (hu : Rel g w (encTrouble cd a) u) {x y z : AV}
    (g0 : H.get 0 = some [x]) (g1 : H.get 1 = some [y, z]) (hn : 2 ≤ H.next) :
    CallsD Tryz.prog 52 #[v0, v1] (.panicking (oneEntry u)) w fun e u' w' => (∃ v, e = .returned v) ∧ u' = .panicking [{ v := u, recovered := true }] ∧
      ∃ g' H', Past H.next g w g' H' w' ∧ H'.get 0 = some [.sl .nil []] ∧ H'.get 1 = some [.lit (.int .i64 ((cd + 20 : Nat) : Int)), .lit (.int .i64 a)] := by
  obtain rfl := trouble_inv hu
  unfold encTrouble at hu
  generalize ((cd + 20 : Nat) : Int) = k at *
  have hnn : ∀ (x : Value) w, (binOp .neq 20 (.iface 73 x) .nilIface).run Tryz.prog w = .ok (.bool true) w := fun x w => run_neq_held_nil w _ _ _ und_any
  refine callsD_of_wpS catch_func rfl fun c₀ cs hc => ?_
  apply wpS_seq
  apply wpS_region
  simp [wpOpsS, go_sem, recoverD, hc, oneEntry, Exit.thenS]
  apply wpS_seq
  apply wpS_region
  simp [wpOpsS, go_sem, hnn, Exit.thenS]
  refine wpS_cond (t := true) (by simp [Act.eval]) ?_
  simp only [if_true]
  apply wpS_of_wp
  apply wp_seq
  apply wp_region
  show wpOps _ _ _ (0 :: 1 :: List.range' 2 6) _ _
  have hmk : ∀ (t : Array Value), t.getD 0 undef = v0 → t.getD 1 undef = v1 → t.getD 2 undef = Value.iface 73 (.agg #[.int .i64 k, .int .i64 a]) → EnvRel g w [.ptr 0 0, .ptr 1 0, .ifc 73 (.agg [.lit (.int .i64 k), .lit (.int .i64 a)])] t := by
    intro t t0 t1 t2 i
    match i with
    | 0 => rw [t0]; exact h0
    | 1 => rw [t1]; exact h1
    | 2 => rw [t2]; exact hu
    | n + 3 => exact .bad _
  have hta : ∀ (x : Value) w, (Instr.typeAssert (.iface 73 x) 20 73 true).run Tryz.prog w = .ok (.tuple #[x, .bool true]) w := by
    intro x w
    simp [Instr.typeAssert, run_underlying Tryz.underlying73 w]
  refine wpOps_step rfl rfl (v := Value.iface 73 (.agg #[.int .i64 k, .int .i64 a])) (by simp [execOp, Act.eval]) ?_
  refine wpOps_step rfl rfl (v := .tuple #[.agg #[.int .i64 k, .int .i64 a], .bool true]) ?_ ?_
  · simp [execOp, Act.eval, Act.put, hta]
  obtain ⟨m, hm⟩ : ∃ m, H.next = m + 2 := ⟨H.next - 2, by omega⟩
  have hn1 : (0 = m + 2 + 5) = False := eq_false (by omega)
  have hn2 : (1 = m + 2 + 5) = False := eq_false (by omega)
  refine WO_wp hcfg (H := H) (i := 2) (e := aput (aput [.ptr 0 0, .ptr 1 0, .ifc 73 (.agg [.lit (.int .i64 k), .lit (.int .i64 a)])] (some 9) (.ifc 73 (.agg [.lit (.int .i64 k), .lit (.int .i64 a)]))) (some 10) (.tup [.agg [.lit (.int .i64 k), .lit (.int .i64 a)], .lit (.bool true)]))
    (Q0 := Catch2Q H.next k a x y z) ?_ rfl (n := 19) ?_ hi ?_ ?_ ht rfl _ ?_
  · simp only [go_sem, Nat.reduceBEq, Nat.reduceLeDiff, Nat.reduceEqDiff, Nat.reduceSub, Nat.reduceAdd, Int.reduceEq, Int.reduceLT, Int.reduceLE, Int.reduceAdd, List.drop_succ_cons, List.drop_zero, List.toList_toArray, g0, g1, hm, Nat.le_refl]
  · decide
  · refine EnvRel.put (EnvRel.put (hmk _ (by simp) (by simp) (by simp)) (by intro d hd; cases hd; simp) hu) (by intro d hd; cases hd; simp [size_put]) (Rel.mk_tup (RelL.cons (Rel.mk_agg (RelL.cons (.lit _) (RelL.cons (.lit _) (RelL.nil _ _)))) (RelL.cons (.lit _) (RelL.nil _ _))))
  · simp [size_put]
  intro x1 e1 H1 g1' x1' a1 w1 hq hp hk hs hx
  cases x1 with
  | ret => exact hq.elim
  | exit j => exact hq.elim
  | pan v => exact hq.elim
  | nrm =>
  obtain ⟨rfl, hen⟩ := hx
  obtain ⟨q0, q1, q3, q4, b0, b1, b5, hnx⟩ := hq
  refine W_wp hcfg (Q0 := CatchQ k a) ?_ (n := 19) (by kernel_rfl) hp.inv hen hs hp.top _ ?_
  · obtain ⟨m1, hm1⟩ : ∃ m1, H1.next = m1 + 2 := ⟨H1.next - 2, by omega⟩
    have hn3 : (0 = H.next + 5) = False := eq_false (by omega)
    have hn4 : (1 = H.next + 5) = False := eq_false (by omega)
    have hn5 : (H.next + 5 = 0) = False := eq_false (by omega)
    have hn6 : (H.next + 5 = 1) = False := eq_false (by omega)
    simp only [go_sem, Nat.reduceBEq, Nat.reduceLeDiff, Nat.reduceEqDiff, Nat.reduceSub, Nat.reduceAdd, Int.reduceEq, Int.reduceLT, Int.reduceLE, Int.reduceAdd, q0, q1, q3, q4, b0, b1, b5, hm1]
    refine W_draw [(2, 3)] (by kernel_rfl) ?_
    simp only [go_sem, Nat.reduceBEq, Nat.reduceLeDiff, Nat.reduceEqDiff, Nat.reduceSub, Nat.reduceAdd, Int.reduceEq, Int.reduceLT, Int.reduceLE, Int.reduceAdd, q0, q1, q3, q4, b0, b1, b5, hm1, hn3, hn4, hn5, hn6]
  intro x2 e2 H2 g2' x2' a2 w2 hq2 hp2 hk2 hs2 hx2
  cases x2 with
  | ret => exact hq2.elim
  | exit j => exact hq2.elim
  | pan v => exact hq2.elim
  | nrm =>
  obtain ⟨rfl, hen2⟩ := hx2
  refine ⟨hk2.1.trans (hk.1.trans (by simp [defers_put])), _, rfl, .tuple #[], by simp [results, (show Tryz.f52.results = #[] from rfl)], ⟨_, rfl⟩, rfl, g2', H2, hp.trans hp2 hp.next, hq2.1, hq2.2⟩
end Go.Proofs.YtghhkbigmmjanaaGreatDoor.VA

/-! Pg3 -/
namespace Go.Proofs.YtghhkbigmmjanaaGreatDoor.VA
open Go Go.RowKit
attribute [local go_sem] Nat.add_eq_left Nat.left_eq_add true_and and_true ite_true if_false Int.cast_ofNat_Int eq_self Nat.add_assoc Option.some.injEq decide_true decide_false Bool.not_true Bool.not_false List.size_toArray List.length_cons List.length_nil
set_option linter.unusedSimpArgs false
set_option maxRecDepth 100000

theorem toks_inv : ∀ (es : List (List AV)) (l : List GTok), toks es = some l → es = l.map encG
  | [], l, h => by simp [toks] at h; subst h; rfl
  | e :: es, l, h => by
    have step : ∀ (k : Int) (t : ByteArray) (a : Int), e = [.lit (.int .i64 k), .lit (.string t), .lit (.int .i64 a)] → e :: es = l.map encG := by
      rintro k t a rfl
      simp only [toks] at h
      cases ht : toks es with
      | none => rw [ht] at h; cases h
      | some l' =>
        rw [ht] at h
        simp at h
        subst h
        rw [toks_inv es l' ht]
        simp only [List.map_cons, encG, ← ba_eta]
    unfold toks at h
    split at h
    · rename_i heq; cases heq
    · rename_i heq
      simp only [List.cons.injEq] at heq
      exact step _ _ _ heq.1
    · cases h
theorem tRead_inv {args : List AV} {v : AV} (h : tRead args = some v) : ∃ o l en, args = [.sl o (l.map encG), .lit (.int .i64 en)] ∧ l.length ≤ LM ∧ v = encRead (readP l en) := by
  unfold tRead at h
  split at h
  · rename_i o es en
    split at h
    · rename_i l hl
      split at h
      · rename_i hlen
        simp at h
        exact ⟨o, l, en, by rw [toks_inv es l hl], hlen, h.symm⟩
      · cases h
    · cases h
  · cases h
theorem wpOps_defer {P : Program} {ops : Array Oper} {Q : Exit → Act → World → Prop} {i : Nat} {rest : List Nat} {a : Act} {w : World} {o : Oper} {d : Deferred} (ho : ops[i]? = some o) (hg : o.guard = none) (hr : (execOp a.eval o).run P w = .ok (.defer d) w)
    (h : wpOps P ops Q rest ({ a with defers := d :: a.defers }.put o.dst undef) w) : wpOps P ops Q (i :: rest) a w := by
  simp only [wpOps, ho]
  rw [if_pos (by simp [Region.wanted, hg])]
  left
  simp only [Oper.wp, hr, Oper.upon_defer]
  exact h
/-- A call in memory of its own, seen by the caller. -/
theorem own_back {g g' : Gh} {H H' : Heap} {w w' : World} (hi : Inv g H w) (hp : Past 0 { lo := w.heap.size, vis := g.vis, box := fun _ => none, own := fun _ => none } w g' H' w') :
    Ext g w { g with vis := g'.vis } w' ∧ Inv { g with vis := g'.vis } H w' := by
  have hx := hp.ext
  have hsame : ∀ b, b < w.heap.size → w'.heap[b]? = w.heap[b]? := hx.low
  have hvis : ∀ b, b < w.heap.size → g'.vis b = g.vis b := hx.lowv
  have he : Ext g w { g with vis := g'.vis } w' :=
    ⟨rfl, hx.os, hx.tape, hx.output, hx.size, fun b hb => hsame b (Nat.lt_of_lt_of_le hb hi.lo), fun b hb => hvis b (Nat.lt_of_lt_of_le hb hi.lo), hx.vis, hx.cell, fun _ _ h => h, fun _ _ h => h⟩
  refine ⟨he, ⟨Nat.le_trans hi.lo hx.size, hp.inv.fresh, ?_, hi.boxI, ?_, ?_, hi.liveI⟩⟩
  · intro r b hb
    obtain ⟨h1, h2, h3⟩ := hi.boxB r b hb
    exact ⟨h1, Nat.lt_of_lt_of_le h2 hx.size, by rw [← h3]; exact hvis b h2⟩
  · intro r cs hr
    obtain ⟨b, vs, t, h1, h2, h3⟩ := hi.box r cs hr
    exact ⟨b, vs, t, h1, by rw [hsame b (hi.boxB r b h1).2.1]; exact h2, h3.ext he⟩
  · intro s hs
    obtain ⟨b, n, cap, e, sz, vs, h1, h2, h3, h4, h5, h6, h7, h8⟩ := hi.live s hs
    have hlt : b < w.heap.size := (Array.getElem?_eq_some_iff.1 h3).1
    exact ⟨b, n, cap, e, sz, vs, h1, h2, by rw [hsame b hlt]; exact h3, h4, h5, h6, by rw [← h7]; exact hvis b hlt, h8⟩
def Read0Q (l : List GTok) (en : Int) : Post := fun x e H => match x with
  | .nrm => gget .bad e 0 = .sl .sh (l.map encG) ∧ gget .bad e 1 = .lit (.int .i64 en) ∧ gget .bad e 4 = .ptr 0 0 ∧ gget .bad e 5 = .ptr 1 0 ∧ H.get 0 = some [.sl .nil []] ∧ H.get 1 = some [.lit (.int .i64 0), .lit (.int .i64 0)] ∧ H.next = 2
  | _ => False
@[go_sem] theorem Read0Q_nrm {l : List GTok} {en : Int} {e : List AV} {H : Heap} : Read0Q l en .nrm e H = (gget .bad e 0 = .sl .sh (l.map encG) ∧ gget .bad e 1 = .lit (.int .i64 en) ∧ gget .bad e 4 = .ptr 0 0 ∧ gget .bad e 5 = .ptr 1 0 ∧
    H.get 0 = some [.sl .nil []] ∧ H.get 1 = some [.lit (.int .i64 0), .lit (.int .i64 0)] ∧ H.next = 2) := rfl
theorem read0_run (l : List GTok) (en : Int) : W Tryz.prog cfg read0 [] [.sl .sh (l.map encG), .lit (.int .i64 en)] Heap.empty (Read0Q l en) := by
  unfold read0
  simp only [Tryz.f27]
  simp only [go_sem, Nat.reduceBEq, Nat.reduceLeDiff, Nat.reduceEqDiff, Nat.reduceSub, Nat.reduceAdd, Int.reduceEq, Int.reduceLT, Int.reduceLE, Int.reduceAdd]
/-- From the two results, as they lie, to what the reader answers. -/
theorem read_fin {l : List GTok} {en : Int} {g g' : Gh} {H H' : Heap} {w w' : World} {e : List AV} {tmps : Array Value} {o : Own} {fs : List GFunc} {k : Nat} {a : Int} (hi : Inv g H w)
    (hp : Past 0 { lo := w.heap.size, vis := g.vis, box := fun _ => none, own := fun _ => none } w g' H' w') (he : EnvRel g' w' e tmps) (e4 : gget .bad e 4 = .ptr 0 0) (e5 : gget .bad e 5 = .ptr 1 0)
    (b0 : H'.get 0 = some [.sl o (fs.map encFunc)]) (b1 : H'.get 1 = some [.lit (.int .i64 (k : Nat)), .lit (.int .i64 a)]) (hr : readP l en = (fs, k, a)) :
    ∃ v, (results Tryz.f27 tmps).run Tryz.prog w' = .ok v w' ∧ ∃ u g1, Ending.returned v = .returned u ∧ Ext g w g1 w' ∧ Inv g1 H w' ∧ g1.box = g.box ∧ g1.own = g.own ∧ Rel g1 w' (encRead (readP l en)) u := by
  have hres : aResults Tryz.prog e H' Tryz.f27.results.toList = some [.agg [.sl o (fs.map encFunc)], .agg [.lit (.int .i64 (k : Nat)), .lit (.int .i64 a)]] := by
    have rs : Tryz.f27.results.toList = [.cell 4 24, .cell 5 27] := rfl
    simp only [go_sem, Nat.reduceBEq, Nat.reduceLeDiff, Nat.reduceEqDiff, Nat.reduceSub, Nat.reduceAdd, Int.reduceEq, Int.reduceLT, Int.reduceLE, Int.reduceAdd, rs, e4, e5, b0, b1]
  obtain ⟨u, h1, h2⟩ := results_sound hres hp.inv he
  obtain ⟨hx, hv⟩ := own_back hi hp
  refine ⟨u, h1, u, _, rfl, hx, hv, rfl, rfl, ?_⟩
  have h3 := h2.san (g' := { g with vis := g'.vis }) (fun _ => Nat.le_refl _)
  rw [hr]
  have h4 : san (oneOr [.agg [.sl o (fs.map encFunc)], .agg [.lit (.int .i64 (k : Nat)), .lit (.int .i64 a)]]) = encRead (fs, k, a) := by
    simp only [go_sem, Nat.reduceBEq, Nat.reduceLeDiff, Nat.reduceEqDiff, Nat.reduceSub, Nat.reduceAdd, Int.reduceEq, Int.reduceLT, Int.reduceLE, Int.reduceAdd, encRead]
  rw [← h4]
  exact h3
end Go.Proofs.YtghhkbigmmjanaaGreatDoor.VA

/-! Pg4 -/
namespace Go.Proofs.YtghhkbigmmjanaaGreatDoor.VA
open Go Go.RowKit
set_option linter.unusedSimpArgs false
set_option maxRecDepth 100000

theorem read_func : Tryz.prog.funcs[(27 : Nat)]? = some Tryz.f27 := rfl
theorem getD_init (vs : Array Value) (m : Nat) (h : vs.size = 2) : (vs ++ Array.replicate m undef).size = m + 2 := by simp [h]; omega
set_option maxHeartbeats 1000000 in
theorem read_calls (hcfg : CfgOk Tryz.prog cfg) {l : List GTok} {en : Int} (hlen : l.length ≤ LM) {o : Own} {g : Gh} {H : Heap} {w : World} {vs : Array Value} (hi : Inv g H w) (hr : RelL g w [.sl o (l.map encG), .lit (.int .i64 en)] vs.toList) :
    Calls Tryz.prog 27 vs w fun en' w' => ∃ u g', en' = .returned u ∧ Ext g w g' w' ∧ Inv g' H w' ∧ g'.box = g.box ∧ g'.own = g.own ∧ Rel g' w' (encRead (readP l en)) u := by
  have hvs : vs.size = 2 := by have := hr.1; simpa using this.symm
  have hr0 : RelL { lo := w.heap.size, vis := g.vis, box := fun _ => none, own := fun _ => none } w [.sl .sh (l.map encG), .lit (.int .i64 en)] vs.toList := by
    have := hr.san (g' := { lo := w.heap.size, vis := g.vis, box := fun _ => none, own := fun _ => none }) (fun _ => Nat.le_refl _)
    simpa only [sanL, san, sanLL_encG] using this
  refine calls_of_wp_defers read_func read_body ?_
  apply wp_seq
  have hsz : (vs ++ Array.replicate (Tryz.f27.ntmps - vs.size) undef).size = 28 := by rw [hvs]; exact getD_init vs 26 hvs
  refine W_wp hcfg (read0_run l en) (n := 28) (by kernel_rfl) (inv_empty hi) (env_init hr0 _) hsz (fun _ _ => ⟨rfl, rfl⟩) _ ?_
  intro x1 e1 H1 g1 x1' a1 w1 hq1 hp1 hk1 hs1 hx1
  cases x1 with
  | ret => exact hq1.elim
  | exit j => exact hq1.elim
  | pan v => exact hq1.elim
  | nrm =>
  obtain ⟨rfl, hen1⟩ := hx1
  obtain ⟨q0, q1, q4, q5, b0, b1, hnx⟩ := hq1
  have r4 : Rel g1 w1 (.ptr 0 0) (a1.tmps.getD 4 undef) := by have := hen1 4; rwa [q4] at this
  have r5 : Rel g1 w1 (.ptr 1 0) (a1.tmps.getD 5 undef) := by have := hen1 5; rwa [q5] at this
  show (Code.seq read1 read2).wp _ _ _ _
  apply wp_seq
  unfold read1
  simp only [Tryz.f27]
  apply wp_region
  show wpOps _ _ _ [0, 1] _ _
  refine wpOps_step rfl rfl (v := .func (.func 52) #[] #[a1.tmps.getD 4 undef, a1.tmps.getD 5 undef]) (by simp [execOp, Act.eval, Instr.makeFunc]) ?_
  refine wpOps_defer rfl rfl (d := { target := .fn (.func 52) #[a1.tmps.getD 4 undef, a1.tmps.getD 5 undef], args := #[] }) ?_ ?_
  · simp [execOp, resolve, Deferred.ofValue, Act.eval, Act.put, hs1]
  show Code.wp _ read2 _ _ _
  have hd1 : a1.defers = [] := hk1.1
  generalize hp4 : a1.tmps.getD 4 undef = p4 at r4 r5
  generalize hp5 : a1.tmps.getD 5 undef = p5 at r5
  have hen2 : EnvRel g1 w1 (aput e1 (some 7) .bad) (a1.put (some 7) (.func (.func 52) #[] #[p4, p5])).tmps := hen1.put (by intro d hd; simp only [Option.some.injEq] at hd; subst hd; rw [hs1]; decide) (.bad _)
  have hinv : ∀ w : World, (invoke (.fn (.func 52) #[p4, p5]) #[]).run Tryz.prog w = .ok (.enter 52 #[p4, p5]) w := fun w => by
    simp only [invoke, Array.empty_append, List.nil_append]
    exact callFunc_enter catch_func (by decide) rfl _ _
  show Code.wp _ read2 _ { tmps := (a1.put (some 7) (.func (.func 52) #[] #[p4, p5])).tmps, defers := { target := .fn (.func 52) #[p4, p5], args := #[] } :: a1.defers } w1
  refine W_wp hcfg (rest_run (l := l) (en := en) (e := aput e1 (some 7) .bad) hlen (by simp only [aput, gget_gset]; exact q0) (by simp only [aput, gget_gset]; exact q1) (by simp only [aput, gget_gset]; exact q4) (by simp only [aput, gget_gset]; exact q5) b0 b1 (by omega)) (n := 28) (by kernel_rfl) hp1.inv ?_ ?_ hp1.top _ ?_
  · exact hen2
  · show (a1.put (some 7) _).tmps.size = 28
    rw [size_put, hs1]
  intro x3 e3 H3 g3 x3' a3 w3 hq3 hp3 hk3 hs3 hx3
  have hd3 : a3.defers = [{ target := .fn (.func 52) #[p4, p5], args := #[] }] := by
    rw [hk3.1]; simp [hd1]
  have hpp := hp1.trans hp3 hp1.next
  have r4' := r4.ext hp3.ext
  have r5' := r5.ext hp3.ext
  cases x3 with
  | nrm => exact hq3.elim
  | exit j => exact hq3.elim
  | ret =>
    obtain ⟨hf, c4, c5, ⟨o3, d0⟩, d1⟩ := hq3
    obtain ⟨rfl, hen3⟩ := hx3
    show Leaves _ _ _ _ a3.defers .returning w3
    rw [hd3]
    refine leaves_cons (by simp) (hinv w3) ?_
    refine (catch_idle p4 p5 w3).mono ?_
    rintro en' u' w4 ⟨⟨v, rfl⟩, rfl, rfl⟩
    have hrd : readP l en = ((progF l en FN ⟨0, 0, none⟩ []).2, 0, 0) := by simp only [readP, hf]
    exact read_fin (k := 0) hi hpp hen3 c4 c5 d0 d1 hrd
  | pan v =>
    obtain ⟨q, hf, rfl, ⟨x, d0⟩, y, z, d1⟩ := hq3
    obtain ⟨u, rfl, hu⟩ := hx3
    show Leaves _ _ _ _ a3.defers (.panicking (oneEntry u)) w3
    rw [hd3]
    refine leaves_cons (by simp) (hinv w3) ?_
    refine (catch_pan hcfg hp3.inv hp3.top r4' r5' hu d0 d1 (by have := hp3.next; omega)).mono ?_
    rintro en' u' w4 ⟨⟨v, rfl⟩, rfl, g4, H4, hp6, c0, c1⟩
    have hrd : readP l en = ([], q.1 + 20, q.2) := by simp only [readP, hf]
    have k4 : a3.tmps.getD 4 undef = p4 := by rw [hk3.2 4 (by kernel_rfl), ← hp4]; simp [Act.put, Array.getD_eq_getD_getElem?]
    have k5 : a3.tmps.getD 5 undef = p5 := by rw [hk3.2 5 (by kernel_rfl), ← hp5]; simp [Act.put, Array.getD_eq_getD_getElem?]
    have hen4 : EnvRel g4 w4 [.bad, .bad, .bad, .bad, .ptr 0 0, .ptr 1 0] a3.tmps := by
      intro i
      match i with
      | 0 => exact .bad _
      | 1 => exact .bad _
      | 2 => exact .bad _
      | 3 => exact .bad _
      | 4 => rw [k4]; exact r4'.ext hp6.ext
      | 5 => rw [k5]; exact r5'.ext hp6.ext
      | n + 6 => exact .bad _
    exact read_fin (fs := []) hi (hpp.trans hp6 hpp.next) hen4 rfl rfl c0 c1 hrd
theorem read_told (hcfg : CfgOk Tryz.prog cfg) : ToldOk Tryz.prog 27 tRead := by
  refine ⟨fun vs w => callFunc_enter read_func (by decide) read_body vs w, fun args v h g H w vs hi hr => ?_⟩
  obtain ⟨o, l, en, rfl, hlen, rfl⟩ := tRead_inv h
  exact read_calls hcfg hlen hi hr
end Go.Proofs.YtghhkbigmmjanaaGreatDoor.VA

/-! Tj -/
namespace Go.Proofs.YtghhkbigmmjanaaGreatDoor.VA
open Go Go.RowKit
set_option linter.unusedSimpArgs false
set_option maxRecDepth 100000

theorem strs_some : ∀ (es : List (List AV)) (l : List (List UInt8)), strs es = some l → es = l.map encS
  | [], l, h => by simp [strs] at h; subst h; rfl
  | e :: es, l, h => by
    unfold strs at h
    split at h
    · rename_i heq; cases heq
    · rename_i s r heq
      obtain ⟨rfl, rfl⟩ := List.cons.inj heq
      cases hr : strs es with
      | none => simp [hr] at h
      | some l' =>
        simp [hr] at h
        subst h
        rw [strs_some es l' hr]
        simp [encS, ← ba_eta]
    · cases h
theorem join_none (a : Option Addr) (c : Nat) (sep : ByteArray) (w : World) : Calls Tryz.prog 44 #[.slice a 0 c, .string sep] w fun e w' => e = .returned (.string ⟨#[]⟩) ∧ w' = w := by
  go_enter Tryz.func44, Tryz.ntmps44
  go_wp2
  go_ret
  exact ⟨rfl, rfl⟩
theorem join_one (bk o c : Nat) (x sep : ByteArray) (w : World) (hc : w.cell? ⟨bk, o, none⟩ = some (.string x)) :
    Calls Tryz.prog 44 #[.slice (some ⟨bk, o, none⟩) 1 c, .string sep] w fun e w' => e = .returned (.string x) ∧ w' = w := by
  go_enter Tryz.func44, Tryz.ntmps44
  go_wp2
  go_ret
  exact ⟨rfl, rfl⟩
theorem lib_join_ba (l : List (List UInt8)) (sep : ByteArray) : (⟨(Lib.join ((l.map ba).map (·.data.toList)) sep.data.toList).toArray⟩ : ByteArray) = ba (joined sep.data.toList l) := by
  have : (l.map ba).map (·.data.toList) = l := by simp [Function.comp_def]
  rw [this]; rfl
theorem told_join : ToldOk Tryz.prog 44 tJoin := by
  refine ⟨fun vs w => callFunc_enter Tryz.func44 (by kernel_rfl) rfl vs w, ?_⟩
  intro args v h g H w vs hi hr
  unfold tJoin at h
  split at h
  · rename_i o es sep
    split at h
    · rename_i l hl
      split at h
      · rename_i hc
        simp only [Option.some.injEq] at h
        subst h
        obtain ⟨v0, v1, rfl⟩ := two_args (by have := hr.1; simpa using this)
        have h1 := hr.tail.head.lit_inv
        subst h1
        have h0 := hr.head
        have hes := strs_some _ _ hl
        subst hes
        have post : ∀ (r : Ending) (w' : World), (r = .returned (.string (ba (joined sep.data.toList l))) ∧ Below w.heap.size w w') →
            ∃ u g', r = .returned u ∧ Ext g w g' w' ∧ Inv g' H w' ∧ g'.box = g.box ∧ g'.own = g.own ∧ Rel g' w' (.lit (.string (ba (joined sep.data.toList l)))) u := by
          rintro r w' ⟨rfl, hb⟩
          obtain ⟨k1, k2⟩ := below_step hi hb
          exact ⟨_, g, rfl, k1, k2, rfl, rfl, .lit _⟩
        have none_case : ∀ (a : Option Addr) (c : Nat), l = [] → Calls Tryz.prog 44 #[.slice a 0 c, .string sep] w fun en w' => ∃ u g', en = .returned u ∧ Ext g w g' w' ∧ Inv g' H w' ∧ g'.box = g.box ∧ g'.own = g.own ∧
            Rel g' w' (.lit (.string (ba (joined sep.data.toList l)))) u := by
          intro a c hl0
          refine (join_none a c sep w).mono fun r w' hh => post r w' ?_
          obtain ⟨rfl, rfl⟩ := hh
          exact ⟨by rw [hl0]; rfl, Below.refl _ _⟩
        generalize hes : l.map encS = es at h0
        cases h0 with
        | sl _ _ a n cap sz f ho hn hcap hex hown hsz h1 ha hrel =>
          subst hes
          rw [List.length_map] at hn
          subst hn
          cases hlen : l.length with
          | zero => exact none_case a cap (List.eq_nil_of_length_eq_zero hlen)
          | succ m =>
            rw [← hlen]
            have hsz1 : sz = 1 := by
              have hne : l ≠ [] := by intro hh; rw [hh] at hlen; cases hlen
              obtain ⟨x, l', rfl⟩ : ∃ x l', l = x :: l' := by cases l with | nil => exact absurd rfl hne | cons x l' => exact ⟨x, l', rfl⟩
              exact (hsz (encS x) (by simp)).symm
            subst hsz1
            obtain ⟨b, off, rfl, hv, hcells⟩ := ha (by omega)
            have cells : ∀ (j : Nat) x, l[j]? = some x → w.cell? ⟨b, off + j, none⟩ = some (.string (ba x)) := by
              intro j x hx
              have hj : j < l.length := (List.getElem?_eq_some_iff.1 hx).1
              rw [hcells j (by omega)]
              have := hrel j (encS x) 0 (.lit (.string (ba x))) (by simp [hx]) rfl
              have := this.lit_inv
              simp at this
              rw [this]
            have hb : b < w.heap.size := by
              apply Classical.byContradiction
              intro hb
              have h2 := hcells 0 (by omega)
              simp [World.cell?, Array.getElem?_eq_none (show w.heap.size ≤ b by omega)] at h2
            cases m with
            | zero =>
              obtain ⟨x, rfl⟩ : ∃ x, l = [x] := by
                match l, hlen with
                | [x], _ => exact ⟨x, rfl⟩
              refine (join_one b off cap (ba x) sep w (cells 0 x rfl)).mono fun r w' hh => post r w' ?_
              obtain ⟨rfl, rfl⟩ := hh
              refine ⟨?_, Below.refl _ _⟩
              simp [joined, Lib.join_one]
            | succ m =>
              have hj := join_many b off cap (l.map ba) sep w (by
                intro j x hx
                rw [List.getElem?_map] at hx
                cases hl2 : l[j]? with
                | none => rw [hl2] at hx; cases hx
                | some y => rw [hl2] at hx; simp at hx; subst hx; exact cells j y hl2) hb (by simp; omega) (by simp; omega) (by simp; omega) (by
                have : (l.map ba).map (·.data.toList) = l := by simp [Function.comp_def]
                rw [this]; exact hc.1)
              rw [lib_join_ba, List.length_map] at hj
              exact hj.mono fun r w' hh => post r w' hh
        | nil =>
          exact none_case none 0 (List.map_eq_nil_iff.1 hes)
      · cases h
    · cases h
  · cases h
end Go.Proofs.YtghhkbigmmjanaaGreatDoor.VA
