/- What is proved: what the parser's statements and blocks answer, or panic with, in the abstract interpreter (VA). Condition: no more tokens than a machine holds. -/
import Derived.Test.YtghhkbigmmjanaaGreatDoorM8
/-! Pe9 -/
namespace Go.Proofs.YtghhkbigmmjanaaGreatDoor.VA
open Go Go.RowKit
attribute [local go_sem] Nat.add_eq_left Nat.left_eq_add true_and and_true ite_true if_false Int.cast_ofNat_Int eq_self Nat.add_assoc Option.some.injEq decide_true decide_false Bool.not_true Bool.not_false List.size_toArray List.length_cons List.length_nil
set_option linter.unusedSimpArgs false
set_option maxRecDepth 100000

section
variable {l : List GTok} {en : Int} {r : Nat} {s : PS} {H : Heap}
set_option maxRecDepth 20000 in
theorem c_assign (hlen : l.length ≤ LM) (hf : s.f = none) (hr : r < H.next) (hg : H.get r = some (cP l en s)) :
    PCall Tryz.prog cfg r 116 [.ptr r 0] H (outP l en (assign l en s).1 (.agg (encStmt (assign l en s).2))) := by
  obtain ⟨q1, q2, hq⟩ : ∃ q1 q2, assign l en s = (q1, q2) := ⟨_, _, rfl⟩
  rw [hq]
  show PCall _ _ _ _ _ _ (outP l en q1 (.agg (encStmt q2)))
  refine PCall_of' (fn := Tryz.f116) rfl rfl rfl rfl rfl ?_
  have rs : Tryz.f116.results.toList = [.cell 2 40] := rfl
  have eM := encStmt_mk
  have hn := ne_new hr
  have hz := ne_new0 hr
  have hn' := ne_new' hr
  simp only [go_sem, Nat.reduceBEq, Nat.reduceLeDiff, Nat.reduceEqDiff, Nat.reduceSub, Nat.reduceAdd, Int.reduceEq, Int.reduceLT, Int.reduceLE, Int.reduceAdd]
  have rR : (H.next = r) = False := eq_false (by omega)
  have qR : (r = H.next) = False := eq_false (by omega)
  refine goC_out (c_name (s := s) (l := l) (en := en) hlen hf (by first | omega | (simp only [go_sem, Nat.reduceBEq, Nat.reduceLeDiff, Nat.reduceEqDiff, Nat.reduceSub, Nat.reduceAdd, Int.reduceEq, Int.reduceLT, Int.reduceLE, Int.reduceAdd]; omega)) (by first | assumption | simp only [go_sem, Nat.reduceBEq, Nat.reduceLeDiff, Nat.reduceEqDiff, Nat.reduceSub, Nat.reduceAdd, Int.reduceEq, Int.reduceLT, Int.reduceLE, Int.reduceAdd, hg, hn, hz, hn', Nat.add_zero, rR, qR])) ?_ ?_
  case refine_2 =>
    intro q9 hq9 H9 had
    rw [outP_some (show q1.f = some q9 by rw [show q1 = (assign l en s).1 by rw [hq]]; simp only [assign, isT_bad (ok_some hq9), need_bad' (ok_some hq9), value_bad (ok_some hq9)]; exact hq9)]
    simp only [go_sem, Nat.reduceBEq, Nat.reduceLeDiff, Nat.reduceEqDiff, Nat.reduceSub, Nat.reduceAdd, Int.reduceEq, Int.reduceLT, Int.reduceLE, Int.reduceAdd, san_trouble]
    (repeat first | exact Adv.refl _ _ | assumption | refine Adv.trans ?_ had | refine Adv.trans ?_ ha1 | refine Adv.trans ?_ ha2 | refine Adv.trans ?_ ha3 | refine Adv.trans ?_ ha4 | refine Adv.trans ?_ ha5 | refine Adv.trans ?_ ha6 | refine Adv.trans ?_ ha7 | refine Adv.trans ?_ ha8 | refine Adv.trans ?_ ha9 | refine Adv.trans ?_ ha10 | refine Adv.trans ?_ ha11 | refine Adv.trans ?_ ha12 | apply Adv.up | apply Adv.put | refine Adv.new ?_ (by omega) _ | refine Adv.live ?_ (by omega) _ | refine Adv.owns ?_ (by omega) (by first | exact OwnB.lo ‹_› | exact fun _ _ _ h => by cases h))
  unfold assign at hq
  intro hf1 H1 hg1 ha1
  have hl1 := ha1.1
  try simp only [go_sem, Nat.reduceBEq, Nat.reduceLeDiff, Nat.reduceEqDiff, Nat.reduceSub, Nat.reduceAdd, Int.reduceEq, Int.reduceLT, Int.reduceLE, Int.reduceAdd] at hl1
  have hr1 : r < H1.next := by omega
  have hn1 := ne_new hr1
  have hz1 := ne_new0 hr1
  have hx1 := ne_new' hr1
  have bR1 : H1.get (H.next) = some ([.lit (.int .i64 0), .lit (.string (ba [])), .lit (.string (ba [])), .lit (.string (ba [])), .sl .nil [], .sl .nil [], .sl .nil [], .sl .nil []]) := (ha1.get (by first | omega | (simp only [go_sem, Nat.reduceBEq, Nat.reduceLeDiff, Nat.reduceEqDiff, Nat.reduceSub, Nat.reduceAdd, Int.reduceEq, Int.reduceLT, Int.reduceLE, Int.reduceAdd]; omega)) (by omega)).trans (by simp only [go_sem, Nat.reduceBEq, Nat.reduceLeDiff, Nat.reduceEqDiff, Nat.reduceSub, Nat.reduceAdd, Int.reduceEq, Int.reduceLT, Int.reduceLE, Int.reduceAdd, hg, hn, hz, hn', Nat.add_zero, rR, qR])
  have cR1 : ∀ j, (H1.next + j = H.next) = False := fun j => eq_false (by omega)
  have dR1 : (H1.next = H.next) = False := eq_false (by omega)
  have eR1 : ∀ j, (H.next = H1.next + j) = False := fun j => eq_false (by omega)
  simp only [go_sem, Nat.reduceBEq, Nat.reduceLeDiff, Nat.reduceEqDiff, Nat.reduceSub, Nat.reduceAdd, Int.reduceEq, Int.reduceLT, Int.reduceLE, Int.reduceAdd, hg1, hn, hz, hn', Nat.add_zero, hn1, hz1, hx1, bR1, cR1, dR1, eR1, rR, qR]
  cases h1 : isT l (nameP l en s).1 [46] with
  | true =>
    rw [h1] at hq
    cases hq
    refine goC_ok (c_take_yes (s := (nameP l en s).1) (l := l) (en := en) hlen hf1 (by first | omega | (simp only [go_sem, Nat.reduceBEq, Nat.reduceLeDiff, Nat.reduceEqDiff, Nat.reduceSub, Nat.reduceAdd, Int.reduceEq, Int.reduceLT, Int.reduceLE, Int.reduceAdd]; omega)) (by first | assumption | simp only [go_sem, Nat.reduceBEq, Nat.reduceLeDiff, Nat.reduceEqDiff, Nat.reduceSub, Nat.reduceAdd, Int.reduceEq, Int.reduceLT, Int.reduceLE, Int.reduceAdd, hg1, hn, hz, hn', Nat.add_zero, hn1, hz1, hx1, bR1, cR1, dR1, eR1, rR, qR]) (by decide) h1) ?_
    intro H2 hg2 ha2
    have hl2 := ha2.1
    try simp only [go_sem, Nat.reduceBEq, Nat.reduceLeDiff, Nat.reduceEqDiff, Nat.reduceSub, Nat.reduceAdd, Int.reduceEq, Int.reduceLT, Int.reduceLE, Int.reduceAdd] at hl2
    have hr2 : r < H2.next := by omega
    have hn2 := ne_new hr2
    have hz2 := ne_new0 hr2
    have hx2 := ne_new' hr2
    have bR2 : H2.get (H.next) = some ([.lit (.int .i64 0), .lit (.string (ba [])), .lit (.string (ba [])), .lit (.string (ba [])), .sl .nil [], .sl .nil [], .sl .nil [], .sl .nil []]) := (ha2.get (by first | omega | (simp only [go_sem, Nat.reduceBEq, Nat.reduceLeDiff, Nat.reduceEqDiff, Nat.reduceSub, Nat.reduceAdd, Int.reduceEq, Int.reduceLT, Int.reduceLE, Int.reduceAdd]; omega)) (by omega)).trans (by simp only [go_sem, Nat.reduceBEq, Nat.reduceLeDiff, Nat.reduceEqDiff, Nat.reduceSub, Nat.reduceAdd, Int.reduceEq, Int.reduceLT, Int.reduceLE, Int.reduceAdd, hg1, hn, hz, hn', Nat.add_zero, hn1, hz1, hx1, bR1, cR1, dR1, eR1, rR, qR])
    have cR2 : ∀ j, (H2.next + j = H.next) = False := fun j => eq_false (by omega)
    have dR2 : (H2.next = H.next) = False := eq_false (by omega)
    have eR2 : ∀ j, (H.next = H2.next + j) = False := fun j => eq_false (by omega)
    simp only [go_sem, Nat.reduceBEq, Nat.reduceLeDiff, Nat.reduceEqDiff, Nat.reduceSub, Nat.reduceAdd, Int.reduceEq, Int.reduceLT, Int.reduceLE, Int.reduceAdd, hg2, hn, hz, hn', Nat.add_zero, hn2, hz2, hx2, bR2, cR2, dR2, eR2, rR, qR]
    refine goC_out (c_name (s := (nameP l en s).1.adv) (l := l) (en := en) hlen hf1 (by first | omega | (simp only [go_sem, Nat.reduceBEq, Nat.reduceLeDiff, Nat.reduceEqDiff, Nat.reduceSub, Nat.reduceAdd, Int.reduceEq, Int.reduceLT, Int.reduceLE, Int.reduceAdd]; omega)) (by first | assumption | simp only [go_sem, Nat.reduceBEq, Nat.reduceLeDiff, Nat.reduceEqDiff, Nat.reduceSub, Nat.reduceAdd, Int.reduceEq, Int.reduceLT, Int.reduceLE, Int.reduceAdd, hg2, hn, hz, hn', Nat.add_zero, hn2, hz2, hx2, bR2, cR2, dR2, eR2, rR, qR])) ?_ ?_
    case refine_2 =>
      intro q9 hq9 H9 had
      rw [outP_some (show (operand l en (need l en (nameP l en (nameP l en s).1.adv).1 [61])).1.f = some q9 by rw [need_bad' (ok_some hq9), operand_bad (ok_some hq9)]; exact hq9)]
      simp only [go_sem, Nat.reduceBEq, Nat.reduceLeDiff, Nat.reduceEqDiff, Nat.reduceSub, Nat.reduceAdd, Int.reduceEq, Int.reduceLT, Int.reduceLE, Int.reduceAdd, san_trouble]
      (repeat first | exact Adv.refl _ _ | assumption | refine Adv.trans ?_ had | refine Adv.trans ?_ ha1 | refine Adv.trans ?_ ha2 | refine Adv.trans ?_ ha3 | refine Adv.trans ?_ ha4 | refine Adv.trans ?_ ha5 | refine Adv.trans ?_ ha6 | refine Adv.trans ?_ ha7 | refine Adv.trans ?_ ha8 | refine Adv.trans ?_ ha9 | refine Adv.trans ?_ ha10 | refine Adv.trans ?_ ha11 | refine Adv.trans ?_ ha12 | apply Adv.up | apply Adv.put | refine Adv.new ?_ (by omega) _ | refine Adv.live ?_ (by omega) _ | refine Adv.owns ?_ (by omega) (by first | exact OwnB.lo ‹_› | exact fun _ _ _ h => by cases h))
    intro hf3 H3 hg3 ha3
    have hl3 := ha3.1
    try simp only [go_sem, Nat.reduceBEq, Nat.reduceLeDiff, Nat.reduceEqDiff, Nat.reduceSub, Nat.reduceAdd, Int.reduceEq, Int.reduceLT, Int.reduceLE, Int.reduceAdd] at hl3
    have hr3 : r < H3.next := by omega
    have hn3 := ne_new hr3
    have hz3 := ne_new0 hr3
    have hx3 := ne_new' hr3
    have bR3 : H3.get (H.next) = some ([.lit (.int .i64 0), .lit (.string (ba [])), .lit (.string (ba [])), .lit (.string (ba [])), .sl .nil [], .sl .nil [], .sl .nil [], .sl .nil []]) := (ha3.get (by first | omega | (simp only [go_sem, Nat.reduceBEq, Nat.reduceLeDiff, Nat.reduceEqDiff, Nat.reduceSub, Nat.reduceAdd, Int.reduceEq, Int.reduceLT, Int.reduceLE, Int.reduceAdd]; omega)) (by omega)).trans (by simp only [go_sem, Nat.reduceBEq, Nat.reduceLeDiff, Nat.reduceEqDiff, Nat.reduceSub, Nat.reduceAdd, Int.reduceEq, Int.reduceLT, Int.reduceLE, Int.reduceAdd, hg2, hn, hz, hn', Nat.add_zero, hn2, hz2, hx2, bR2, cR2, dR2, eR2, rR, qR])
    have cR3 : ∀ j, (H3.next + j = H.next) = False := fun j => eq_false (by omega)
    have dR3 : (H3.next = H.next) = False := eq_false (by omega)
    have eR3 : ∀ j, (H.next = H3.next + j) = False := fun j => eq_false (by omega)
    have pSR : (H2.next + 4 = H.next) = False := eq_false (by omega)
    have pRS : (H.next = H2.next + 4) = False := eq_false (by omega)
    have rS : (H2.next + 4 = r) = False := eq_false (by omega)
    have qS : (r = H2.next + 4) = False := eq_false (by omega)
    simp only [go_sem, Nat.reduceBEq, Nat.reduceLeDiff, Nat.reduceEqDiff, Nat.reduceSub, Nat.reduceAdd, Int.reduceEq, Int.reduceLT, Int.reduceLE, Int.reduceAdd, hg3, hn, hz, hn', Nat.add_zero, hn3, hz3, hx3, bR3, cR3, dR3, eR3, rR, qR, pRS, rS, qS, pSR]
    refine goC_out (c_need (s := (nameP l en (nameP l en s).1.adv).1) (l := l) (en := en) hlen hf3 (by first | omega | (simp only [go_sem, Nat.reduceBEq, Nat.reduceLeDiff, Nat.reduceEqDiff, Nat.reduceSub, Nat.reduceAdd, Int.reduceEq, Int.reduceLT, Int.reduceLE, Int.reduceAdd]; omega)) (by first | assumption | simp only [go_sem, Nat.reduceBEq, Nat.reduceLeDiff, Nat.reduceEqDiff, Nat.reduceSub, Nat.reduceAdd, Int.reduceEq, Int.reduceLT, Int.reduceLE, Int.reduceAdd, hg3, hn, hz, hn', Nat.add_zero, hn3, hz3, hx3, bR3, cR3, dR3, eR3, rR, qR, pRS, rS, qS, pSR]) [61] (by decide)) ?_ ?_
    case refine_2 =>
      intro q9 hq9 H9 had
      rw [outP_some (show (operand l en (need l en (nameP l en (nameP l en s).1.adv).1 [61])).1.f = some q9 by rw [operand_bad (ok_some hq9)]; exact hq9)]
      simp only [go_sem, Nat.reduceBEq, Nat.reduceLeDiff, Nat.reduceEqDiff, Nat.reduceSub, Nat.reduceAdd, Int.reduceEq, Int.reduceLT, Int.reduceLE, Int.reduceAdd, san_trouble]
      (repeat first | exact Adv.refl _ _ | assumption | refine Adv.trans ?_ had | refine Adv.trans ?_ ha1 | refine Adv.trans ?_ ha2 | refine Adv.trans ?_ ha3 | refine Adv.trans ?_ ha4 | refine Adv.trans ?_ ha5 | refine Adv.trans ?_ ha6 | refine Adv.trans ?_ ha7 | refine Adv.trans ?_ ha8 | refine Adv.trans ?_ ha9 | refine Adv.trans ?_ ha10 | refine Adv.trans ?_ ha11 | refine Adv.trans ?_ ha12 | apply Adv.up | apply Adv.put | refine Adv.new ?_ (by omega) _ | refine Adv.live ?_ (by omega) _ | refine Adv.owns ?_ (by omega) (by first | exact OwnB.lo ‹_› | exact fun _ _ _ h => by cases h))
    intro hf4 H4 hg4 ha4
    have hl4 := ha4.1
    try simp only [go_sem, Nat.reduceBEq, Nat.reduceLeDiff, Nat.reduceEqDiff, Nat.reduceSub, Nat.reduceAdd, Int.reduceEq, Int.reduceLT, Int.reduceLE, Int.reduceAdd] at hl4
    have hr4 : r < H4.next := by omega
    have hn4 := ne_new hr4
    have hz4 := ne_new0 hr4
    have hx4 := ne_new' hr4
    have bR4 : H4.get (H.next) = some ([.lit (.int .i64 0), .lit (.string (ba [])), .lit (.string (ba [])), .lit (.string (ba [])), .sl .nil [], .sl .nil [], .sl .nil [], .sl .nil []]) := (ha4.get (by first | omega | (simp only [go_sem, Nat.reduceBEq, Nat.reduceLeDiff, Nat.reduceEqDiff, Nat.reduceSub, Nat.reduceAdd, Int.reduceEq, Int.reduceLT, Int.reduceLE, Int.reduceAdd]; omega)) (by omega)).trans (by simp only [go_sem, Nat.reduceBEq, Nat.reduceLeDiff, Nat.reduceEqDiff, Nat.reduceSub, Nat.reduceAdd, Int.reduceEq, Int.reduceLT, Int.reduceLE, Int.reduceAdd, hg3, hn, hz, hn', Nat.add_zero, hn3, hz3, hx3, bR3, cR3, dR3, eR3, rR, qR, pRS, rS, qS, pSR])
    have cR4 : ∀ j, (H4.next + j = H.next) = False := fun j => eq_false (by omega)
    have dR4 : (H4.next = H.next) = False := eq_false (by omega)
    have eR4 : ∀ j, (H.next = H4.next + j) = False := fun j => eq_false (by omega)
    have bS4 : H4.get (H2.next + 4) = some ([.lit (.int .i64 3), .lit (.string (ba (nameP l en s).2)), .lit (.string (ba [])), .lit (.string (ba (nameP l en (nameP l en s).1.adv).2)), .sl .nil [], .sl .nil [], .sl .nil [], .sl .nil []]) := (ha4.get (by first | omega | (simp only [go_sem, Nat.reduceBEq, Nat.reduceLeDiff, Nat.reduceEqDiff, Nat.reduceSub, Nat.reduceAdd, Int.reduceEq, Int.reduceLT, Int.reduceLE, Int.reduceAdd]; omega)) (by omega)).trans (by simp only [go_sem, Nat.reduceBEq, Nat.reduceLeDiff, Nat.reduceEqDiff, Nat.reduceSub, Nat.reduceAdd, Int.reduceEq, Int.reduceLT, Int.reduceLE, Int.reduceAdd, hg3, hn, hz, hn', Nat.add_zero, hn3, hz3, hx3, bR3, cR3, dR3, eR3, rR, qR, pRS, rS, qS, pSR])
    have cS4 : ∀ j, (H4.next + j = H2.next + 4) = False := fun j => eq_false (by omega)
    have dS4 : (H4.next = H2.next + 4) = False := eq_false (by omega)
    have eS4 : ∀ j, (H2.next + 4 = H4.next + j) = False := fun j => eq_false (by omega)
    simp only [go_sem, Nat.reduceBEq, Nat.reduceLeDiff, Nat.reduceEqDiff, Nat.reduceSub, Nat.reduceAdd, Int.reduceEq, Int.reduceLT, Int.reduceLE, Int.reduceAdd, hg4, hn, hz, hn', Nat.add_zero, hn4, hz4, hx4, bR4, cR4, dR4, eR4, rR, qR, pRS, bS4, cS4, dS4, eS4, rS, qS, pSR]
    refine goC_out (c_operand (s := (need l en (nameP l en (nameP l en s).1.adv).1 [61])) (l := l) (en := en) hlen hf4 (by first | omega | (simp only [go_sem, Nat.reduceBEq, Nat.reduceLeDiff, Nat.reduceEqDiff, Nat.reduceSub, Nat.reduceAdd, Int.reduceEq, Int.reduceLT, Int.reduceLE, Int.reduceAdd]; omega)) (by first | assumption | simp only [go_sem, Nat.reduceBEq, Nat.reduceLeDiff, Nat.reduceEqDiff, Nat.reduceSub, Nat.reduceAdd, Int.reduceEq, Int.reduceLT, Int.reduceLE, Int.reduceAdd, hg4, hn, hz, hn', Nat.add_zero, hn4, hz4, hx4, bR4, cR4, dR4, eR4, rR, qR, pRS, bS4, cS4, dS4, eS4, rS, qS, pSR])) ?_ ?_
    case refine_2 =>
      intro q9 hq9 H9 had
      rw [outP_some (show (operand l en (need l en (nameP l en (nameP l en s).1.adv).1 [61])).1.f = some q9 by exact hq9)]
      simp only [go_sem, Nat.reduceBEq, Nat.reduceLeDiff, Nat.reduceEqDiff, Nat.reduceSub, Nat.reduceAdd, Int.reduceEq, Int.reduceLT, Int.reduceLE, Int.reduceAdd, san_trouble]
      (repeat first | exact Adv.refl _ _ | assumption | refine Adv.trans ?_ had | refine Adv.trans ?_ ha1 | refine Adv.trans ?_ ha2 | refine Adv.trans ?_ ha3 | refine Adv.trans ?_ ha4 | refine Adv.trans ?_ ha5 | refine Adv.trans ?_ ha6 | refine Adv.trans ?_ ha7 | refine Adv.trans ?_ ha8 | refine Adv.trans ?_ ha9 | refine Adv.trans ?_ ha10 | refine Adv.trans ?_ ha11 | refine Adv.trans ?_ ha12 | apply Adv.up | apply Adv.put | refine Adv.new ?_ (by omega) _ | refine Adv.live ?_ (by omega) _ | refine Adv.owns ?_ (by omega) (by first | exact OwnB.lo ‹_› | exact fun _ _ _ h => by cases h))
    intro hf5 H5 hg5 ha5
    have hl5 := ha5.1
    try simp only [go_sem, Nat.reduceBEq, Nat.reduceLeDiff, Nat.reduceEqDiff, Nat.reduceSub, Nat.reduceAdd, Int.reduceEq, Int.reduceLT, Int.reduceLE, Int.reduceAdd] at hl5
    have hr5 : r < H5.next := by omega
    have hn5 := ne_new hr5
    have hz5 := ne_new0 hr5
    have hx5 := ne_new' hr5
    have bR5 : H5.get (H.next) = some ([.lit (.int .i64 0), .lit (.string (ba [])), .lit (.string (ba [])), .lit (.string (ba [])), .sl .nil [], .sl .nil [], .sl .nil [], .sl .nil []]) := (ha5.get (by first | omega | (simp only [go_sem, Nat.reduceBEq, Nat.reduceLeDiff, Nat.reduceEqDiff, Nat.reduceSub, Nat.reduceAdd, Int.reduceEq, Int.reduceLT, Int.reduceLE, Int.reduceAdd]; omega)) (by omega)).trans (by simp only [go_sem, Nat.reduceBEq, Nat.reduceLeDiff, Nat.reduceEqDiff, Nat.reduceSub, Nat.reduceAdd, Int.reduceEq, Int.reduceLT, Int.reduceLE, Int.reduceAdd, hg4, hn, hz, hn', Nat.add_zero, hn4, hz4, hx4, bR4, cR4, dR4, eR4, rR, qR, pRS, bS4, cS4, dS4, eS4, rS, qS, pSR])
    have cR5 : ∀ j, (H5.next + j = H.next) = False := fun j => eq_false (by omega)
    have dR5 : (H5.next = H.next) = False := eq_false (by omega)
    have eR5 : ∀ j, (H.next = H5.next + j) = False := fun j => eq_false (by omega)
    have bS5 : H5.get (H2.next + 4) = some ([.lit (.int .i64 3), .lit (.string (ba (nameP l en s).2)), .lit (.string (ba [])), .lit (.string (ba (nameP l en (nameP l en s).1.adv).2)), .sl .nil [], .sl .nil [], .sl .nil [], .sl .nil []]) := (ha5.get (by first | omega | (simp only [go_sem, Nat.reduceBEq, Nat.reduceLeDiff, Nat.reduceEqDiff, Nat.reduceSub, Nat.reduceAdd, Int.reduceEq, Int.reduceLT, Int.reduceLE, Int.reduceAdd]; omega)) (by omega)).trans (by simp only [go_sem, Nat.reduceBEq, Nat.reduceLeDiff, Nat.reduceEqDiff, Nat.reduceSub, Nat.reduceAdd, Int.reduceEq, Int.reduceLT, Int.reduceLE, Int.reduceAdd, hg4, hn, hz, hn', Nat.add_zero, hn4, hz4, hx4, bR4, cR4, dR4, eR4, rR, qR, pRS, bS4, cS4, dS4, eS4, rS, qS, pSR])
    have cS5 : ∀ j, (H5.next + j = H2.next + 4) = False := fun j => eq_false (by omega)
    have dS5 : (H5.next = H2.next + 4) = False := eq_false (by omega)
    have eS5 : ∀ j, (H2.next + 4 = H5.next + j) = False := fun j => eq_false (by omega)
    rw [outP_none hf5]
    simp only [go_sem, Nat.reduceBEq, Nat.reduceLeDiff, Nat.reduceEqDiff, Nat.reduceSub, Nat.reduceAdd, Int.reduceEq, Int.reduceLT, Int.reduceLE, Int.reduceAdd, hg5, hn, hz, hn', Nat.add_zero, hn5, hz5, hx5, bR5, cR5, dR5, eR5, rR, qR, pRS, bS5, cS5, dS5, eS5, rS, qS, pSR, rs, eM, List.map_cons, List.map_nil]
    (repeat first | exact Adv.refl _ _ | assumption | refine Adv.trans ?_ had | refine Adv.trans ?_ ha1 | refine Adv.trans ?_ ha2 | refine Adv.trans ?_ ha3 | refine Adv.trans ?_ ha4 | refine Adv.trans ?_ ha5 | refine Adv.trans ?_ ha6 | refine Adv.trans ?_ ha7 | refine Adv.trans ?_ ha8 | refine Adv.trans ?_ ha9 | refine Adv.trans ?_ ha10 | refine Adv.trans ?_ ha11 | refine Adv.trans ?_ ha12 | apply Adv.up | apply Adv.put | refine Adv.new ?_ (by omega) _ | refine Adv.live ?_ (by omega) _ | refine Adv.owns ?_ (by omega) (by first | exact OwnB.lo ‹_› | exact fun _ _ _ h => by cases h))
  | false =>
    rw [h1] at hq
    cases hq
    refine goC_ok (c_take_no (s := (nameP l en s).1) (l := l) (en := en) hlen hf1 (by first | omega | (simp only [go_sem, Nat.reduceBEq, Nat.reduceLeDiff, Nat.reduceEqDiff, Nat.reduceSub, Nat.reduceAdd, Int.reduceEq, Int.reduceLT, Int.reduceLE, Int.reduceAdd]; omega)) (by first | assumption | simp only [go_sem, Nat.reduceBEq, Nat.reduceLeDiff, Nat.reduceEqDiff, Nat.reduceSub, Nat.reduceAdd, Int.reduceEq, Int.reduceLT, Int.reduceLE, Int.reduceAdd, hg1, hn, hz, hn', Nat.add_zero, hn1, hz1, hx1, bR1, cR1, dR1, eR1, rR, qR]) (by decide) h1) ?_
    intro H2 hg2 ha2
    have hl2 := ha2.1
    try simp only [go_sem, Nat.reduceBEq, Nat.reduceLeDiff, Nat.reduceEqDiff, Nat.reduceSub, Nat.reduceAdd, Int.reduceEq, Int.reduceLT, Int.reduceLE, Int.reduceAdd] at hl2
    have hr2 : r < H2.next := by omega
    have hn2 := ne_new hr2
    have hz2 := ne_new0 hr2
    have hx2 := ne_new' hr2
    have bR2 : H2.get (H.next) = some ([.lit (.int .i64 0), .lit (.string (ba [])), .lit (.string (ba [])), .lit (.string (ba [])), .sl .nil [], .sl .nil [], .sl .nil [], .sl .nil []]) := (ha2.get (by first | omega | (simp only [go_sem, Nat.reduceBEq, Nat.reduceLeDiff, Nat.reduceEqDiff, Nat.reduceSub, Nat.reduceAdd, Int.reduceEq, Int.reduceLT, Int.reduceLE, Int.reduceAdd]; omega)) (by omega)).trans (by simp only [go_sem, Nat.reduceBEq, Nat.reduceLeDiff, Nat.reduceEqDiff, Nat.reduceSub, Nat.reduceAdd, Int.reduceEq, Int.reduceLT, Int.reduceLE, Int.reduceAdd, hg1, hn, hz, hn', Nat.add_zero, hn1, hz1, hx1, bR1, cR1, dR1, eR1, rR, qR])
    have cR2 : ∀ j, (H2.next + j = H.next) = False := fun j => eq_false (by omega)
    have dR2 : (H2.next = H.next) = False := eq_false (by omega)
    have eR2 : ∀ j, (H.next = H2.next + j) = False := fun j => eq_false (by omega)
    simp only [go_sem, Nat.reduceBEq, Nat.reduceLeDiff, Nat.reduceEqDiff, Nat.reduceSub, Nat.reduceAdd, Int.reduceEq, Int.reduceLT, Int.reduceLE, Int.reduceAdd, hg2, hn, hz, hn', Nat.add_zero, hn2, hz2, hx2, bR2, cR2, dR2, eR2, rR, qR]
    refine goC_out (c_need (s := (nameP l en s).1) (l := l) (en := en) hlen hf1 (by first | omega | (simp only [go_sem, Nat.reduceBEq, Nat.reduceLeDiff, Nat.reduceEqDiff, Nat.reduceSub, Nat.reduceAdd, Int.reduceEq, Int.reduceLT, Int.reduceLE, Int.reduceAdd]; omega)) (by first | assumption | simp only [go_sem, Nat.reduceBEq, Nat.reduceLeDiff, Nat.reduceEqDiff, Nat.reduceSub, Nat.reduceAdd, Int.reduceEq, Int.reduceLT, Int.reduceLE, Int.reduceAdd, hg2, hn, hz, hn', Nat.add_zero, hn2, hz2, hx2, bR2, cR2, dR2, eR2, rR, qR]) [61] (by decide)) ?_ ?_
    case refine_2 =>
      intro q9 hq9 H9 had
      rw [outP_some (show (value l en (need l en (nameP l en s).1 [61])).1.f = some q9 by rw [value_bad (ok_some hq9)]; exact hq9)]
      simp only [go_sem, Nat.reduceBEq, Nat.reduceLeDiff, Nat.reduceEqDiff, Nat.reduceSub, Nat.reduceAdd, Int.reduceEq, Int.reduceLT, Int.reduceLE, Int.reduceAdd, san_trouble]
      (repeat first | exact Adv.refl _ _ | assumption | refine Adv.trans ?_ had | refine Adv.trans ?_ ha1 | refine Adv.trans ?_ ha2 | refine Adv.trans ?_ ha3 | refine Adv.trans ?_ ha4 | refine Adv.trans ?_ ha5 | refine Adv.trans ?_ ha6 | refine Adv.trans ?_ ha7 | refine Adv.trans ?_ ha8 | refine Adv.trans ?_ ha9 | refine Adv.trans ?_ ha10 | refine Adv.trans ?_ ha11 | refine Adv.trans ?_ ha12 | apply Adv.up | apply Adv.put | refine Adv.new ?_ (by omega) _ | refine Adv.live ?_ (by omega) _ | refine Adv.owns ?_ (by omega) (by first | exact OwnB.lo ‹_› | exact fun _ _ _ h => by cases h))
    intro hf3 H3 hg3 ha3
    have hl3 := ha3.1
    try simp only [go_sem, Nat.reduceBEq, Nat.reduceLeDiff, Nat.reduceEqDiff, Nat.reduceSub, Nat.reduceAdd, Int.reduceEq, Int.reduceLT, Int.reduceLE, Int.reduceAdd] at hl3
    have hr3 : r < H3.next := by omega
    have hn3 := ne_new hr3
    have hz3 := ne_new0 hr3
    have hx3 := ne_new' hr3
    have bR3 : H3.get (H.next) = some ([.lit (.int .i64 0), .lit (.string (ba [])), .lit (.string (ba [])), .lit (.string (ba [])), .sl .nil [], .sl .nil [], .sl .nil [], .sl .nil []]) := (ha3.get (by first | omega | (simp only [go_sem, Nat.reduceBEq, Nat.reduceLeDiff, Nat.reduceEqDiff, Nat.reduceSub, Nat.reduceAdd, Int.reduceEq, Int.reduceLT, Int.reduceLE, Int.reduceAdd]; omega)) (by omega)).trans (by simp only [go_sem, Nat.reduceBEq, Nat.reduceLeDiff, Nat.reduceEqDiff, Nat.reduceSub, Nat.reduceAdd, Int.reduceEq, Int.reduceLT, Int.reduceLE, Int.reduceAdd, hg2, hn, hz, hn', Nat.add_zero, hn2, hz2, hx2, bR2, cR2, dR2, eR2, rR, qR])
    have cR3 : ∀ j, (H3.next + j = H.next) = False := fun j => eq_false (by omega)
    have dR3 : (H3.next = H.next) = False := eq_false (by omega)
    have eR3 : ∀ j, (H.next = H3.next + j) = False := fun j => eq_false (by omega)
    simp only [go_sem, Nat.reduceBEq, Nat.reduceLeDiff, Nat.reduceEqDiff, Nat.reduceSub, Nat.reduceAdd, Int.reduceEq, Int.reduceLT, Int.reduceLE, Int.reduceAdd, hg3, hn, hz, hn', Nat.add_zero, hn3, hz3, hx3, bR3, cR3, dR3, eR3, rR, qR]
    refine goC_out (c_value (s := (need l en (nameP l en s).1 [61])) (l := l) (en := en) hlen hf3 (by first | omega | (simp only [go_sem, Nat.reduceBEq, Nat.reduceLeDiff, Nat.reduceEqDiff, Nat.reduceSub, Nat.reduceAdd, Int.reduceEq, Int.reduceLT, Int.reduceLE, Int.reduceAdd]; omega)) (by first | assumption | simp only [go_sem, Nat.reduceBEq, Nat.reduceLeDiff, Nat.reduceEqDiff, Nat.reduceSub, Nat.reduceAdd, Int.reduceEq, Int.reduceLT, Int.reduceLE, Int.reduceAdd, hg3, hn, hz, hn', Nat.add_zero, hn3, hz3, hx3, bR3, cR3, dR3, eR3, rR, qR])) ?_ ?_
    case refine_2 =>
      intro q9 hq9 H9 had
      rw [outP_some (show (value l en (need l en (nameP l en s).1 [61])).1.f = some q9 by exact hq9)]
      simp only [go_sem, Nat.reduceBEq, Nat.reduceLeDiff, Nat.reduceEqDiff, Nat.reduceSub, Nat.reduceAdd, Int.reduceEq, Int.reduceLT, Int.reduceLE, Int.reduceAdd, san_trouble]
      (repeat first | exact Adv.refl _ _ | assumption | refine Adv.trans ?_ had | refine Adv.trans ?_ ha1 | refine Adv.trans ?_ ha2 | refine Adv.trans ?_ ha3 | refine Adv.trans ?_ ha4 | refine Adv.trans ?_ ha5 | refine Adv.trans ?_ ha6 | refine Adv.trans ?_ ha7 | refine Adv.trans ?_ ha8 | refine Adv.trans ?_ ha9 | refine Adv.trans ?_ ha10 | refine Adv.trans ?_ ha11 | refine Adv.trans ?_ ha12 | apply Adv.up | apply Adv.put | refine Adv.new ?_ (by omega) _ | refine Adv.live ?_ (by omega) _ | refine Adv.owns ?_ (by omega) (by first | exact OwnB.lo ‹_› | exact fun _ _ _ h => by cases h))
    intro hf4 H4 hg4 ha4
    have hl4 := ha4.1
    try simp only [go_sem, Nat.reduceBEq, Nat.reduceLeDiff, Nat.reduceEqDiff, Nat.reduceSub, Nat.reduceAdd, Int.reduceEq, Int.reduceLT, Int.reduceLE, Int.reduceAdd] at hl4
    have hr4 : r < H4.next := by omega
    have hn4 := ne_new hr4
    have hz4 := ne_new0 hr4
    have hx4 := ne_new' hr4
    have bR4 : H4.get (H.next) = some ([.lit (.int .i64 0), .lit (.string (ba [])), .lit (.string (ba [])), .lit (.string (ba [])), .sl .nil [], .sl .nil [], .sl .nil [], .sl .nil []]) := (ha4.get (by first | omega | (simp only [go_sem, Nat.reduceBEq, Nat.reduceLeDiff, Nat.reduceEqDiff, Nat.reduceSub, Nat.reduceAdd, Int.reduceEq, Int.reduceLT, Int.reduceLE, Int.reduceAdd]; omega)) (by omega)).trans (by simp only [go_sem, Nat.reduceBEq, Nat.reduceLeDiff, Nat.reduceEqDiff, Nat.reduceSub, Nat.reduceAdd, Int.reduceEq, Int.reduceLT, Int.reduceLE, Int.reduceAdd, hg3, hn, hz, hn', Nat.add_zero, hn3, hz3, hx3, bR3, cR3, dR3, eR3, rR, qR])
    have cR4 : ∀ j, (H4.next + j = H.next) = False := fun j => eq_false (by omega)
    have dR4 : (H4.next = H.next) = False := eq_false (by omega)
    have eR4 : ∀ j, (H.next = H4.next + j) = False := fun j => eq_false (by omega)
    have pSR : (H3.next + 2 = H.next) = False := eq_false (by omega)
    have pRS : (H.next = H3.next + 2) = False := eq_false (by omega)
    have rS : (H3.next + 2 = r) = False := eq_false (by omega)
    have qS : (r = H3.next + 2) = False := eq_false (by omega)
    rw [outP_none hf4]
    simp only [go_sem, Nat.reduceBEq, Nat.reduceLeDiff, Nat.reduceEqDiff, Nat.reduceSub, Nat.reduceAdd, Int.reduceEq, Int.reduceLT, Int.reduceLE, Int.reduceAdd, hg4, hn, hz, hn', Nat.add_zero, hn4, hz4, hx4, bR4, cR4, dR4, eR4, rR, qR, pRS, rS, qS, pSR, rs]
    (repeat first | exact Adv.refl _ _ | assumption | refine Adv.trans ?_ had | refine Adv.trans ?_ ha1 | refine Adv.trans ?_ ha2 | refine Adv.trans ?_ ha3 | refine Adv.trans ?_ ha4 | refine Adv.trans ?_ ha5 | refine Adv.trans ?_ ha6 | refine Adv.trans ?_ ha7 | refine Adv.trans ?_ ha8 | refine Adv.trans ?_ ha9 | refine Adv.trans ?_ ha10 | refine Adv.trans ?_ ha11 | refine Adv.trans ?_ ha12 | apply Adv.up | apply Adv.put | refine Adv.new ?_ (by omega) _ | refine Adv.live ?_ (by omega) _ | refine Adv.owns ?_ (by omega) (by first | exact OwnB.lo ‹_› | exact fun _ _ _ h => by cases h))
/-- What is said of the parser's statements, with so much fuel. -/
def PStmtOk (l : List GTok) (en : Int) (n : Nat) : Prop := ∀ (r : Nat) (s : PS) (deep : Nat) (H : Heap), 3 * rem l s + 1 ≤ n → deep ≤ 33 → s.f = none → r < H.next → H.get r = some (cP l en s) →
  PCall Tryz.prog cfg r 104 [.ptr r 0, .lit (.int .i64 (deep : Nat))] H (outP l en (stmtF l en n s deep).1 (.agg (encStmt (stmtF l en n s deep).2)))
def PBlockOk (l : List GTok) (en : Int) (n : Nat) : Prop := ∀ (r : Nat) (s : PS) (deep : Nat) (H : Heap), 3 * rem l s + 3 ≤ n → deep ≤ 33 → s.f = none → r < H.next → H.get r = some (cP l en s) →
  PCall Tryz.prog cfg r 85 [.ptr r 0, .lit (.int .i64 (deep : Nat))] H (outP l en (blockF l en n s deep).1 (.sl .sh ((blockF l en n s deep).2.map encStmt)))
theorem bodyF_bad {s : PS} (h : s.ok = false) : ∀ (n : Nat) (deep : Nat) (acc : List GStmt), (bodyF l en n s deep acc).1 = s
  | 0, _, _ => by simp only [bodyF, pfail_bad' h]
  | n + 1, _, _ => by simp only [bodyF, h, Bool.false_and, need_bad' h]
theorem starts_bad {s : PS} (h : s.ok = false) : starts l s = false := by simp only [starts, isName_bad h, isT_bad h, Bool.or_self]
theorem blockF_bad {s : PS} (h : s.ok = false) : ∀ (n : Nat) (deep : Nat), (blockF l en n s deep).1 = s
  | 0, _ => by simp only [blockF, pfail_bad' h]
  | n + 1, _ => by simp only [blockF, isT_bad h, Bool.false_and, need_bad' h, bodyF_bad h]
set_option maxRecDepth 20000 in
theorem c_stmt0 (hlen : l.length ≤ LM) (n : Nat) (ihb : PBlockOk l en n) (deep : Nat) (hn : 3 * rem l s + 1 ≤ n + 1) (hdeep : deep ≤ 33) (h0 : isName l s = true) (h1 : isT l s [111, 117, 116] = false) (h2 : isT l s [114, 101, 116, 117, 114, 110] = false) (h3 : isT l s [105, 102] = false) (h4 : isT l s [119, 104, 105, 108, 101] = false) (hf : s.f = none) (hr : r < H.next) (hg : H.get r = some (cP l en s)) :
    PCall Tryz.prog cfg r 104 [.ptr r 0, .lit (.int .i64 (deep : Nat))] H (outP l en (stmtF l en (n + 1) s deep).1 (.agg (encStmt (stmtF l en (n + 1) s deep).2))) := by
  have _ := ihb
  have _ := hn
  have _ := hdeep
  obtain ⟨q1, q2, hq⟩ : ∃ q1 q2, stmtF l en (n + 1) s deep = (q1, q2) := ⟨_, _, rfl⟩
  rw [hq]
  show PCall _ _ _ _ _ _ (outP l en q1 (.agg (encStmt q2)))
  refine PCall_of' (fn := Tryz.f104) rfl rfl rfl rfl rfl ?_
  have rs : Tryz.f104.results.toList = [.cell 4 40] := rfl
  have eM := encStmt_mk
  have hn := ne_new hr
  have hz := ne_new0 hr
  have hn' := ne_new' hr
  unfold stmtF at hq
  have hst : starts l s = true := by simp only [starts, tOut, tReturn, tIf, tWhile, h0, h1, h2, h3, h4, Bool.or_true, Bool.true_or]
  rw [hst] at hq
  simp only [tIf, tWhile, h3, h4] at hq
  simp only [go_sem, Nat.reduceBEq, Nat.reduceLeDiff, Nat.reduceEqDiff, Nat.reduceSub, Nat.reduceAdd, Int.reduceEq, Int.reduceLT, Int.reduceLE, Int.reduceAdd]
  have rR : (H.next = r) = False := eq_false (by omega)
  have qR : (r = H.next) = False := eq_false (by omega)
  refine goC_ok (c_isName (s := s) (l := l) (en := en) hlen hf (by first | omega | (simp only [go_sem, Nat.reduceBEq, Nat.reduceLeDiff, Nat.reduceEqDiff, Nat.reduceSub, Nat.reduceAdd, Int.reduceEq, Int.reduceLT, Int.reduceLE, Int.reduceAdd]; omega)) (by first | assumption | simp only [go_sem, Nat.reduceBEq, Nat.reduceLeDiff, Nat.reduceEqDiff, Nat.reduceSub, Nat.reduceAdd, Int.reduceEq, Int.reduceLT, Int.reduceLE, Int.reduceAdd, hg, hn, hz, hn', Nat.add_zero, rR, qR])) ?_
  intro H1 hg1 ha1
  have hl1 := ha1.1
  try simp only [go_sem, Nat.reduceBEq, Nat.reduceLeDiff, Nat.reduceEqDiff, Nat.reduceSub, Nat.reduceAdd, Int.reduceEq, Int.reduceLT, Int.reduceLE, Int.reduceAdd] at hl1
  have hr1 : r < H1.next := by omega
  have hn1 := ne_new hr1
  have hz1 := ne_new0 hr1
  have hx1 := ne_new' hr1
  have bR1 : H1.get (H.next) = some ([.lit (.int .i64 0), .lit (.string (ba [])), .lit (.string (ba [])), .lit (.string (ba [])), .sl .nil [], .sl .nil [], .sl .nil [], .sl .nil []]) := (ha1.get (by first | omega | (simp only [go_sem, Nat.reduceBEq, Nat.reduceLeDiff, Nat.reduceEqDiff, Nat.reduceSub, Nat.reduceAdd, Int.reduceEq, Int.reduceLT, Int.reduceLE, Int.reduceAdd]; omega)) (by omega)).trans (by simp only [go_sem, Nat.reduceBEq, Nat.reduceLeDiff, Nat.reduceEqDiff, Nat.reduceSub, Nat.reduceAdd, Int.reduceEq, Int.reduceLT, Int.reduceLE, Int.reduceAdd, hg, hn, hz, hn', Nat.add_zero, rR, qR])
  have cR1 : ∀ j, (H1.next + j = H.next) = False := fun j => eq_false (by omega)
  have dR1 : (H1.next = H.next) = False := eq_false (by omega)
  have eR1 : ∀ j, (H.next = H1.next + j) = False := fun j => eq_false (by omega)
  simp only [go_sem, Nat.reduceBEq, Nat.reduceLeDiff, Nat.reduceEqDiff, Nat.reduceSub, Nat.reduceAdd, Int.reduceEq, Int.reduceLT, Int.reduceLE, Int.reduceAdd, hg1, hn, hz, hn', Nat.add_zero, hn1, hz1, hx1, bR1, cR1, dR1, eR1, rR, qR, h0]
  by_cases hc : 2000 ≤ s.cnt
  · have d : decide (2000 ≤ ((s.cnt : Nat) : Int)) = true := by simp; omega
    have d' : decide (2000 ≤ s.cnt) = true := by simp [hc]
    rw [d'] at hq
    cases hq
    rw [outP_fail hf]
    simp only [go_sem, Nat.reduceBEq, Nat.reduceLeDiff, Nat.reduceEqDiff, Nat.reduceSub, Nat.reduceAdd, Int.reduceEq, Int.reduceLT, Int.reduceLE, Int.reduceAdd, hg1, hn, hz, hn', Nat.add_zero, hn1, hz1, hx1, bR1, cR1, dR1, eR1, rR, qR, d]
    refine goC_bad (c_fail (s := s) (l := l) (en := en) (by first | omega | (simp only [go_sem, Nat.reduceBEq, Nat.reduceLeDiff, Nat.reduceEqDiff, Nat.reduceSub, Nat.reduceAdd, Int.reduceEq, Int.reduceLT, Int.reduceLE, Int.reduceAdd]; omega)) (by first | assumption | simp only [go_sem, Nat.reduceBEq, Nat.reduceLeDiff, Nat.reduceEqDiff, Nat.reduceSub, Nat.reduceAdd, Int.reduceEq, Int.reduceLT, Int.reduceLE, Int.reduceAdd, hg1, hn, hz, hn', Nat.add_zero, hn1, hz1, hx1, bR1, cR1, dR1, eR1, rR, qR]) 2 rfl) ?_
    intro H9 had
    simp only [go_sem, Nat.reduceBEq, Nat.reduceLeDiff, Nat.reduceEqDiff, Nat.reduceSub, Nat.reduceAdd, Int.reduceEq, Int.reduceLT, Int.reduceLE, Int.reduceAdd, hg1, hn, hz, hn', Nat.add_zero, hn1, hz1, hx1, bR1, cR1, dR1, eR1, rR, qR, san_trouble]
    (repeat first | exact Adv.refl _ _ | assumption | refine Adv.trans ?_ had | refine Adv.trans ?_ ha1 | refine Adv.trans ?_ ha2 | refine Adv.trans ?_ ha3 | refine Adv.trans ?_ ha4 | refine Adv.trans ?_ ha5 | refine Adv.trans ?_ ha6 | refine Adv.trans ?_ ha7 | refine Adv.trans ?_ ha8 | refine Adv.trans ?_ ha9 | refine Adv.trans ?_ ha10 | refine Adv.trans ?_ ha11 | refine Adv.trans ?_ ha12 | apply Adv.up | apply Adv.put | refine Adv.new ?_ (by omega) _ | refine Adv.live ?_ (by omega) _ | refine Adv.owns ?_ (by omega) (by first | exact OwnB.lo ‹_› | exact fun _ _ _ h => by cases h))
  have d : decide (2000 ≤ ((s.cnt : Nat) : Int)) = false := by simp; omega
  have d' : decide (2000 ≤ s.cnt) = false := by simp; omega
  rw [d'] at hq
  simp only at hq
  have hwc := wrap1 (show s.cnt + 1 ≤ 9223372036854775807 by omega)
  have pSR : (H1.next + 13 = H.next) = False := eq_false (by omega)
  have pRS : (H.next = H1.next + 13) = False := eq_false (by omega)
  have rS : (H1.next + 13 = r) = False := eq_false (by omega)
  have qS : (r = H1.next + 13) = False := eq_false (by omega)
  simp only [go_sem, Nat.reduceBEq, Nat.reduceLeDiff, Nat.reduceEqDiff, Nat.reduceSub, Nat.reduceAdd, Int.reduceEq, Int.reduceLT, Int.reduceLE, Int.reduceAdd, hg1, hn, hz, hn', Nat.add_zero, hn1, hz1, hx1, bR1, cR1, dR1, eR1, rR, qR, pRS, rS, qS, pSR, d, hwc]
  refine goC_ok (c_take_no (s := s.count) (l := l) (en := en) hlen hf (by first | omega | (simp only [go_sem, Nat.reduceBEq, Nat.reduceLeDiff, Nat.reduceEqDiff, Nat.reduceSub, Nat.reduceAdd, Int.reduceEq, Int.reduceLT, Int.reduceLE, Int.reduceAdd]; omega)) (by first | assumption | simp only [go_sem, Nat.reduceBEq, Nat.reduceLeDiff, Nat.reduceEqDiff, Nat.reduceSub, Nat.reduceAdd, Int.reduceEq, Int.reduceLT, Int.reduceLE, Int.reduceAdd, hg1, hn, hz, hn', Nat.add_zero, hn1, hz1, hx1, bR1, cR1, dR1, eR1, rR, qR, pRS, rS, qS, pSR]) (by decide) (show isT l s.count [105, 102] = false from h3)) ?_
  intro H2 hg2 ha2
  have hl2 := ha2.1
  try simp only [go_sem, Nat.reduceBEq, Nat.reduceLeDiff, Nat.reduceEqDiff, Nat.reduceSub, Nat.reduceAdd, Int.reduceEq, Int.reduceLT, Int.reduceLE, Int.reduceAdd] at hl2
  have hr2 : r < H2.next := by omega
  have hn2 := ne_new hr2
  have hz2 := ne_new0 hr2
  have hx2 := ne_new' hr2
  have bR2 : H2.get (H.next) = some ([.lit (.int .i64 0), .lit (.string (ba [])), .lit (.string (ba [])), .lit (.string (ba [])), .sl .nil [], .sl .nil [], .sl .nil [], .sl .nil []]) := (ha2.get (by first | omega | (simp only [go_sem, Nat.reduceBEq, Nat.reduceLeDiff, Nat.reduceEqDiff, Nat.reduceSub, Nat.reduceAdd, Int.reduceEq, Int.reduceLT, Int.reduceLE, Int.reduceAdd]; omega)) (by omega)).trans (by simp only [go_sem, Nat.reduceBEq, Nat.reduceLeDiff, Nat.reduceEqDiff, Nat.reduceSub, Nat.reduceAdd, Int.reduceEq, Int.reduceLT, Int.reduceLE, Int.reduceAdd, hg1, hn, hz, hn', Nat.add_zero, hn1, hz1, hx1, bR1, cR1, dR1, eR1, rR, qR, pRS, rS, qS, pSR])
  have cR2 : ∀ j, (H2.next + j = H.next) = False := fun j => eq_false (by omega)
  have dR2 : (H2.next = H.next) = False := eq_false (by omega)
  have eR2 : ∀ j, (H.next = H2.next + j) = False := fun j => eq_false (by omega)
  have bS2 : H2.get (H1.next + 13) = some ([.lit (.int .i64 0), .lit (.string (ba [])), .lit (.string (ba [])), .lit (.string (ba [])), .sl .nil [], .sl .nil [], .sl .nil [], .sl .nil []]) := (ha2.get (by first | omega | (simp only [go_sem, Nat.reduceBEq, Nat.reduceLeDiff, Nat.reduceEqDiff, Nat.reduceSub, Nat.reduceAdd, Int.reduceEq, Int.reduceLT, Int.reduceLE, Int.reduceAdd]; omega)) (by omega)).trans (by simp only [go_sem, Nat.reduceBEq, Nat.reduceLeDiff, Nat.reduceEqDiff, Nat.reduceSub, Nat.reduceAdd, Int.reduceEq, Int.reduceLT, Int.reduceLE, Int.reduceAdd, hg1, hn, hz, hn', Nat.add_zero, hn1, hz1, hx1, bR1, cR1, dR1, eR1, rR, qR, pRS, rS, qS, pSR])
  have cS2 : ∀ j, (H2.next + j = H1.next + 13) = False := fun j => eq_false (by omega)
  have dS2 : (H2.next = H1.next + 13) = False := eq_false (by omega)
  have eS2 : ∀ j, (H1.next + 13 = H2.next + j) = False := fun j => eq_false (by omega)
  simp only [go_sem, Nat.reduceBEq, Nat.reduceLeDiff, Nat.reduceEqDiff, Nat.reduceSub, Nat.reduceAdd, Int.reduceEq, Int.reduceLT, Int.reduceLE, Int.reduceAdd, hg2, hn, hz, hn', Nat.add_zero, hn2, hz2, hx2, bR2, cR2, dR2, eR2, rR, qR, pRS, bS2, cS2, dS2, eS2, rS, qS, pSR]
  refine goC_ok (c_take_no (s := s.count) (l := l) (en := en) hlen hf (by first | omega | (simp only [go_sem, Nat.reduceBEq, Nat.reduceLeDiff, Nat.reduceEqDiff, Nat.reduceSub, Nat.reduceAdd, Int.reduceEq, Int.reduceLT, Int.reduceLE, Int.reduceAdd]; omega)) (by first | assumption | simp only [go_sem, Nat.reduceBEq, Nat.reduceLeDiff, Nat.reduceEqDiff, Nat.reduceSub, Nat.reduceAdd, Int.reduceEq, Int.reduceLT, Int.reduceLE, Int.reduceAdd, hg2, hn, hz, hn', Nat.add_zero, hn2, hz2, hx2, bR2, cR2, dR2, eR2, rR, qR, pRS, bS2, cS2, dS2, eS2, rS, qS, pSR]) (by decide) (show isT l s.count [119, 104, 105, 108, 101] = false from h4)) ?_
  intro H3 hg3 ha3
  have hl3 := ha3.1
  try simp only [go_sem, Nat.reduceBEq, Nat.reduceLeDiff, Nat.reduceEqDiff, Nat.reduceSub, Nat.reduceAdd, Int.reduceEq, Int.reduceLT, Int.reduceLE, Int.reduceAdd] at hl3
  have hr3 : r < H3.next := by omega
  have hn3 := ne_new hr3
  have hz3 := ne_new0 hr3
  have hx3 := ne_new' hr3
  have bR3 : H3.get (H.next) = some ([.lit (.int .i64 0), .lit (.string (ba [])), .lit (.string (ba [])), .lit (.string (ba [])), .sl .nil [], .sl .nil [], .sl .nil [], .sl .nil []]) := (ha3.get (by first | omega | (simp only [go_sem, Nat.reduceBEq, Nat.reduceLeDiff, Nat.reduceEqDiff, Nat.reduceSub, Nat.reduceAdd, Int.reduceEq, Int.reduceLT, Int.reduceLE, Int.reduceAdd]; omega)) (by omega)).trans (by simp only [go_sem, Nat.reduceBEq, Nat.reduceLeDiff, Nat.reduceEqDiff, Nat.reduceSub, Nat.reduceAdd, Int.reduceEq, Int.reduceLT, Int.reduceLE, Int.reduceAdd, hg2, hn, hz, hn', Nat.add_zero, hn2, hz2, hx2, bR2, cR2, dR2, eR2, rR, qR, pRS, bS2, cS2, dS2, eS2, rS, qS, pSR])
  have cR3 : ∀ j, (H3.next + j = H.next) = False := fun j => eq_false (by omega)
  have dR3 : (H3.next = H.next) = False := eq_false (by omega)
  have eR3 : ∀ j, (H.next = H3.next + j) = False := fun j => eq_false (by omega)
  have bS3 : H3.get (H1.next + 13) = some ([.lit (.int .i64 0), .lit (.string (ba [])), .lit (.string (ba [])), .lit (.string (ba [])), .sl .nil [], .sl .nil [], .sl .nil [], .sl .nil []]) := (ha3.get (by first | omega | (simp only [go_sem, Nat.reduceBEq, Nat.reduceLeDiff, Nat.reduceEqDiff, Nat.reduceSub, Nat.reduceAdd, Int.reduceEq, Int.reduceLT, Int.reduceLE, Int.reduceAdd]; omega)) (by omega)).trans (by simp only [go_sem, Nat.reduceBEq, Nat.reduceLeDiff, Nat.reduceEqDiff, Nat.reduceSub, Nat.reduceAdd, Int.reduceEq, Int.reduceLT, Int.reduceLE, Int.reduceAdd, hg2, hn, hz, hn', Nat.add_zero, hn2, hz2, hx2, bR2, cR2, dR2, eR2, rR, qR, pRS, bS2, cS2, dS2, eS2, rS, qS, pSR])
  have cS3 : ∀ j, (H3.next + j = H1.next + 13) = False := fun j => eq_false (by omega)
  have dS3 : (H3.next = H1.next + 13) = False := eq_false (by omega)
  have eS3 : ∀ j, (H1.next + 13 = H3.next + j) = False := fun j => eq_false (by omega)
  simp only [go_sem, Nat.reduceBEq, Nat.reduceLeDiff, Nat.reduceEqDiff, Nat.reduceSub, Nat.reduceAdd, Int.reduceEq, Int.reduceLT, Int.reduceLE, Int.reduceAdd, hg3, hn, hz, hn', Nat.add_zero, hn3, hz3, hx3, bR3, cR3, dR3, eR3, rR, qR, pRS, bS3, cS3, dS3, eS3, rS, qS, pSR]
  refine goC_ok (c_take_no (s := s.count) (l := l) (en := en) hlen hf (by first | omega | (simp only [go_sem, Nat.reduceBEq, Nat.reduceLeDiff, Nat.reduceEqDiff, Nat.reduceSub, Nat.reduceAdd, Int.reduceEq, Int.reduceLT, Int.reduceLE, Int.reduceAdd]; omega)) (by first | assumption | simp only [go_sem, Nat.reduceBEq, Nat.reduceLeDiff, Nat.reduceEqDiff, Nat.reduceSub, Nat.reduceAdd, Int.reduceEq, Int.reduceLT, Int.reduceLE, Int.reduceAdd, hg3, hn, hz, hn', Nat.add_zero, hn3, hz3, hx3, bR3, cR3, dR3, eR3, rR, qR, pRS, bS3, cS3, dS3, eS3, rS, qS, pSR]) (by decide) (show isT l s.count [111, 117, 116] = false from h1)) ?_
  intro H4 hg4 ha4
  have hl4 := ha4.1
  try simp only [go_sem, Nat.reduceBEq, Nat.reduceLeDiff, Nat.reduceEqDiff, Nat.reduceSub, Nat.reduceAdd, Int.reduceEq, Int.reduceLT, Int.reduceLE, Int.reduceAdd] at hl4
  have hr4 : r < H4.next := by omega
  have hn4 := ne_new hr4
  have hz4 := ne_new0 hr4
  have hx4 := ne_new' hr4
  have bR4 : H4.get (H.next) = some ([.lit (.int .i64 0), .lit (.string (ba [])), .lit (.string (ba [])), .lit (.string (ba [])), .sl .nil [], .sl .nil [], .sl .nil [], .sl .nil []]) := (ha4.get (by first | omega | (simp only [go_sem, Nat.reduceBEq, Nat.reduceLeDiff, Nat.reduceEqDiff, Nat.reduceSub, Nat.reduceAdd, Int.reduceEq, Int.reduceLT, Int.reduceLE, Int.reduceAdd]; omega)) (by omega)).trans (by simp only [go_sem, Nat.reduceBEq, Nat.reduceLeDiff, Nat.reduceEqDiff, Nat.reduceSub, Nat.reduceAdd, Int.reduceEq, Int.reduceLT, Int.reduceLE, Int.reduceAdd, hg3, hn, hz, hn', Nat.add_zero, hn3, hz3, hx3, bR3, cR3, dR3, eR3, rR, qR, pRS, bS3, cS3, dS3, eS3, rS, qS, pSR])
  have cR4 : ∀ j, (H4.next + j = H.next) = False := fun j => eq_false (by omega)
  have dR4 : (H4.next = H.next) = False := eq_false (by omega)
  have eR4 : ∀ j, (H.next = H4.next + j) = False := fun j => eq_false (by omega)
  have bS4 : H4.get (H1.next + 13) = some ([.lit (.int .i64 0), .lit (.string (ba [])), .lit (.string (ba [])), .lit (.string (ba [])), .sl .nil [], .sl .nil [], .sl .nil [], .sl .nil []]) := (ha4.get (by first | omega | (simp only [go_sem, Nat.reduceBEq, Nat.reduceLeDiff, Nat.reduceEqDiff, Nat.reduceSub, Nat.reduceAdd, Int.reduceEq, Int.reduceLT, Int.reduceLE, Int.reduceAdd]; omega)) (by omega)).trans (by simp only [go_sem, Nat.reduceBEq, Nat.reduceLeDiff, Nat.reduceEqDiff, Nat.reduceSub, Nat.reduceAdd, Int.reduceEq, Int.reduceLT, Int.reduceLE, Int.reduceAdd, hg3, hn, hz, hn', Nat.add_zero, hn3, hz3, hx3, bR3, cR3, dR3, eR3, rR, qR, pRS, bS3, cS3, dS3, eS3, rS, qS, pSR])
  have cS4 : ∀ j, (H4.next + j = H1.next + 13) = False := fun j => eq_false (by omega)
  have dS4 : (H4.next = H1.next + 13) = False := eq_false (by omega)
  have eS4 : ∀ j, (H1.next + 13 = H4.next + j) = False := fun j => eq_false (by omega)
  simp only [go_sem, Nat.reduceBEq, Nat.reduceLeDiff, Nat.reduceEqDiff, Nat.reduceSub, Nat.reduceAdd, Int.reduceEq, Int.reduceLT, Int.reduceLE, Int.reduceAdd, hg4, hn, hz, hn', Nat.add_zero, hn4, hz4, hx4, bR4, cR4, dR4, eR4, rR, qR, pRS, bS4, cS4, dS4, eS4, rS, qS, pSR]
  refine goC_ok (c_take_no (s := s.count) (l := l) (en := en) hlen hf (by first | omega | (simp only [go_sem, Nat.reduceBEq, Nat.reduceLeDiff, Nat.reduceEqDiff, Nat.reduceSub, Nat.reduceAdd, Int.reduceEq, Int.reduceLT, Int.reduceLE, Int.reduceAdd]; omega)) (by first | assumption | simp only [go_sem, Nat.reduceBEq, Nat.reduceLeDiff, Nat.reduceEqDiff, Nat.reduceSub, Nat.reduceAdd, Int.reduceEq, Int.reduceLT, Int.reduceLE, Int.reduceAdd, hg4, hn, hz, hn', Nat.add_zero, hn4, hz4, hx4, bR4, cR4, dR4, eR4, rR, qR, pRS, bS4, cS4, dS4, eS4, rS, qS, pSR]) (by decide) (show isT l s.count [114, 101, 116, 117, 114, 110] = false from h2)) ?_
  intro H5 hg5 ha5
  have hl5 := ha5.1
  try simp only [go_sem, Nat.reduceBEq, Nat.reduceLeDiff, Nat.reduceEqDiff, Nat.reduceSub, Nat.reduceAdd, Int.reduceEq, Int.reduceLT, Int.reduceLE, Int.reduceAdd] at hl5
  have hr5 : r < H5.next := by omega
  have hn5 := ne_new hr5
  have hz5 := ne_new0 hr5
  have hx5 := ne_new' hr5
  have bR5 : H5.get (H.next) = some ([.lit (.int .i64 0), .lit (.string (ba [])), .lit (.string (ba [])), .lit (.string (ba [])), .sl .nil [], .sl .nil [], .sl .nil [], .sl .nil []]) := (ha5.get (by first | omega | (simp only [go_sem, Nat.reduceBEq, Nat.reduceLeDiff, Nat.reduceEqDiff, Nat.reduceSub, Nat.reduceAdd, Int.reduceEq, Int.reduceLT, Int.reduceLE, Int.reduceAdd]; omega)) (by omega)).trans (by simp only [go_sem, Nat.reduceBEq, Nat.reduceLeDiff, Nat.reduceEqDiff, Nat.reduceSub, Nat.reduceAdd, Int.reduceEq, Int.reduceLT, Int.reduceLE, Int.reduceAdd, hg4, hn, hz, hn', Nat.add_zero, hn4, hz4, hx4, bR4, cR4, dR4, eR4, rR, qR, pRS, bS4, cS4, dS4, eS4, rS, qS, pSR])
  have cR5 : ∀ j, (H5.next + j = H.next) = False := fun j => eq_false (by omega)
  have dR5 : (H5.next = H.next) = False := eq_false (by omega)
  have eR5 : ∀ j, (H.next = H5.next + j) = False := fun j => eq_false (by omega)
  have bS5 : H5.get (H1.next + 13) = some ([.lit (.int .i64 0), .lit (.string (ba [])), .lit (.string (ba [])), .lit (.string (ba [])), .sl .nil [], .sl .nil [], .sl .nil [], .sl .nil []]) := (ha5.get (by first | omega | (simp only [go_sem, Nat.reduceBEq, Nat.reduceLeDiff, Nat.reduceEqDiff, Nat.reduceSub, Nat.reduceAdd, Int.reduceEq, Int.reduceLT, Int.reduceLE, Int.reduceAdd]; omega)) (by omega)).trans (by simp only [go_sem, Nat.reduceBEq, Nat.reduceLeDiff, Nat.reduceEqDiff, Nat.reduceSub, Nat.reduceAdd, Int.reduceEq, Int.reduceLT, Int.reduceLE, Int.reduceAdd, hg4, hn, hz, hn', Nat.add_zero, hn4, hz4, hx4, bR4, cR4, dR4, eR4, rR, qR, pRS, bS4, cS4, dS4, eS4, rS, qS, pSR])
  have cS5 : ∀ j, (H5.next + j = H1.next + 13) = False := fun j => eq_false (by omega)
  have dS5 : (H5.next = H1.next + 13) = False := eq_false (by omega)
  have eS5 : ∀ j, (H1.next + 13 = H5.next + j) = False := fun j => eq_false (by omega)
  simp only [go_sem, Nat.reduceBEq, Nat.reduceLeDiff, Nat.reduceEqDiff, Nat.reduceSub, Nat.reduceAdd, Int.reduceEq, Int.reduceLT, Int.reduceLE, Int.reduceAdd, hg5, hn, hz, hn', Nat.add_zero, hn5, hz5, hx5, bR5, cR5, dR5, eR5, rR, qR, pRS, bS5, cS5, dS5, eS5, rS, qS, pSR]
  have hsim : simple l en s.count = assign l en s.count := by simp only [simple, tOut, tReturn, show isT l s.count [111, 117, 116] = false from h1, show isT l s.count [114, 101, 116, 117, 114, 110] = false from h2]
  simp only [semi, hsim] at hq
  cases hq
  refine goC_out (c_assign (s := s.count) (l := l) (en := en) hlen hf (by first | omega | (simp only [go_sem, Nat.reduceBEq, Nat.reduceLeDiff, Nat.reduceEqDiff, Nat.reduceSub, Nat.reduceAdd, Int.reduceEq, Int.reduceLT, Int.reduceLE, Int.reduceAdd]; omega)) (by first | assumption | simp only [go_sem, Nat.reduceBEq, Nat.reduceLeDiff, Nat.reduceEqDiff, Nat.reduceSub, Nat.reduceAdd, Int.reduceEq, Int.reduceLT, Int.reduceLE, Int.reduceAdd, hg5, hn, hz, hn', Nat.add_zero, hn5, hz5, hx5, bR5, cR5, dR5, eR5, rR, qR, pRS, bS5, cS5, dS5, eS5, rS, qS, pSR])) ?_ ?_
  case refine_2 =>
    intro q9 hq9 H9 had
    rw [outP_some (show (need l en (assign l en s.count).1 [59]).f = some q9 by rw [need_bad' (ok_some hq9)]; exact hq9)]
    simp only [go_sem, Nat.reduceBEq, Nat.reduceLeDiff, Nat.reduceEqDiff, Nat.reduceSub, Nat.reduceAdd, Int.reduceEq, Int.reduceLT, Int.reduceLE, Int.reduceAdd, san_trouble]
    (repeat first | exact Adv.refl _ _ | assumption | refine Adv.trans ?_ had | refine Adv.trans ?_ ha1 | refine Adv.trans ?_ ha2 | refine Adv.trans ?_ ha3 | refine Adv.trans ?_ ha4 | refine Adv.trans ?_ ha5 | refine Adv.trans ?_ ha6 | refine Adv.trans ?_ ha7 | refine Adv.trans ?_ ha8 | refine Adv.trans ?_ ha9 | refine Adv.trans ?_ ha10 | refine Adv.trans ?_ ha11 | refine Adv.trans ?_ ha12 | apply Adv.up | apply Adv.put | refine Adv.new ?_ (by omega) _ | refine Adv.live ?_ (by omega) _ | refine Adv.owns ?_ (by omega) (by first | exact OwnB.lo ‹_› | exact fun _ _ _ h => by cases h))
  intro hf8 H6 hg6 ha6
  have hl6 := ha6.1
  try simp only [go_sem, Nat.reduceBEq, Nat.reduceLeDiff, Nat.reduceEqDiff, Nat.reduceSub, Nat.reduceAdd, Int.reduceEq, Int.reduceLT, Int.reduceLE, Int.reduceAdd] at hl6
  have hr6 : r < H6.next := by omega
  have hn6 := ne_new hr6
  have hz6 := ne_new0 hr6
  have hx6 := ne_new' hr6
  have bR6 : H6.get (H.next) = some ([.lit (.int .i64 0), .lit (.string (ba [])), .lit (.string (ba [])), .lit (.string (ba [])), .sl .nil [], .sl .nil [], .sl .nil [], .sl .nil []]) := (ha6.get (by first | omega | (simp only [go_sem, Nat.reduceBEq, Nat.reduceLeDiff, Nat.reduceEqDiff, Nat.reduceSub, Nat.reduceAdd, Int.reduceEq, Int.reduceLT, Int.reduceLE, Int.reduceAdd]; omega)) (by omega)).trans (by simp only [go_sem, Nat.reduceBEq, Nat.reduceLeDiff, Nat.reduceEqDiff, Nat.reduceSub, Nat.reduceAdd, Int.reduceEq, Int.reduceLT, Int.reduceLE, Int.reduceAdd, hg5, hn, hz, hn', Nat.add_zero, hn5, hz5, hx5, bR5, cR5, dR5, eR5, rR, qR, pRS, bS5, cS5, dS5, eS5, rS, qS, pSR])
  have cR6 : ∀ j, (H6.next + j = H.next) = False := fun j => eq_false (by omega)
  have dR6 : (H6.next = H.next) = False := eq_false (by omega)
  have eR6 : ∀ j, (H.next = H6.next + j) = False := fun j => eq_false (by omega)
  have bS6 : H6.get (H1.next + 13) = some ([.lit (.int .i64 0), .lit (.string (ba [])), .lit (.string (ba [])), .lit (.string (ba [])), .sl .nil [], .sl .nil [], .sl .nil [], .sl .nil []]) := (ha6.get (by first | omega | (simp only [go_sem, Nat.reduceBEq, Nat.reduceLeDiff, Nat.reduceEqDiff, Nat.reduceSub, Nat.reduceAdd, Int.reduceEq, Int.reduceLT, Int.reduceLE, Int.reduceAdd]; omega)) (by omega)).trans (by simp only [go_sem, Nat.reduceBEq, Nat.reduceLeDiff, Nat.reduceEqDiff, Nat.reduceSub, Nat.reduceAdd, Int.reduceEq, Int.reduceLT, Int.reduceLE, Int.reduceAdd, hg5, hn, hz, hn', Nat.add_zero, hn5, hz5, hx5, bR5, cR5, dR5, eR5, rR, qR, pRS, bS5, cS5, dS5, eS5, rS, qS, pSR])
  have cS6 : ∀ j, (H6.next + j = H1.next + 13) = False := fun j => eq_false (by omega)
  have dS6 : (H6.next = H1.next + 13) = False := eq_false (by omega)
  have eS6 : ∀ j, (H1.next + 13 = H6.next + j) = False := fun j => eq_false (by omega)
  simp only [go_sem, Nat.reduceBEq, Nat.reduceLeDiff, Nat.reduceEqDiff, Nat.reduceSub, Nat.reduceAdd, Int.reduceEq, Int.reduceLT, Int.reduceLE, Int.reduceAdd, hg6, hn, hz, hn', Nat.add_zero, hn6, hz6, hx6, bR6, cR6, dR6, eR6, rR, qR, pRS, bS6, cS6, dS6, eS6, rS, qS, pSR]
  refine goC_out (c_need (s := (assign l en s.count).1) (l := l) (en := en) hlen hf8 (by first | omega | (simp only [go_sem, Nat.reduceBEq, Nat.reduceLeDiff, Nat.reduceEqDiff, Nat.reduceSub, Nat.reduceAdd, Int.reduceEq, Int.reduceLT, Int.reduceLE, Int.reduceAdd]; omega)) (by first | assumption | simp only [go_sem, Nat.reduceBEq, Nat.reduceLeDiff, Nat.reduceEqDiff, Nat.reduceSub, Nat.reduceAdd, Int.reduceEq, Int.reduceLT, Int.reduceLE, Int.reduceAdd, hg6, hn, hz, hn', Nat.add_zero, hn6, hz6, hx6, bR6, cR6, dR6, eR6, rR, qR, pRS, bS6, cS6, dS6, eS6, rS, qS, pSR]) [59] (by decide)) ?_ ?_
  case refine_2 =>
    intro q9 hq9 H9 had
    rw [outP_some (show (need l en (assign l en s.count).1 [59]).f = some q9 by exact hq9)]
    simp only [go_sem, Nat.reduceBEq, Nat.reduceLeDiff, Nat.reduceEqDiff, Nat.reduceSub, Nat.reduceAdd, Int.reduceEq, Int.reduceLT, Int.reduceLE, Int.reduceAdd, san_trouble]
    (repeat first | exact Adv.refl _ _ | assumption | refine Adv.trans ?_ had | refine Adv.trans ?_ ha1 | refine Adv.trans ?_ ha2 | refine Adv.trans ?_ ha3 | refine Adv.trans ?_ ha4 | refine Adv.trans ?_ ha5 | refine Adv.trans ?_ ha6 | refine Adv.trans ?_ ha7 | refine Adv.trans ?_ ha8 | refine Adv.trans ?_ ha9 | refine Adv.trans ?_ ha10 | refine Adv.trans ?_ ha11 | refine Adv.trans ?_ ha12 | apply Adv.up | apply Adv.put | refine Adv.new ?_ (by omega) _ | refine Adv.live ?_ (by omega) _ | refine Adv.owns ?_ (by omega) (by first | exact OwnB.lo ‹_› | exact fun _ _ _ h => by cases h))
  intro hf9 H7 hg7 ha7
  have hl7 := ha7.1
  try simp only [go_sem, Nat.reduceBEq, Nat.reduceLeDiff, Nat.reduceEqDiff, Nat.reduceSub, Nat.reduceAdd, Int.reduceEq, Int.reduceLT, Int.reduceLE, Int.reduceAdd] at hl7
  have hr7 : r < H7.next := by omega
  have hn7 := ne_new hr7
  have hz7 := ne_new0 hr7
  have hx7 := ne_new' hr7
  have bR7 : H7.get (H.next) = some ([.lit (.int .i64 0), .lit (.string (ba [])), .lit (.string (ba [])), .lit (.string (ba [])), .sl .nil [], .sl .nil [], .sl .nil [], .sl .nil []]) := (ha7.get (by first | omega | (simp only [go_sem, Nat.reduceBEq, Nat.reduceLeDiff, Nat.reduceEqDiff, Nat.reduceSub, Nat.reduceAdd, Int.reduceEq, Int.reduceLT, Int.reduceLE, Int.reduceAdd]; omega)) (by omega)).trans (by simp only [go_sem, Nat.reduceBEq, Nat.reduceLeDiff, Nat.reduceEqDiff, Nat.reduceSub, Nat.reduceAdd, Int.reduceEq, Int.reduceLT, Int.reduceLE, Int.reduceAdd, hg6, hn, hz, hn', Nat.add_zero, hn6, hz6, hx6, bR6, cR6, dR6, eR6, rR, qR, pRS, bS6, cS6, dS6, eS6, rS, qS, pSR])
  have cR7 : ∀ j, (H7.next + j = H.next) = False := fun j => eq_false (by omega)
  have dR7 : (H7.next = H.next) = False := eq_false (by omega)
  have eR7 : ∀ j, (H.next = H7.next + j) = False := fun j => eq_false (by omega)
  have bS7 : H7.get (H1.next + 13) = some (encStmt (assign l en s.count).2) := (ha7.get (by first | omega | (simp only [go_sem, Nat.reduceBEq, Nat.reduceLeDiff, Nat.reduceEqDiff, Nat.reduceSub, Nat.reduceAdd, Int.reduceEq, Int.reduceLT, Int.reduceLE, Int.reduceAdd]; omega)) (by omega)).trans (by simp only [go_sem, Nat.reduceBEq, Nat.reduceLeDiff, Nat.reduceEqDiff, Nat.reduceSub, Nat.reduceAdd, Int.reduceEq, Int.reduceLT, Int.reduceLE, Int.reduceAdd, hg6, hn, hz, hn', Nat.add_zero, hn6, hz6, hx6, bR6, cR6, dR6, eR6, rR, qR, pRS, bS6, cS6, dS6, eS6, rS, qS, pSR])
  have cS7 : ∀ j, (H7.next + j = H1.next + 13) = False := fun j => eq_false (by omega)
  have dS7 : (H7.next = H1.next + 13) = False := eq_false (by omega)
  have eS7 : ∀ j, (H1.next + 13 = H7.next + j) = False := fun j => eq_false (by omega)
  rw [outP_none hf9]
  simp only [go_sem, Nat.reduceBEq, Nat.reduceLeDiff, Nat.reduceEqDiff, Nat.reduceSub, Nat.reduceAdd, Int.reduceEq, Int.reduceLT, Int.reduceLE, Int.reduceAdd, hg7, hn, hz, hn', Nat.add_zero, hn7, hz7, hx7, bR7, cR7, dR7, eR7, rR, qR, pRS, bS7, cS7, dS7, eS7, rS, qS, pSR, rs]
  (repeat first | exact Adv.refl _ _ | assumption | refine Adv.trans ?_ had | refine Adv.trans ?_ ha1 | refine Adv.trans ?_ ha2 | refine Adv.trans ?_ ha3 | refine Adv.trans ?_ ha4 | refine Adv.trans ?_ ha5 | refine Adv.trans ?_ ha6 | refine Adv.trans ?_ ha7 | refine Adv.trans ?_ ha8 | refine Adv.trans ?_ ha9 | refine Adv.trans ?_ ha10 | refine Adv.trans ?_ ha11 | refine Adv.trans ?_ ha12 | apply Adv.up | apply Adv.put | refine Adv.new ?_ (by omega) _ | refine Adv.live ?_ (by omega) _ | refine Adv.owns ?_ (by omega) (by first | exact OwnB.lo ‹_› | exact fun _ _ _ h => by cases h))
set_option maxRecDepth 20000 in
theorem c_stmt1 (hlen : l.length ≤ LM) (n : Nat) (ihb : PBlockOk l en n) (deep : Nat) (hn : 3 * rem l s + 1 ≤ n + 1) (hdeep : deep ≤ 33) (h0 : isName l s = false) (h1 : isT l s [111, 117, 116] = true) (h2 : isT l s [114, 101, 116, 117, 114, 110] = false) (h3 : isT l s [105, 102] = false) (h4 : isT l s [119, 104, 105, 108, 101] = false) (hf : s.f = none) (hr : r < H.next) (hg : H.get r = some (cP l en s)) :
    PCall Tryz.prog cfg r 104 [.ptr r 0, .lit (.int .i64 (deep : Nat))] H (outP l en (stmtF l en (n + 1) s deep).1 (.agg (encStmt (stmtF l en (n + 1) s deep).2))) := by
  have _ := ihb
  have _ := hn
  have _ := hdeep
  obtain ⟨q1, q2, hq⟩ : ∃ q1 q2, stmtF l en (n + 1) s deep = (q1, q2) := ⟨_, _, rfl⟩
  rw [hq]
  show PCall _ _ _ _ _ _ (outP l en q1 (.agg (encStmt q2)))
  refine PCall_of' (fn := Tryz.f104) rfl rfl rfl rfl rfl ?_
  have rs : Tryz.f104.results.toList = [.cell 4 40] := rfl
  have eM := encStmt_mk
  have hn := ne_new hr
  have hz := ne_new0 hr
  have hn' := ne_new' hr
  unfold stmtF at hq
  have hst : starts l s = true := by simp only [starts, tOut, tReturn, tIf, tWhile, h0, h1, h2, h3, h4, Bool.or_true, Bool.true_or]
  rw [hst] at hq
  simp only [tIf, tWhile, h3, h4] at hq
  simp only [go_sem, Nat.reduceBEq, Nat.reduceLeDiff, Nat.reduceEqDiff, Nat.reduceSub, Nat.reduceAdd, Int.reduceEq, Int.reduceLT, Int.reduceLE, Int.reduceAdd]
  have rR : (H.next = r) = False := eq_false (by omega)
  have qR : (r = H.next) = False := eq_false (by omega)
  refine goC_ok (c_isName (s := s) (l := l) (en := en) hlen hf (by first | omega | (simp only [go_sem, Nat.reduceBEq, Nat.reduceLeDiff, Nat.reduceEqDiff, Nat.reduceSub, Nat.reduceAdd, Int.reduceEq, Int.reduceLT, Int.reduceLE, Int.reduceAdd]; omega)) (by first | assumption | simp only [go_sem, Nat.reduceBEq, Nat.reduceLeDiff, Nat.reduceEqDiff, Nat.reduceSub, Nat.reduceAdd, Int.reduceEq, Int.reduceLT, Int.reduceLE, Int.reduceAdd, hg, hn, hz, hn', Nat.add_zero, rR, qR])) ?_
  intro H1 hg1 ha1
  have hl1 := ha1.1
  try simp only [go_sem, Nat.reduceBEq, Nat.reduceLeDiff, Nat.reduceEqDiff, Nat.reduceSub, Nat.reduceAdd, Int.reduceEq, Int.reduceLT, Int.reduceLE, Int.reduceAdd] at hl1
  have hr1 : r < H1.next := by omega
  have hn1 := ne_new hr1
  have hz1 := ne_new0 hr1
  have hx1 := ne_new' hr1
  have bR1 : H1.get (H.next) = some ([.lit (.int .i64 0), .lit (.string (ba [])), .lit (.string (ba [])), .lit (.string (ba [])), .sl .nil [], .sl .nil [], .sl .nil [], .sl .nil []]) := (ha1.get (by first | omega | (simp only [go_sem, Nat.reduceBEq, Nat.reduceLeDiff, Nat.reduceEqDiff, Nat.reduceSub, Nat.reduceAdd, Int.reduceEq, Int.reduceLT, Int.reduceLE, Int.reduceAdd]; omega)) (by omega)).trans (by simp only [go_sem, Nat.reduceBEq, Nat.reduceLeDiff, Nat.reduceEqDiff, Nat.reduceSub, Nat.reduceAdd, Int.reduceEq, Int.reduceLT, Int.reduceLE, Int.reduceAdd, hg, hn, hz, hn', Nat.add_zero, rR, qR])
  have cR1 : ∀ j, (H1.next + j = H.next) = False := fun j => eq_false (by omega)
  have dR1 : (H1.next = H.next) = False := eq_false (by omega)
  have eR1 : ∀ j, (H.next = H1.next + j) = False := fun j => eq_false (by omega)
  simp only [go_sem, Nat.reduceBEq, Nat.reduceLeDiff, Nat.reduceEqDiff, Nat.reduceSub, Nat.reduceAdd, Int.reduceEq, Int.reduceLT, Int.reduceLE, Int.reduceAdd, hg1, hn, hz, hn', Nat.add_zero, hn1, hz1, hx1, bR1, cR1, dR1, eR1, rR, qR, h0]
  refine goC_ok (c_is (s := s) (l := l) (en := en) hlen hf (by first | omega | (simp only [go_sem, Nat.reduceBEq, Nat.reduceLeDiff, Nat.reduceEqDiff, Nat.reduceSub, Nat.reduceAdd, Int.reduceEq, Int.reduceLT, Int.reduceLE, Int.reduceAdd]; omega)) (by first | assumption | simp only [go_sem, Nat.reduceBEq, Nat.reduceLeDiff, Nat.reduceEqDiff, Nat.reduceSub, Nat.reduceAdd, Int.reduceEq, Int.reduceLT, Int.reduceLE, Int.reduceAdd, hg1, hn, hz, hn', Nat.add_zero, hn1, hz1, hx1, bR1, cR1, dR1, eR1, rR, qR]) [111, 117, 116] (by decide)) ?_
  intro H2 hg2 ha2
  have hl2 := ha2.1
  try simp only [go_sem, Nat.reduceBEq, Nat.reduceLeDiff, Nat.reduceEqDiff, Nat.reduceSub, Nat.reduceAdd, Int.reduceEq, Int.reduceLT, Int.reduceLE, Int.reduceAdd] at hl2
  have hr2 : r < H2.next := by omega
  have hn2 := ne_new hr2
  have hz2 := ne_new0 hr2
  have hx2 := ne_new' hr2
  have bR2 : H2.get (H.next) = some ([.lit (.int .i64 0), .lit (.string (ba [])), .lit (.string (ba [])), .lit (.string (ba [])), .sl .nil [], .sl .nil [], .sl .nil [], .sl .nil []]) := (ha2.get (by first | omega | (simp only [go_sem, Nat.reduceBEq, Nat.reduceLeDiff, Nat.reduceEqDiff, Nat.reduceSub, Nat.reduceAdd, Int.reduceEq, Int.reduceLT, Int.reduceLE, Int.reduceAdd]; omega)) (by omega)).trans (by simp only [go_sem, Nat.reduceBEq, Nat.reduceLeDiff, Nat.reduceEqDiff, Nat.reduceSub, Nat.reduceAdd, Int.reduceEq, Int.reduceLT, Int.reduceLE, Int.reduceAdd, hg1, hn, hz, hn', Nat.add_zero, hn1, hz1, hx1, bR1, cR1, dR1, eR1, rR, qR])
  have cR2 : ∀ j, (H2.next + j = H.next) = False := fun j => eq_false (by omega)
  have dR2 : (H2.next = H.next) = False := eq_false (by omega)
  have eR2 : ∀ j, (H.next = H2.next + j) = False := fun j => eq_false (by omega)
  simp only [go_sem, Nat.reduceBEq, Nat.reduceLeDiff, Nat.reduceEqDiff, Nat.reduceSub, Nat.reduceAdd, Int.reduceEq, Int.reduceLT, Int.reduceLE, Int.reduceAdd, hg2, hn, hz, hn', Nat.add_zero, hn2, hz2, hx2, bR2, cR2, dR2, eR2, rR, qR, h1]
  by_cases hc : 2000 ≤ s.cnt
  · have d : decide (2000 ≤ ((s.cnt : Nat) : Int)) = true := by simp; omega
    have d' : decide (2000 ≤ s.cnt) = true := by simp [hc]
    rw [d'] at hq
    cases hq
    rw [outP_fail hf]
    simp only [go_sem, Nat.reduceBEq, Nat.reduceLeDiff, Nat.reduceEqDiff, Nat.reduceSub, Nat.reduceAdd, Int.reduceEq, Int.reduceLT, Int.reduceLE, Int.reduceAdd, hg2, hn, hz, hn', Nat.add_zero, hn2, hz2, hx2, bR2, cR2, dR2, eR2, rR, qR, d]
    refine goC_bad (c_fail (s := s) (l := l) (en := en) (by first | omega | (simp only [go_sem, Nat.reduceBEq, Nat.reduceLeDiff, Nat.reduceEqDiff, Nat.reduceSub, Nat.reduceAdd, Int.reduceEq, Int.reduceLT, Int.reduceLE, Int.reduceAdd]; omega)) (by first | assumption | simp only [go_sem, Nat.reduceBEq, Nat.reduceLeDiff, Nat.reduceEqDiff, Nat.reduceSub, Nat.reduceAdd, Int.reduceEq, Int.reduceLT, Int.reduceLE, Int.reduceAdd, hg2, hn, hz, hn', Nat.add_zero, hn2, hz2, hx2, bR2, cR2, dR2, eR2, rR, qR]) 2 rfl) ?_
    intro H9 had
    simp only [go_sem, Nat.reduceBEq, Nat.reduceLeDiff, Nat.reduceEqDiff, Nat.reduceSub, Nat.reduceAdd, Int.reduceEq, Int.reduceLT, Int.reduceLE, Int.reduceAdd, hg2, hn, hz, hn', Nat.add_zero, hn2, hz2, hx2, bR2, cR2, dR2, eR2, rR, qR, san_trouble]
    (repeat first | exact Adv.refl _ _ | assumption | refine Adv.trans ?_ had | refine Adv.trans ?_ ha1 | refine Adv.trans ?_ ha2 | refine Adv.trans ?_ ha3 | refine Adv.trans ?_ ha4 | refine Adv.trans ?_ ha5 | refine Adv.trans ?_ ha6 | refine Adv.trans ?_ ha7 | refine Adv.trans ?_ ha8 | refine Adv.trans ?_ ha9 | refine Adv.trans ?_ ha10 | refine Adv.trans ?_ ha11 | refine Adv.trans ?_ ha12 | apply Adv.up | apply Adv.put | refine Adv.new ?_ (by omega) _ | refine Adv.live ?_ (by omega) _ | refine Adv.owns ?_ (by omega) (by first | exact OwnB.lo ‹_› | exact fun _ _ _ h => by cases h))
  have d : decide (2000 ≤ ((s.cnt : Nat) : Int)) = false := by simp; omega
  have d' : decide (2000 ≤ s.cnt) = false := by simp; omega
  rw [d'] at hq
  simp only at hq
  have hwc := wrap1 (show s.cnt + 1 ≤ 9223372036854775807 by omega)
  have pSR : (H2.next + 13 = H.next) = False := eq_false (by omega)
  have pRS : (H.next = H2.next + 13) = False := eq_false (by omega)
  have rS : (H2.next + 13 = r) = False := eq_false (by omega)
  have qS : (r = H2.next + 13) = False := eq_false (by omega)
  simp only [go_sem, Nat.reduceBEq, Nat.reduceLeDiff, Nat.reduceEqDiff, Nat.reduceSub, Nat.reduceAdd, Int.reduceEq, Int.reduceLT, Int.reduceLE, Int.reduceAdd, hg2, hn, hz, hn', Nat.add_zero, hn2, hz2, hx2, bR2, cR2, dR2, eR2, rR, qR, pRS, rS, qS, pSR, d, hwc]
  refine goC_ok (c_take_no (s := s.count) (l := l) (en := en) hlen hf (by first | omega | (simp only [go_sem, Nat.reduceBEq, Nat.reduceLeDiff, Nat.reduceEqDiff, Nat.reduceSub, Nat.reduceAdd, Int.reduceEq, Int.reduceLT, Int.reduceLE, Int.reduceAdd]; omega)) (by first | assumption | simp only [go_sem, Nat.reduceBEq, Nat.reduceLeDiff, Nat.reduceEqDiff, Nat.reduceSub, Nat.reduceAdd, Int.reduceEq, Int.reduceLT, Int.reduceLE, Int.reduceAdd, hg2, hn, hz, hn', Nat.add_zero, hn2, hz2, hx2, bR2, cR2, dR2, eR2, rR, qR, pRS, rS, qS, pSR]) (by decide) (show isT l s.count [105, 102] = false from h3)) ?_
  intro H3 hg3 ha3
  have hl3 := ha3.1
  try simp only [go_sem, Nat.reduceBEq, Nat.reduceLeDiff, Nat.reduceEqDiff, Nat.reduceSub, Nat.reduceAdd, Int.reduceEq, Int.reduceLT, Int.reduceLE, Int.reduceAdd] at hl3
  have hr3 : r < H3.next := by omega
  have hn3 := ne_new hr3
  have hz3 := ne_new0 hr3
  have hx3 := ne_new' hr3
  have bR3 : H3.get (H.next) = some ([.lit (.int .i64 0), .lit (.string (ba [])), .lit (.string (ba [])), .lit (.string (ba [])), .sl .nil [], .sl .nil [], .sl .nil [], .sl .nil []]) := (ha3.get (by first | omega | (simp only [go_sem, Nat.reduceBEq, Nat.reduceLeDiff, Nat.reduceEqDiff, Nat.reduceSub, Nat.reduceAdd, Int.reduceEq, Int.reduceLT, Int.reduceLE, Int.reduceAdd]; omega)) (by omega)).trans (by simp only [go_sem, Nat.reduceBEq, Nat.reduceLeDiff, Nat.reduceEqDiff, Nat.reduceSub, Nat.reduceAdd, Int.reduceEq, Int.reduceLT, Int.reduceLE, Int.reduceAdd, hg2, hn, hz, hn', Nat.add_zero, hn2, hz2, hx2, bR2, cR2, dR2, eR2, rR, qR, pRS, rS, qS, pSR])
  have cR3 : ∀ j, (H3.next + j = H.next) = False := fun j => eq_false (by omega)
  have dR3 : (H3.next = H.next) = False := eq_false (by omega)
  have eR3 : ∀ j, (H.next = H3.next + j) = False := fun j => eq_false (by omega)
  have bS3 : H3.get (H2.next + 13) = some ([.lit (.int .i64 0), .lit (.string (ba [])), .lit (.string (ba [])), .lit (.string (ba [])), .sl .nil [], .sl .nil [], .sl .nil [], .sl .nil []]) := (ha3.get (by first | omega | (simp only [go_sem, Nat.reduceBEq, Nat.reduceLeDiff, Nat.reduceEqDiff, Nat.reduceSub, Nat.reduceAdd, Int.reduceEq, Int.reduceLT, Int.reduceLE, Int.reduceAdd]; omega)) (by omega)).trans (by simp only [go_sem, Nat.reduceBEq, Nat.reduceLeDiff, Nat.reduceEqDiff, Nat.reduceSub, Nat.reduceAdd, Int.reduceEq, Int.reduceLT, Int.reduceLE, Int.reduceAdd, hg2, hn, hz, hn', Nat.add_zero, hn2, hz2, hx2, bR2, cR2, dR2, eR2, rR, qR, pRS, rS, qS, pSR])
  have cS3 : ∀ j, (H3.next + j = H2.next + 13) = False := fun j => eq_false (by omega)
  have dS3 : (H3.next = H2.next + 13) = False := eq_false (by omega)
  have eS3 : ∀ j, (H2.next + 13 = H3.next + j) = False := fun j => eq_false (by omega)
  simp only [go_sem, Nat.reduceBEq, Nat.reduceLeDiff, Nat.reduceEqDiff, Nat.reduceSub, Nat.reduceAdd, Int.reduceEq, Int.reduceLT, Int.reduceLE, Int.reduceAdd, hg3, hn, hz, hn', Nat.add_zero, hn3, hz3, hx3, bR3, cR3, dR3, eR3, rR, qR, pRS, bS3, cS3, dS3, eS3, rS, qS, pSR]
  refine goC_ok (c_take_no (s := s.count) (l := l) (en := en) hlen hf (by first | omega | (simp only [go_sem, Nat.reduceBEq, Nat.reduceLeDiff, Nat.reduceEqDiff, Nat.reduceSub, Nat.reduceAdd, Int.reduceEq, Int.reduceLT, Int.reduceLE, Int.reduceAdd]; omega)) (by first | assumption | simp only [go_sem, Nat.reduceBEq, Nat.reduceLeDiff, Nat.reduceEqDiff, Nat.reduceSub, Nat.reduceAdd, Int.reduceEq, Int.reduceLT, Int.reduceLE, Int.reduceAdd, hg3, hn, hz, hn', Nat.add_zero, hn3, hz3, hx3, bR3, cR3, dR3, eR3, rR, qR, pRS, bS3, cS3, dS3, eS3, rS, qS, pSR]) (by decide) (show isT l s.count [119, 104, 105, 108, 101] = false from h4)) ?_
  intro H4 hg4 ha4
  have hl4 := ha4.1
  try simp only [go_sem, Nat.reduceBEq, Nat.reduceLeDiff, Nat.reduceEqDiff, Nat.reduceSub, Nat.reduceAdd, Int.reduceEq, Int.reduceLT, Int.reduceLE, Int.reduceAdd] at hl4
  have hr4 : r < H4.next := by omega
  have hn4 := ne_new hr4
  have hz4 := ne_new0 hr4
  have hx4 := ne_new' hr4
  have bR4 : H4.get (H.next) = some ([.lit (.int .i64 0), .lit (.string (ba [])), .lit (.string (ba [])), .lit (.string (ba [])), .sl .nil [], .sl .nil [], .sl .nil [], .sl .nil []]) := (ha4.get (by first | omega | (simp only [go_sem, Nat.reduceBEq, Nat.reduceLeDiff, Nat.reduceEqDiff, Nat.reduceSub, Nat.reduceAdd, Int.reduceEq, Int.reduceLT, Int.reduceLE, Int.reduceAdd]; omega)) (by omega)).trans (by simp only [go_sem, Nat.reduceBEq, Nat.reduceLeDiff, Nat.reduceEqDiff, Nat.reduceSub, Nat.reduceAdd, Int.reduceEq, Int.reduceLT, Int.reduceLE, Int.reduceAdd, hg3, hn, hz, hn', Nat.add_zero, hn3, hz3, hx3, bR3, cR3, dR3, eR3, rR, qR, pRS, bS3, cS3, dS3, eS3, rS, qS, pSR])
  have cR4 : ∀ j, (H4.next + j = H.next) = False := fun j => eq_false (by omega)
  have dR4 : (H4.next = H.next) = False := eq_false (by omega)
  have eR4 : ∀ j, (H.next = H4.next + j) = False := fun j => eq_false (by omega)
  have bS4 : H4.get (H2.next + 13) = some ([.lit (.int .i64 0), .lit (.string (ba [])), .lit (.string (ba [])), .lit (.string (ba [])), .sl .nil [], .sl .nil [], .sl .nil [], .sl .nil []]) := (ha4.get (by first | omega | (simp only [go_sem, Nat.reduceBEq, Nat.reduceLeDiff, Nat.reduceEqDiff, Nat.reduceSub, Nat.reduceAdd, Int.reduceEq, Int.reduceLT, Int.reduceLE, Int.reduceAdd]; omega)) (by omega)).trans (by simp only [go_sem, Nat.reduceBEq, Nat.reduceLeDiff, Nat.reduceEqDiff, Nat.reduceSub, Nat.reduceAdd, Int.reduceEq, Int.reduceLT, Int.reduceLE, Int.reduceAdd, hg3, hn, hz, hn', Nat.add_zero, hn3, hz3, hx3, bR3, cR3, dR3, eR3, rR, qR, pRS, bS3, cS3, dS3, eS3, rS, qS, pSR])
  have cS4 : ∀ j, (H4.next + j = H2.next + 13) = False := fun j => eq_false (by omega)
  have dS4 : (H4.next = H2.next + 13) = False := eq_false (by omega)
  have eS4 : ∀ j, (H2.next + 13 = H4.next + j) = False := fun j => eq_false (by omega)
  simp only [go_sem, Nat.reduceBEq, Nat.reduceLeDiff, Nat.reduceEqDiff, Nat.reduceSub, Nat.reduceAdd, Int.reduceEq, Int.reduceLT, Int.reduceLE, Int.reduceAdd, hg4, hn, hz, hn', Nat.add_zero, hn4, hz4, hx4, bR4, cR4, dR4, eR4, rR, qR, pRS, bS4, cS4, dS4, eS4, rS, qS, pSR]
  refine goC_ok (c_take_yes (s := s.count) (l := l) (en := en) hlen hf (by first | omega | (simp only [go_sem, Nat.reduceBEq, Nat.reduceLeDiff, Nat.reduceEqDiff, Nat.reduceSub, Nat.reduceAdd, Int.reduceEq, Int.reduceLT, Int.reduceLE, Int.reduceAdd]; omega)) (by first | assumption | simp only [go_sem, Nat.reduceBEq, Nat.reduceLeDiff, Nat.reduceEqDiff, Nat.reduceSub, Nat.reduceAdd, Int.reduceEq, Int.reduceLT, Int.reduceLE, Int.reduceAdd, hg4, hn, hz, hn', Nat.add_zero, hn4, hz4, hx4, bR4, cR4, dR4, eR4, rR, qR, pRS, bS4, cS4, dS4, eS4, rS, qS, pSR]) (by decide) (show isT l s.count [111, 117, 116] = true from h1)) ?_
  intro H5 hg5 ha5
  have hl5 := ha5.1
  try simp only [go_sem, Nat.reduceBEq, Nat.reduceLeDiff, Nat.reduceEqDiff, Nat.reduceSub, Nat.reduceAdd, Int.reduceEq, Int.reduceLT, Int.reduceLE, Int.reduceAdd] at hl5
  have hr5 : r < H5.next := by omega
  have hn5 := ne_new hr5
  have hz5 := ne_new0 hr5
  have hx5 := ne_new' hr5
  have bR5 : H5.get (H.next) = some ([.lit (.int .i64 0), .lit (.string (ba [])), .lit (.string (ba [])), .lit (.string (ba [])), .sl .nil [], .sl .nil [], .sl .nil [], .sl .nil []]) := (ha5.get (by first | omega | (simp only [go_sem, Nat.reduceBEq, Nat.reduceLeDiff, Nat.reduceEqDiff, Nat.reduceSub, Nat.reduceAdd, Int.reduceEq, Int.reduceLT, Int.reduceLE, Int.reduceAdd]; omega)) (by omega)).trans (by simp only [go_sem, Nat.reduceBEq, Nat.reduceLeDiff, Nat.reduceEqDiff, Nat.reduceSub, Nat.reduceAdd, Int.reduceEq, Int.reduceLT, Int.reduceLE, Int.reduceAdd, hg4, hn, hz, hn', Nat.add_zero, hn4, hz4, hx4, bR4, cR4, dR4, eR4, rR, qR, pRS, bS4, cS4, dS4, eS4, rS, qS, pSR])
  have cR5 : ∀ j, (H5.next + j = H.next) = False := fun j => eq_false (by omega)
  have dR5 : (H5.next = H.next) = False := eq_false (by omega)
  have eR5 : ∀ j, (H.next = H5.next + j) = False := fun j => eq_false (by omega)
  have bS5 : H5.get (H2.next + 13) = some ([.lit (.int .i64 0), .lit (.string (ba [])), .lit (.string (ba [])), .lit (.string (ba [])), .sl .nil [], .sl .nil [], .sl .nil [], .sl .nil []]) := (ha5.get (by first | omega | (simp only [go_sem, Nat.reduceBEq, Nat.reduceLeDiff, Nat.reduceEqDiff, Nat.reduceSub, Nat.reduceAdd, Int.reduceEq, Int.reduceLT, Int.reduceLE, Int.reduceAdd]; omega)) (by omega)).trans (by simp only [go_sem, Nat.reduceBEq, Nat.reduceLeDiff, Nat.reduceEqDiff, Nat.reduceSub, Nat.reduceAdd, Int.reduceEq, Int.reduceLT, Int.reduceLE, Int.reduceAdd, hg4, hn, hz, hn', Nat.add_zero, hn4, hz4, hx4, bR4, cR4, dR4, eR4, rR, qR, pRS, bS4, cS4, dS4, eS4, rS, qS, pSR])
  have cS5 : ∀ j, (H5.next + j = H2.next + 13) = False := fun j => eq_false (by omega)
  have dS5 : (H5.next = H2.next + 13) = False := eq_false (by omega)
  have eS5 : ∀ j, (H2.next + 13 = H5.next + j) = False := fun j => eq_false (by omega)
  simp only [go_sem, Nat.reduceBEq, Nat.reduceLeDiff, Nat.reduceEqDiff, Nat.reduceSub, Nat.reduceAdd, Int.reduceEq, Int.reduceLT, Int.reduceLE, Int.reduceAdd, hg5, hn, hz, hn', Nat.add_zero, hn5, hz5, hx5, bR5, cR5, dR5, eR5, rR, qR, pRS, bS5, cS5, dS5, eS5, rS, qS, pSR]
  have hsim : simple l en s.count = ((operand l en s.count.adv).1, .mk 8 [] [] [] [(operand l en s.count.adv).2] [] [] []) := by simp only [simple, tOut, tReturn, show isT l s.count [111, 117, 116] = true from h1]
  simp only [semi, hsim] at hq
  cases hq
  refine goC_out (c_operand (s := s.count.adv) (l := l) (en := en) hlen hf (by first | omega | (simp only [go_sem, Nat.reduceBEq, Nat.reduceLeDiff, Nat.reduceEqDiff, Nat.reduceSub, Nat.reduceAdd, Int.reduceEq, Int.reduceLT, Int.reduceLE, Int.reduceAdd]; omega)) (by first | assumption | simp only [go_sem, Nat.reduceBEq, Nat.reduceLeDiff, Nat.reduceEqDiff, Nat.reduceSub, Nat.reduceAdd, Int.reduceEq, Int.reduceLT, Int.reduceLE, Int.reduceAdd, hg5, hn, hz, hn', Nat.add_zero, hn5, hz5, hx5, bR5, cR5, dR5, eR5, rR, qR, pRS, bS5, cS5, dS5, eS5, rS, qS, pSR])) ?_ ?_
  case refine_2 =>
    intro q9 hq9 H9 had
    rw [outP_some (show (need l en (operand l en s.count.adv).1 [59]).f = some q9 by rw [need_bad' (ok_some hq9)]; exact hq9)]
    simp only [go_sem, Nat.reduceBEq, Nat.reduceLeDiff, Nat.reduceEqDiff, Nat.reduceSub, Nat.reduceAdd, Int.reduceEq, Int.reduceLT, Int.reduceLE, Int.reduceAdd, san_trouble]
    (repeat first | exact Adv.refl _ _ | assumption | refine Adv.trans ?_ had | refine Adv.trans ?_ ha1 | refine Adv.trans ?_ ha2 | refine Adv.trans ?_ ha3 | refine Adv.trans ?_ ha4 | refine Adv.trans ?_ ha5 | refine Adv.trans ?_ ha6 | refine Adv.trans ?_ ha7 | refine Adv.trans ?_ ha8 | refine Adv.trans ?_ ha9 | refine Adv.trans ?_ ha10 | refine Adv.trans ?_ ha11 | refine Adv.trans ?_ ha12 | apply Adv.up | apply Adv.put | refine Adv.new ?_ (by omega) _ | refine Adv.live ?_ (by omega) _ | refine Adv.owns ?_ (by omega) (by first | exact OwnB.lo ‹_› | exact fun _ _ _ h => by cases h))
  intro hf8 H6 hg6 ha6
  have hl6 := ha6.1
  try simp only [go_sem, Nat.reduceBEq, Nat.reduceLeDiff, Nat.reduceEqDiff, Nat.reduceSub, Nat.reduceAdd, Int.reduceEq, Int.reduceLT, Int.reduceLE, Int.reduceAdd] at hl6
  have hr6 : r < H6.next := by omega
  have hn6 := ne_new hr6
  have hz6 := ne_new0 hr6
  have hx6 := ne_new' hr6
  have bR6 : H6.get (H.next) = some ([.lit (.int .i64 0), .lit (.string (ba [])), .lit (.string (ba [])), .lit (.string (ba [])), .sl .nil [], .sl .nil [], .sl .nil [], .sl .nil []]) := (ha6.get (by first | omega | (simp only [go_sem, Nat.reduceBEq, Nat.reduceLeDiff, Nat.reduceEqDiff, Nat.reduceSub, Nat.reduceAdd, Int.reduceEq, Int.reduceLT, Int.reduceLE, Int.reduceAdd]; omega)) (by omega)).trans (by simp only [go_sem, Nat.reduceBEq, Nat.reduceLeDiff, Nat.reduceEqDiff, Nat.reduceSub, Nat.reduceAdd, Int.reduceEq, Int.reduceLT, Int.reduceLE, Int.reduceAdd, hg5, hn, hz, hn', Nat.add_zero, hn5, hz5, hx5, bR5, cR5, dR5, eR5, rR, qR, pRS, bS5, cS5, dS5, eS5, rS, qS, pSR])
  have cR6 : ∀ j, (H6.next + j = H.next) = False := fun j => eq_false (by omega)
  have dR6 : (H6.next = H.next) = False := eq_false (by omega)
  have eR6 : ∀ j, (H.next = H6.next + j) = False := fun j => eq_false (by omega)
  have bS6 : H6.get (H2.next + 13) = some ([.lit (.int .i64 0), .lit (.string (ba [])), .lit (.string (ba [])), .lit (.string (ba [])), .sl .nil [], .sl .nil [], .sl .nil [], .sl .nil []]) := (ha6.get (by first | omega | (simp only [go_sem, Nat.reduceBEq, Nat.reduceLeDiff, Nat.reduceEqDiff, Nat.reduceSub, Nat.reduceAdd, Int.reduceEq, Int.reduceLT, Int.reduceLE, Int.reduceAdd]; omega)) (by omega)).trans (by simp only [go_sem, Nat.reduceBEq, Nat.reduceLeDiff, Nat.reduceEqDiff, Nat.reduceSub, Nat.reduceAdd, Int.reduceEq, Int.reduceLT, Int.reduceLE, Int.reduceAdd, hg5, hn, hz, hn', Nat.add_zero, hn5, hz5, hx5, bR5, cR5, dR5, eR5, rR, qR, pRS, bS5, cS5, dS5, eS5, rS, qS, pSR])
  have cS6 : ∀ j, (H6.next + j = H2.next + 13) = False := fun j => eq_false (by omega)
  have dS6 : (H6.next = H2.next + 13) = False := eq_false (by omega)
  have eS6 : ∀ j, (H2.next + 13 = H6.next + j) = False := fun j => eq_false (by omega)
  simp only [go_sem, Nat.reduceBEq, Nat.reduceLeDiff, Nat.reduceEqDiff, Nat.reduceSub, Nat.reduceAdd, Int.reduceEq, Int.reduceLT, Int.reduceLE, Int.reduceAdd, hg6, hn, hz, hn', Nat.add_zero, hn6, hz6, hx6, bR6, cR6, dR6, eR6, rR, qR, pRS, bS6, cS6, dS6, eS6, rS, qS, pSR]
  refine goC_out (c_need (s := (operand l en s.count.adv).1) (l := l) (en := en) hlen hf8 (by first | omega | (simp only [go_sem, Nat.reduceBEq, Nat.reduceLeDiff, Nat.reduceEqDiff, Nat.reduceSub, Nat.reduceAdd, Int.reduceEq, Int.reduceLT, Int.reduceLE, Int.reduceAdd]; omega)) (by first | assumption | simp only [go_sem, Nat.reduceBEq, Nat.reduceLeDiff, Nat.reduceEqDiff, Nat.reduceSub, Nat.reduceAdd, Int.reduceEq, Int.reduceLT, Int.reduceLE, Int.reduceAdd, hg6, hn, hz, hn', Nat.add_zero, hn6, hz6, hx6, bR6, cR6, dR6, eR6, rR, qR, pRS, bS6, cS6, dS6, eS6, rS, qS, pSR]) [59] (by decide)) ?_ ?_
  case refine_2 =>
    intro q9 hq9 H9 had
    rw [outP_some (show (need l en (operand l en s.count.adv).1 [59]).f = some q9 by exact hq9)]
    simp only [go_sem, Nat.reduceBEq, Nat.reduceLeDiff, Nat.reduceEqDiff, Nat.reduceSub, Nat.reduceAdd, Int.reduceEq, Int.reduceLT, Int.reduceLE, Int.reduceAdd, san_trouble]
    (repeat first | exact Adv.refl _ _ | assumption | refine Adv.trans ?_ had | refine Adv.trans ?_ ha1 | refine Adv.trans ?_ ha2 | refine Adv.trans ?_ ha3 | refine Adv.trans ?_ ha4 | refine Adv.trans ?_ ha5 | refine Adv.trans ?_ ha6 | refine Adv.trans ?_ ha7 | refine Adv.trans ?_ ha8 | refine Adv.trans ?_ ha9 | refine Adv.trans ?_ ha10 | refine Adv.trans ?_ ha11 | refine Adv.trans ?_ ha12 | apply Adv.up | apply Adv.put | refine Adv.new ?_ (by omega) _ | refine Adv.live ?_ (by omega) _ | refine Adv.owns ?_ (by omega) (by first | exact OwnB.lo ‹_› | exact fun _ _ _ h => by cases h))
  intro hf9 H7 hg7 ha7
  have hl7 := ha7.1
  try simp only [go_sem, Nat.reduceBEq, Nat.reduceLeDiff, Nat.reduceEqDiff, Nat.reduceSub, Nat.reduceAdd, Int.reduceEq, Int.reduceLT, Int.reduceLE, Int.reduceAdd] at hl7
  have hr7 : r < H7.next := by omega
  have hn7 := ne_new hr7
  have hz7 := ne_new0 hr7
  have hx7 := ne_new' hr7
  have bR7 : H7.get (H.next) = some ([.lit (.int .i64 0), .lit (.string (ba [])), .lit (.string (ba [])), .lit (.string (ba [])), .sl .nil [], .sl .nil [], .sl .nil [], .sl .nil []]) := (ha7.get (by first | omega | (simp only [go_sem, Nat.reduceBEq, Nat.reduceLeDiff, Nat.reduceEqDiff, Nat.reduceSub, Nat.reduceAdd, Int.reduceEq, Int.reduceLT, Int.reduceLE, Int.reduceAdd]; omega)) (by omega)).trans (by simp only [go_sem, Nat.reduceBEq, Nat.reduceLeDiff, Nat.reduceEqDiff, Nat.reduceSub, Nat.reduceAdd, Int.reduceEq, Int.reduceLT, Int.reduceLE, Int.reduceAdd, hg6, hn, hz, hn', Nat.add_zero, hn6, hz6, hx6, bR6, cR6, dR6, eR6, rR, qR, pRS, bS6, cS6, dS6, eS6, rS, qS, pSR])
  have cR7 : ∀ j, (H7.next + j = H.next) = False := fun j => eq_false (by omega)
  have dR7 : (H7.next = H.next) = False := eq_false (by omega)
  have eR7 : ∀ j, (H.next = H7.next + j) = False := fun j => eq_false (by omega)
  have bS7 : H7.get (H2.next + 13) = some ([.lit (.int .i64 8), .lit (.string (ba [])), .lit (.string (ba [])), .lit (.string (ba [])), .sl .ex [encOpd (operand l en s.count.adv).2], .sl .nil [], .sl .nil [], .sl .nil []]) := (ha7.get (by first | omega | (simp only [go_sem, Nat.reduceBEq, Nat.reduceLeDiff, Nat.reduceEqDiff, Nat.reduceSub, Nat.reduceAdd, Int.reduceEq, Int.reduceLT, Int.reduceLE, Int.reduceAdd]; omega)) (by omega)).trans (by simp only [go_sem, Nat.reduceBEq, Nat.reduceLeDiff, Nat.reduceEqDiff, Nat.reduceSub, Nat.reduceAdd, Int.reduceEq, Int.reduceLT, Int.reduceLE, Int.reduceAdd, hg6, hn, hz, hn', Nat.add_zero, hn6, hz6, hx6, bR6, cR6, dR6, eR6, rR, qR, pRS, bS6, cS6, dS6, eS6, rS, qS, pSR])
  have cS7 : ∀ j, (H7.next + j = H2.next + 13) = False := fun j => eq_false (by omega)
  have dS7 : (H7.next = H2.next + 13) = False := eq_false (by omega)
  have eS7 : ∀ j, (H2.next + 13 = H7.next + j) = False := fun j => eq_false (by omega)
  rw [outP_none hf9]
  simp only [go_sem, Nat.reduceBEq, Nat.reduceLeDiff, Nat.reduceEqDiff, Nat.reduceSub, Nat.reduceAdd, Int.reduceEq, Int.reduceLT, Int.reduceLE, Int.reduceAdd, hg7, hn, hz, hn', Nat.add_zero, hn7, hz7, hx7, bR7, cR7, dR7, eR7, rR, qR, pRS, bS7, cS7, dS7, eS7, rS, qS, pSR, rs, eM, List.map_cons, List.map_nil]
  (repeat first | exact Adv.refl _ _ | assumption | refine Adv.trans ?_ had | refine Adv.trans ?_ ha1 | refine Adv.trans ?_ ha2 | refine Adv.trans ?_ ha3 | refine Adv.trans ?_ ha4 | refine Adv.trans ?_ ha5 | refine Adv.trans ?_ ha6 | refine Adv.trans ?_ ha7 | refine Adv.trans ?_ ha8 | refine Adv.trans ?_ ha9 | refine Adv.trans ?_ ha10 | refine Adv.trans ?_ ha11 | refine Adv.trans ?_ ha12 | apply Adv.up | apply Adv.put | refine Adv.new ?_ (by omega) _ | refine Adv.live ?_ (by omega) _ | refine Adv.owns ?_ (by omega) (by first | exact OwnB.lo ‹_› | exact fun _ _ _ h => by cases h))
set_option maxRecDepth 20000 in
theorem c_stmt2 (hlen : l.length ≤ LM) (n : Nat) (ihb : PBlockOk l en n) (deep : Nat) (hn : 3 * rem l s + 1 ≤ n + 1) (hdeep : deep ≤ 33) (h0 : isName l s = false) (h1 : isT l s [111, 117, 116] = false) (h2 : isT l s [114, 101, 116, 117, 114, 110] = true) (h3 : isT l s [105, 102] = false) (h4 : isT l s [119, 104, 105, 108, 101] = false) (hf : s.f = none) (hr : r < H.next) (hg : H.get r = some (cP l en s)) :
    PCall Tryz.prog cfg r 104 [.ptr r 0, .lit (.int .i64 (deep : Nat))] H (outP l en (stmtF l en (n + 1) s deep).1 (.agg (encStmt (stmtF l en (n + 1) s deep).2))) := by
  have _ := ihb
  have _ := hn
  have _ := hdeep
  obtain ⟨q1, q2, hq⟩ : ∃ q1 q2, stmtF l en (n + 1) s deep = (q1, q2) := ⟨_, _, rfl⟩
  rw [hq]
  show PCall _ _ _ _ _ _ (outP l en q1 (.agg (encStmt q2)))
  refine PCall_of' (fn := Tryz.f104) rfl rfl rfl rfl rfl ?_
  have rs : Tryz.f104.results.toList = [.cell 4 40] := rfl
  have eM := encStmt_mk
  have hn := ne_new hr
  have hz := ne_new0 hr
  have hn' := ne_new' hr
  unfold stmtF at hq
  have hst : starts l s = true := by simp only [starts, tOut, tReturn, tIf, tWhile, h0, h1, h2, h3, h4, Bool.or_true, Bool.true_or]
  rw [hst] at hq
  simp only [tIf, tWhile, h3, h4] at hq
  simp only [go_sem, Nat.reduceBEq, Nat.reduceLeDiff, Nat.reduceEqDiff, Nat.reduceSub, Nat.reduceAdd, Int.reduceEq, Int.reduceLT, Int.reduceLE, Int.reduceAdd]
  have rR : (H.next = r) = False := eq_false (by omega)
  have qR : (r = H.next) = False := eq_false (by omega)
  refine goC_ok (c_isName (s := s) (l := l) (en := en) hlen hf (by first | omega | (simp only [go_sem, Nat.reduceBEq, Nat.reduceLeDiff, Nat.reduceEqDiff, Nat.reduceSub, Nat.reduceAdd, Int.reduceEq, Int.reduceLT, Int.reduceLE, Int.reduceAdd]; omega)) (by first | assumption | simp only [go_sem, Nat.reduceBEq, Nat.reduceLeDiff, Nat.reduceEqDiff, Nat.reduceSub, Nat.reduceAdd, Int.reduceEq, Int.reduceLT, Int.reduceLE, Int.reduceAdd, hg, hn, hz, hn', Nat.add_zero, rR, qR])) ?_
  intro H1 hg1 ha1
  have hl1 := ha1.1
  try simp only [go_sem, Nat.reduceBEq, Nat.reduceLeDiff, Nat.reduceEqDiff, Nat.reduceSub, Nat.reduceAdd, Int.reduceEq, Int.reduceLT, Int.reduceLE, Int.reduceAdd] at hl1
  have hr1 : r < H1.next := by omega
  have hn1 := ne_new hr1
  have hz1 := ne_new0 hr1
  have hx1 := ne_new' hr1
  have bR1 : H1.get (H.next) = some ([.lit (.int .i64 0), .lit (.string (ba [])), .lit (.string (ba [])), .lit (.string (ba [])), .sl .nil [], .sl .nil [], .sl .nil [], .sl .nil []]) := (ha1.get (by first | omega | (simp only [go_sem, Nat.reduceBEq, Nat.reduceLeDiff, Nat.reduceEqDiff, Nat.reduceSub, Nat.reduceAdd, Int.reduceEq, Int.reduceLT, Int.reduceLE, Int.reduceAdd]; omega)) (by omega)).trans (by simp only [go_sem, Nat.reduceBEq, Nat.reduceLeDiff, Nat.reduceEqDiff, Nat.reduceSub, Nat.reduceAdd, Int.reduceEq, Int.reduceLT, Int.reduceLE, Int.reduceAdd, hg, hn, hz, hn', Nat.add_zero, rR, qR])
  have cR1 : ∀ j, (H1.next + j = H.next) = False := fun j => eq_false (by omega)
  have dR1 : (H1.next = H.next) = False := eq_false (by omega)
  have eR1 : ∀ j, (H.next = H1.next + j) = False := fun j => eq_false (by omega)
  simp only [go_sem, Nat.reduceBEq, Nat.reduceLeDiff, Nat.reduceEqDiff, Nat.reduceSub, Nat.reduceAdd, Int.reduceEq, Int.reduceLT, Int.reduceLE, Int.reduceAdd, hg1, hn, hz, hn', Nat.add_zero, hn1, hz1, hx1, bR1, cR1, dR1, eR1, rR, qR, h0]
  refine goC_ok (c_is (s := s) (l := l) (en := en) hlen hf (by first | omega | (simp only [go_sem, Nat.reduceBEq, Nat.reduceLeDiff, Nat.reduceEqDiff, Nat.reduceSub, Nat.reduceAdd, Int.reduceEq, Int.reduceLT, Int.reduceLE, Int.reduceAdd]; omega)) (by first | assumption | simp only [go_sem, Nat.reduceBEq, Nat.reduceLeDiff, Nat.reduceEqDiff, Nat.reduceSub, Nat.reduceAdd, Int.reduceEq, Int.reduceLT, Int.reduceLE, Int.reduceAdd, hg1, hn, hz, hn', Nat.add_zero, hn1, hz1, hx1, bR1, cR1, dR1, eR1, rR, qR]) [111, 117, 116] (by decide)) ?_
  intro H2 hg2 ha2
  have hl2 := ha2.1
  try simp only [go_sem, Nat.reduceBEq, Nat.reduceLeDiff, Nat.reduceEqDiff, Nat.reduceSub, Nat.reduceAdd, Int.reduceEq, Int.reduceLT, Int.reduceLE, Int.reduceAdd] at hl2
  have hr2 : r < H2.next := by omega
  have hn2 := ne_new hr2
  have hz2 := ne_new0 hr2
  have hx2 := ne_new' hr2
  have bR2 : H2.get (H.next) = some ([.lit (.int .i64 0), .lit (.string (ba [])), .lit (.string (ba [])), .lit (.string (ba [])), .sl .nil [], .sl .nil [], .sl .nil [], .sl .nil []]) := (ha2.get (by first | omega | (simp only [go_sem, Nat.reduceBEq, Nat.reduceLeDiff, Nat.reduceEqDiff, Nat.reduceSub, Nat.reduceAdd, Int.reduceEq, Int.reduceLT, Int.reduceLE, Int.reduceAdd]; omega)) (by omega)).trans (by simp only [go_sem, Nat.reduceBEq, Nat.reduceLeDiff, Nat.reduceEqDiff, Nat.reduceSub, Nat.reduceAdd, Int.reduceEq, Int.reduceLT, Int.reduceLE, Int.reduceAdd, hg1, hn, hz, hn', Nat.add_zero, hn1, hz1, hx1, bR1, cR1, dR1, eR1, rR, qR])
  have cR2 : ∀ j, (H2.next + j = H.next) = False := fun j => eq_false (by omega)
  have dR2 : (H2.next = H.next) = False := eq_false (by omega)
  have eR2 : ∀ j, (H.next = H2.next + j) = False := fun j => eq_false (by omega)
  simp only [go_sem, Nat.reduceBEq, Nat.reduceLeDiff, Nat.reduceEqDiff, Nat.reduceSub, Nat.reduceAdd, Int.reduceEq, Int.reduceLT, Int.reduceLE, Int.reduceAdd, hg2, hn, hz, hn', Nat.add_zero, hn2, hz2, hx2, bR2, cR2, dR2, eR2, rR, qR, h1]
  refine goC_ok (c_is (s := s) (l := l) (en := en) hlen hf (by first | omega | (simp only [go_sem, Nat.reduceBEq, Nat.reduceLeDiff, Nat.reduceEqDiff, Nat.reduceSub, Nat.reduceAdd, Int.reduceEq, Int.reduceLT, Int.reduceLE, Int.reduceAdd]; omega)) (by first | assumption | simp only [go_sem, Nat.reduceBEq, Nat.reduceLeDiff, Nat.reduceEqDiff, Nat.reduceSub, Nat.reduceAdd, Int.reduceEq, Int.reduceLT, Int.reduceLE, Int.reduceAdd, hg2, hn, hz, hn', Nat.add_zero, hn2, hz2, hx2, bR2, cR2, dR2, eR2, rR, qR]) [114, 101, 116, 117, 114, 110] (by decide)) ?_
  intro H3 hg3 ha3
  have hl3 := ha3.1
  try simp only [go_sem, Nat.reduceBEq, Nat.reduceLeDiff, Nat.reduceEqDiff, Nat.reduceSub, Nat.reduceAdd, Int.reduceEq, Int.reduceLT, Int.reduceLE, Int.reduceAdd] at hl3
  have hr3 : r < H3.next := by omega
  have hn3 := ne_new hr3
  have hz3 := ne_new0 hr3
  have hx3 := ne_new' hr3
  have bR3 : H3.get (H.next) = some ([.lit (.int .i64 0), .lit (.string (ba [])), .lit (.string (ba [])), .lit (.string (ba [])), .sl .nil [], .sl .nil [], .sl .nil [], .sl .nil []]) := (ha3.get (by first | omega | (simp only [go_sem, Nat.reduceBEq, Nat.reduceLeDiff, Nat.reduceEqDiff, Nat.reduceSub, Nat.reduceAdd, Int.reduceEq, Int.reduceLT, Int.reduceLE, Int.reduceAdd]; omega)) (by omega)).trans (by simp only [go_sem, Nat.reduceBEq, Nat.reduceLeDiff, Nat.reduceEqDiff, Nat.reduceSub, Nat.reduceAdd, Int.reduceEq, Int.reduceLT, Int.reduceLE, Int.reduceAdd, hg2, hn, hz, hn', Nat.add_zero, hn2, hz2, hx2, bR2, cR2, dR2, eR2, rR, qR])
  have cR3 : ∀ j, (H3.next + j = H.next) = False := fun j => eq_false (by omega)
  have dR3 : (H3.next = H.next) = False := eq_false (by omega)
  have eR3 : ∀ j, (H.next = H3.next + j) = False := fun j => eq_false (by omega)
  simp only [go_sem, Nat.reduceBEq, Nat.reduceLeDiff, Nat.reduceEqDiff, Nat.reduceSub, Nat.reduceAdd, Int.reduceEq, Int.reduceLT, Int.reduceLE, Int.reduceAdd, hg3, hn, hz, hn', Nat.add_zero, hn3, hz3, hx3, bR3, cR3, dR3, eR3, rR, qR, h2]
  by_cases hc : 2000 ≤ s.cnt
  · have d : decide (2000 ≤ ((s.cnt : Nat) : Int)) = true := by simp; omega
    have d' : decide (2000 ≤ s.cnt) = true := by simp [hc]
    rw [d'] at hq
    cases hq
    rw [outP_fail hf]
    simp only [go_sem, Nat.reduceBEq, Nat.reduceLeDiff, Nat.reduceEqDiff, Nat.reduceSub, Nat.reduceAdd, Int.reduceEq, Int.reduceLT, Int.reduceLE, Int.reduceAdd, hg3, hn, hz, hn', Nat.add_zero, hn3, hz3, hx3, bR3, cR3, dR3, eR3, rR, qR, d]
    refine goC_bad (c_fail (s := s) (l := l) (en := en) (by first | omega | (simp only [go_sem, Nat.reduceBEq, Nat.reduceLeDiff, Nat.reduceEqDiff, Nat.reduceSub, Nat.reduceAdd, Int.reduceEq, Int.reduceLT, Int.reduceLE, Int.reduceAdd]; omega)) (by first | assumption | simp only [go_sem, Nat.reduceBEq, Nat.reduceLeDiff, Nat.reduceEqDiff, Nat.reduceSub, Nat.reduceAdd, Int.reduceEq, Int.reduceLT, Int.reduceLE, Int.reduceAdd, hg3, hn, hz, hn', Nat.add_zero, hn3, hz3, hx3, bR3, cR3, dR3, eR3, rR, qR]) 2 rfl) ?_
    intro H9 had
    simp only [go_sem, Nat.reduceBEq, Nat.reduceLeDiff, Nat.reduceEqDiff, Nat.reduceSub, Nat.reduceAdd, Int.reduceEq, Int.reduceLT, Int.reduceLE, Int.reduceAdd, hg3, hn, hz, hn', Nat.add_zero, hn3, hz3, hx3, bR3, cR3, dR3, eR3, rR, qR, san_trouble]
    (repeat first | exact Adv.refl _ _ | assumption | refine Adv.trans ?_ had | refine Adv.trans ?_ ha1 | refine Adv.trans ?_ ha2 | refine Adv.trans ?_ ha3 | refine Adv.trans ?_ ha4 | refine Adv.trans ?_ ha5 | refine Adv.trans ?_ ha6 | refine Adv.trans ?_ ha7 | refine Adv.trans ?_ ha8 | refine Adv.trans ?_ ha9 | refine Adv.trans ?_ ha10 | refine Adv.trans ?_ ha11 | refine Adv.trans ?_ ha12 | apply Adv.up | apply Adv.put | refine Adv.new ?_ (by omega) _ | refine Adv.live ?_ (by omega) _ | refine Adv.owns ?_ (by omega) (by first | exact OwnB.lo ‹_› | exact fun _ _ _ h => by cases h))
  have d : decide (2000 ≤ ((s.cnt : Nat) : Int)) = false := by simp; omega
  have d' : decide (2000 ≤ s.cnt) = false := by simp; omega
  rw [d'] at hq
  simp only at hq
  have hwc := wrap1 (show s.cnt + 1 ≤ 9223372036854775807 by omega)
  have pSR : (H3.next + 13 = H.next) = False := eq_false (by omega)
  have pRS : (H.next = H3.next + 13) = False := eq_false (by omega)
  have rS : (H3.next + 13 = r) = False := eq_false (by omega)
  have qS : (r = H3.next + 13) = False := eq_false (by omega)
  simp only [go_sem, Nat.reduceBEq, Nat.reduceLeDiff, Nat.reduceEqDiff, Nat.reduceSub, Nat.reduceAdd, Int.reduceEq, Int.reduceLT, Int.reduceLE, Int.reduceAdd, hg3, hn, hz, hn', Nat.add_zero, hn3, hz3, hx3, bR3, cR3, dR3, eR3, rR, qR, pRS, rS, qS, pSR, d, hwc]
  refine goC_ok (c_take_no (s := s.count) (l := l) (en := en) hlen hf (by first | omega | (simp only [go_sem, Nat.reduceBEq, Nat.reduceLeDiff, Nat.reduceEqDiff, Nat.reduceSub, Nat.reduceAdd, Int.reduceEq, Int.reduceLT, Int.reduceLE, Int.reduceAdd]; omega)) (by first | assumption | simp only [go_sem, Nat.reduceBEq, Nat.reduceLeDiff, Nat.reduceEqDiff, Nat.reduceSub, Nat.reduceAdd, Int.reduceEq, Int.reduceLT, Int.reduceLE, Int.reduceAdd, hg3, hn, hz, hn', Nat.add_zero, hn3, hz3, hx3, bR3, cR3, dR3, eR3, rR, qR, pRS, rS, qS, pSR]) (by decide) (show isT l s.count [105, 102] = false from h3)) ?_
  intro H4 hg4 ha4
  have hl4 := ha4.1
  try simp only [go_sem, Nat.reduceBEq, Nat.reduceLeDiff, Nat.reduceEqDiff, Nat.reduceSub, Nat.reduceAdd, Int.reduceEq, Int.reduceLT, Int.reduceLE, Int.reduceAdd] at hl4
  have hr4 : r < H4.next := by omega
  have hn4 := ne_new hr4
  have hz4 := ne_new0 hr4
  have hx4 := ne_new' hr4
  have bR4 : H4.get (H.next) = some ([.lit (.int .i64 0), .lit (.string (ba [])), .lit (.string (ba [])), .lit (.string (ba [])), .sl .nil [], .sl .nil [], .sl .nil [], .sl .nil []]) := (ha4.get (by first | omega | (simp only [go_sem, Nat.reduceBEq, Nat.reduceLeDiff, Nat.reduceEqDiff, Nat.reduceSub, Nat.reduceAdd, Int.reduceEq, Int.reduceLT, Int.reduceLE, Int.reduceAdd]; omega)) (by omega)).trans (by simp only [go_sem, Nat.reduceBEq, Nat.reduceLeDiff, Nat.reduceEqDiff, Nat.reduceSub, Nat.reduceAdd, Int.reduceEq, Int.reduceLT, Int.reduceLE, Int.reduceAdd, hg3, hn, hz, hn', Nat.add_zero, hn3, hz3, hx3, bR3, cR3, dR3, eR3, rR, qR, pRS, rS, qS, pSR])
  have cR4 : ∀ j, (H4.next + j = H.next) = False := fun j => eq_false (by omega)
  have dR4 : (H4.next = H.next) = False := eq_false (by omega)
  have eR4 : ∀ j, (H.next = H4.next + j) = False := fun j => eq_false (by omega)
  have bS4 : H4.get (H3.next + 13) = some ([.lit (.int .i64 0), .lit (.string (ba [])), .lit (.string (ba [])), .lit (.string (ba [])), .sl .nil [], .sl .nil [], .sl .nil [], .sl .nil []]) := (ha4.get (by first | omega | (simp only [go_sem, Nat.reduceBEq, Nat.reduceLeDiff, Nat.reduceEqDiff, Nat.reduceSub, Nat.reduceAdd, Int.reduceEq, Int.reduceLT, Int.reduceLE, Int.reduceAdd]; omega)) (by omega)).trans (by simp only [go_sem, Nat.reduceBEq, Nat.reduceLeDiff, Nat.reduceEqDiff, Nat.reduceSub, Nat.reduceAdd, Int.reduceEq, Int.reduceLT, Int.reduceLE, Int.reduceAdd, hg3, hn, hz, hn', Nat.add_zero, hn3, hz3, hx3, bR3, cR3, dR3, eR3, rR, qR, pRS, rS, qS, pSR])
  have cS4 : ∀ j, (H4.next + j = H3.next + 13) = False := fun j => eq_false (by omega)
  have dS4 : (H4.next = H3.next + 13) = False := eq_false (by omega)
  have eS4 : ∀ j, (H3.next + 13 = H4.next + j) = False := fun j => eq_false (by omega)
  simp only [go_sem, Nat.reduceBEq, Nat.reduceLeDiff, Nat.reduceEqDiff, Nat.reduceSub, Nat.reduceAdd, Int.reduceEq, Int.reduceLT, Int.reduceLE, Int.reduceAdd, hg4, hn, hz, hn', Nat.add_zero, hn4, hz4, hx4, bR4, cR4, dR4, eR4, rR, qR, pRS, bS4, cS4, dS4, eS4, rS, qS, pSR]
  refine goC_ok (c_take_no (s := s.count) (l := l) (en := en) hlen hf (by first | omega | (simp only [go_sem, Nat.reduceBEq, Nat.reduceLeDiff, Nat.reduceEqDiff, Nat.reduceSub, Nat.reduceAdd, Int.reduceEq, Int.reduceLT, Int.reduceLE, Int.reduceAdd]; omega)) (by first | assumption | simp only [go_sem, Nat.reduceBEq, Nat.reduceLeDiff, Nat.reduceEqDiff, Nat.reduceSub, Nat.reduceAdd, Int.reduceEq, Int.reduceLT, Int.reduceLE, Int.reduceAdd, hg4, hn, hz, hn', Nat.add_zero, hn4, hz4, hx4, bR4, cR4, dR4, eR4, rR, qR, pRS, bS4, cS4, dS4, eS4, rS, qS, pSR]) (by decide) (show isT l s.count [119, 104, 105, 108, 101] = false from h4)) ?_
  intro H5 hg5 ha5
  have hl5 := ha5.1
  try simp only [go_sem, Nat.reduceBEq, Nat.reduceLeDiff, Nat.reduceEqDiff, Nat.reduceSub, Nat.reduceAdd, Int.reduceEq, Int.reduceLT, Int.reduceLE, Int.reduceAdd] at hl5
  have hr5 : r < H5.next := by omega
  have hn5 := ne_new hr5
  have hz5 := ne_new0 hr5
  have hx5 := ne_new' hr5
  have bR5 : H5.get (H.next) = some ([.lit (.int .i64 0), .lit (.string (ba [])), .lit (.string (ba [])), .lit (.string (ba [])), .sl .nil [], .sl .nil [], .sl .nil [], .sl .nil []]) := (ha5.get (by first | omega | (simp only [go_sem, Nat.reduceBEq, Nat.reduceLeDiff, Nat.reduceEqDiff, Nat.reduceSub, Nat.reduceAdd, Int.reduceEq, Int.reduceLT, Int.reduceLE, Int.reduceAdd]; omega)) (by omega)).trans (by simp only [go_sem, Nat.reduceBEq, Nat.reduceLeDiff, Nat.reduceEqDiff, Nat.reduceSub, Nat.reduceAdd, Int.reduceEq, Int.reduceLT, Int.reduceLE, Int.reduceAdd, hg4, hn, hz, hn', Nat.add_zero, hn4, hz4, hx4, bR4, cR4, dR4, eR4, rR, qR, pRS, bS4, cS4, dS4, eS4, rS, qS, pSR])
  have cR5 : ∀ j, (H5.next + j = H.next) = False := fun j => eq_false (by omega)
  have dR5 : (H5.next = H.next) = False := eq_false (by omega)
  have eR5 : ∀ j, (H.next = H5.next + j) = False := fun j => eq_false (by omega)
  have bS5 : H5.get (H3.next + 13) = some ([.lit (.int .i64 0), .lit (.string (ba [])), .lit (.string (ba [])), .lit (.string (ba [])), .sl .nil [], .sl .nil [], .sl .nil [], .sl .nil []]) := (ha5.get (by first | omega | (simp only [go_sem, Nat.reduceBEq, Nat.reduceLeDiff, Nat.reduceEqDiff, Nat.reduceSub, Nat.reduceAdd, Int.reduceEq, Int.reduceLT, Int.reduceLE, Int.reduceAdd]; omega)) (by omega)).trans (by simp only [go_sem, Nat.reduceBEq, Nat.reduceLeDiff, Nat.reduceEqDiff, Nat.reduceSub, Nat.reduceAdd, Int.reduceEq, Int.reduceLT, Int.reduceLE, Int.reduceAdd, hg4, hn, hz, hn', Nat.add_zero, hn4, hz4, hx4, bR4, cR4, dR4, eR4, rR, qR, pRS, bS4, cS4, dS4, eS4, rS, qS, pSR])
  have cS5 : ∀ j, (H5.next + j = H3.next + 13) = False := fun j => eq_false (by omega)
  have dS5 : (H5.next = H3.next + 13) = False := eq_false (by omega)
  have eS5 : ∀ j, (H3.next + 13 = H5.next + j) = False := fun j => eq_false (by omega)
  simp only [go_sem, Nat.reduceBEq, Nat.reduceLeDiff, Nat.reduceEqDiff, Nat.reduceSub, Nat.reduceAdd, Int.reduceEq, Int.reduceLT, Int.reduceLE, Int.reduceAdd, hg5, hn, hz, hn', Nat.add_zero, hn5, hz5, hx5, bR5, cR5, dR5, eR5, rR, qR, pRS, bS5, cS5, dS5, eS5, rS, qS, pSR]
  refine goC_ok (c_take_no (s := s.count) (l := l) (en := en) hlen hf (by first | omega | (simp only [go_sem, Nat.reduceBEq, Nat.reduceLeDiff, Nat.reduceEqDiff, Nat.reduceSub, Nat.reduceAdd, Int.reduceEq, Int.reduceLT, Int.reduceLE, Int.reduceAdd]; omega)) (by first | assumption | simp only [go_sem, Nat.reduceBEq, Nat.reduceLeDiff, Nat.reduceEqDiff, Nat.reduceSub, Nat.reduceAdd, Int.reduceEq, Int.reduceLT, Int.reduceLE, Int.reduceAdd, hg5, hn, hz, hn', Nat.add_zero, hn5, hz5, hx5, bR5, cR5, dR5, eR5, rR, qR, pRS, bS5, cS5, dS5, eS5, rS, qS, pSR]) (by decide) (show isT l s.count [111, 117, 116] = false from h1)) ?_
  intro H6 hg6 ha6
  have hl6 := ha6.1
  try simp only [go_sem, Nat.reduceBEq, Nat.reduceLeDiff, Nat.reduceEqDiff, Nat.reduceSub, Nat.reduceAdd, Int.reduceEq, Int.reduceLT, Int.reduceLE, Int.reduceAdd] at hl6
  have hr6 : r < H6.next := by omega
  have hn6 := ne_new hr6
  have hz6 := ne_new0 hr6
  have hx6 := ne_new' hr6
  have bR6 : H6.get (H.next) = some ([.lit (.int .i64 0), .lit (.string (ba [])), .lit (.string (ba [])), .lit (.string (ba [])), .sl .nil [], .sl .nil [], .sl .nil [], .sl .nil []]) := (ha6.get (by first | omega | (simp only [go_sem, Nat.reduceBEq, Nat.reduceLeDiff, Nat.reduceEqDiff, Nat.reduceSub, Nat.reduceAdd, Int.reduceEq, Int.reduceLT, Int.reduceLE, Int.reduceAdd]; omega)) (by omega)).trans (by simp only [go_sem, Nat.reduceBEq, Nat.reduceLeDiff, Nat.reduceEqDiff, Nat.reduceSub, Nat.reduceAdd, Int.reduceEq, Int.reduceLT, Int.reduceLE, Int.reduceAdd, hg5, hn, hz, hn', Nat.add_zero, hn5, hz5, hx5, bR5, cR5, dR5, eR5, rR, qR, pRS, bS5, cS5, dS5, eS5, rS, qS, pSR])
  have cR6 : ∀ j, (H6.next + j = H.next) = False := fun j => eq_false (by omega)
  have dR6 : (H6.next = H.next) = False := eq_false (by omega)
  have eR6 : ∀ j, (H.next = H6.next + j) = False := fun j => eq_false (by omega)
  have bS6 : H6.get (H3.next + 13) = some ([.lit (.int .i64 0), .lit (.string (ba [])), .lit (.string (ba [])), .lit (.string (ba [])), .sl .nil [], .sl .nil [], .sl .nil [], .sl .nil []]) := (ha6.get (by first | omega | (simp only [go_sem, Nat.reduceBEq, Nat.reduceLeDiff, Nat.reduceEqDiff, Nat.reduceSub, Nat.reduceAdd, Int.reduceEq, Int.reduceLT, Int.reduceLE, Int.reduceAdd]; omega)) (by omega)).trans (by simp only [go_sem, Nat.reduceBEq, Nat.reduceLeDiff, Nat.reduceEqDiff, Nat.reduceSub, Nat.reduceAdd, Int.reduceEq, Int.reduceLT, Int.reduceLE, Int.reduceAdd, hg5, hn, hz, hn', Nat.add_zero, hn5, hz5, hx5, bR5, cR5, dR5, eR5, rR, qR, pRS, bS5, cS5, dS5, eS5, rS, qS, pSR])
  have cS6 : ∀ j, (H6.next + j = H3.next + 13) = False := fun j => eq_false (by omega)
  have dS6 : (H6.next = H3.next + 13) = False := eq_false (by omega)
  have eS6 : ∀ j, (H3.next + 13 = H6.next + j) = False := fun j => eq_false (by omega)
  simp only [go_sem, Nat.reduceBEq, Nat.reduceLeDiff, Nat.reduceEqDiff, Nat.reduceSub, Nat.reduceAdd, Int.reduceEq, Int.reduceLT, Int.reduceLE, Int.reduceAdd, hg6, hn, hz, hn', Nat.add_zero, hn6, hz6, hx6, bR6, cR6, dR6, eR6, rR, qR, pRS, bS6, cS6, dS6, eS6, rS, qS, pSR]
  refine goC_ok (c_take_yes (s := s.count) (l := l) (en := en) hlen hf (by first | omega | (simp only [go_sem, Nat.reduceBEq, Nat.reduceLeDiff, Nat.reduceEqDiff, Nat.reduceSub, Nat.reduceAdd, Int.reduceEq, Int.reduceLT, Int.reduceLE, Int.reduceAdd]; omega)) (by first | assumption | simp only [go_sem, Nat.reduceBEq, Nat.reduceLeDiff, Nat.reduceEqDiff, Nat.reduceSub, Nat.reduceAdd, Int.reduceEq, Int.reduceLT, Int.reduceLE, Int.reduceAdd, hg6, hn, hz, hn', Nat.add_zero, hn6, hz6, hx6, bR6, cR6, dR6, eR6, rR, qR, pRS, bS6, cS6, dS6, eS6, rS, qS, pSR]) (by decide) (show isT l s.count [114, 101, 116, 117, 114, 110] = true from h2)) ?_
  intro H7 hg7 ha7
  have hl7 := ha7.1
  try simp only [go_sem, Nat.reduceBEq, Nat.reduceLeDiff, Nat.reduceEqDiff, Nat.reduceSub, Nat.reduceAdd, Int.reduceEq, Int.reduceLT, Int.reduceLE, Int.reduceAdd] at hl7
  have hr7 : r < H7.next := by omega
  have hn7 := ne_new hr7
  have hz7 := ne_new0 hr7
  have hx7 := ne_new' hr7
  have bR7 : H7.get (H.next) = some ([.lit (.int .i64 0), .lit (.string (ba [])), .lit (.string (ba [])), .lit (.string (ba [])), .sl .nil [], .sl .nil [], .sl .nil [], .sl .nil []]) := (ha7.get (by first | omega | (simp only [go_sem, Nat.reduceBEq, Nat.reduceLeDiff, Nat.reduceEqDiff, Nat.reduceSub, Nat.reduceAdd, Int.reduceEq, Int.reduceLT, Int.reduceLE, Int.reduceAdd]; omega)) (by omega)).trans (by simp only [go_sem, Nat.reduceBEq, Nat.reduceLeDiff, Nat.reduceEqDiff, Nat.reduceSub, Nat.reduceAdd, Int.reduceEq, Int.reduceLT, Int.reduceLE, Int.reduceAdd, hg6, hn, hz, hn', Nat.add_zero, hn6, hz6, hx6, bR6, cR6, dR6, eR6, rR, qR, pRS, bS6, cS6, dS6, eS6, rS, qS, pSR])
  have cR7 : ∀ j, (H7.next + j = H.next) = False := fun j => eq_false (by omega)
  have dR7 : (H7.next = H.next) = False := eq_false (by omega)
  have eR7 : ∀ j, (H.next = H7.next + j) = False := fun j => eq_false (by omega)
  have bS7 : H7.get (H3.next + 13) = some ([.lit (.int .i64 0), .lit (.string (ba [])), .lit (.string (ba [])), .lit (.string (ba [])), .sl .nil [], .sl .nil [], .sl .nil [], .sl .nil []]) := (ha7.get (by first | omega | (simp only [go_sem, Nat.reduceBEq, Nat.reduceLeDiff, Nat.reduceEqDiff, Nat.reduceSub, Nat.reduceAdd, Int.reduceEq, Int.reduceLT, Int.reduceLE, Int.reduceAdd]; omega)) (by omega)).trans (by simp only [go_sem, Nat.reduceBEq, Nat.reduceLeDiff, Nat.reduceEqDiff, Nat.reduceSub, Nat.reduceAdd, Int.reduceEq, Int.reduceLT, Int.reduceLE, Int.reduceAdd, hg6, hn, hz, hn', Nat.add_zero, hn6, hz6, hx6, bR6, cR6, dR6, eR6, rR, qR, pRS, bS6, cS6, dS6, eS6, rS, qS, pSR])
  have cS7 : ∀ j, (H7.next + j = H3.next + 13) = False := fun j => eq_false (by omega)
  have dS7 : (H7.next = H3.next + 13) = False := eq_false (by omega)
  have eS7 : ∀ j, (H3.next + 13 = H7.next + j) = False := fun j => eq_false (by omega)
  simp only [go_sem, Nat.reduceBEq, Nat.reduceLeDiff, Nat.reduceEqDiff, Nat.reduceSub, Nat.reduceAdd, Int.reduceEq, Int.reduceLT, Int.reduceLE, Int.reduceAdd, hg7, hn, hz, hn', Nat.add_zero, hn7, hz7, hx7, bR7, cR7, dR7, eR7, rR, qR, pRS, bS7, cS7, dS7, eS7, rS, qS, pSR]
  have hsim : simple l en s.count = ((operand l en s.count.adv).1, .mk 11 [] [] [] [(operand l en s.count.adv).2] [] [] []) := by simp only [simple, tOut, tReturn, show isT l s.count [111, 117, 116] = false from h1, show isT l s.count [114, 101, 116, 117, 114, 110] = true from h2]
  simp only [semi, hsim] at hq
  cases hq
  refine goC_out (c_operand (s := s.count.adv) (l := l) (en := en) hlen hf (by first | omega | (simp only [go_sem, Nat.reduceBEq, Nat.reduceLeDiff, Nat.reduceEqDiff, Nat.reduceSub, Nat.reduceAdd, Int.reduceEq, Int.reduceLT, Int.reduceLE, Int.reduceAdd]; omega)) (by first | assumption | simp only [go_sem, Nat.reduceBEq, Nat.reduceLeDiff, Nat.reduceEqDiff, Nat.reduceSub, Nat.reduceAdd, Int.reduceEq, Int.reduceLT, Int.reduceLE, Int.reduceAdd, hg7, hn, hz, hn', Nat.add_zero, hn7, hz7, hx7, bR7, cR7, dR7, eR7, rR, qR, pRS, bS7, cS7, dS7, eS7, rS, qS, pSR])) ?_ ?_
  case refine_2 =>
    intro q9 hq9 H9 had
    rw [outP_some (show (need l en (operand l en s.count.adv).1 [59]).f = some q9 by rw [need_bad' (ok_some hq9)]; exact hq9)]
    simp only [go_sem, Nat.reduceBEq, Nat.reduceLeDiff, Nat.reduceEqDiff, Nat.reduceSub, Nat.reduceAdd, Int.reduceEq, Int.reduceLT, Int.reduceLE, Int.reduceAdd, san_trouble]
    (repeat first | exact Adv.refl _ _ | assumption | refine Adv.trans ?_ had | refine Adv.trans ?_ ha1 | refine Adv.trans ?_ ha2 | refine Adv.trans ?_ ha3 | refine Adv.trans ?_ ha4 | refine Adv.trans ?_ ha5 | refine Adv.trans ?_ ha6 | refine Adv.trans ?_ ha7 | refine Adv.trans ?_ ha8 | refine Adv.trans ?_ ha9 | refine Adv.trans ?_ ha10 | refine Adv.trans ?_ ha11 | refine Adv.trans ?_ ha12 | apply Adv.up | apply Adv.put | refine Adv.new ?_ (by omega) _ | refine Adv.live ?_ (by omega) _ | refine Adv.owns ?_ (by omega) (by first | exact OwnB.lo ‹_› | exact fun _ _ _ h => by cases h))
  intro hf8 H8 hg8 ha8
  have hl8 := ha8.1
  try simp only [go_sem, Nat.reduceBEq, Nat.reduceLeDiff, Nat.reduceEqDiff, Nat.reduceSub, Nat.reduceAdd, Int.reduceEq, Int.reduceLT, Int.reduceLE, Int.reduceAdd] at hl8
  have hr8 : r < H8.next := by omega
  have hn8 := ne_new hr8
  have hz8 := ne_new0 hr8
  have hx8 := ne_new' hr8
  have bR8 : H8.get (H.next) = some ([.lit (.int .i64 0), .lit (.string (ba [])), .lit (.string (ba [])), .lit (.string (ba [])), .sl .nil [], .sl .nil [], .sl .nil [], .sl .nil []]) := (ha8.get (by first | omega | (simp only [go_sem, Nat.reduceBEq, Nat.reduceLeDiff, Nat.reduceEqDiff, Nat.reduceSub, Nat.reduceAdd, Int.reduceEq, Int.reduceLT, Int.reduceLE, Int.reduceAdd]; omega)) (by omega)).trans (by simp only [go_sem, Nat.reduceBEq, Nat.reduceLeDiff, Nat.reduceEqDiff, Nat.reduceSub, Nat.reduceAdd, Int.reduceEq, Int.reduceLT, Int.reduceLE, Int.reduceAdd, hg7, hn, hz, hn', Nat.add_zero, hn7, hz7, hx7, bR7, cR7, dR7, eR7, rR, qR, pRS, bS7, cS7, dS7, eS7, rS, qS, pSR])
  have cR8 : ∀ j, (H8.next + j = H.next) = False := fun j => eq_false (by omega)
  have dR8 : (H8.next = H.next) = False := eq_false (by omega)
  have eR8 : ∀ j, (H.next = H8.next + j) = False := fun j => eq_false (by omega)
  have bS8 : H8.get (H3.next + 13) = some ([.lit (.int .i64 0), .lit (.string (ba [])), .lit (.string (ba [])), .lit (.string (ba [])), .sl .nil [], .sl .nil [], .sl .nil [], .sl .nil []]) := (ha8.get (by first | omega | (simp only [go_sem, Nat.reduceBEq, Nat.reduceLeDiff, Nat.reduceEqDiff, Nat.reduceSub, Nat.reduceAdd, Int.reduceEq, Int.reduceLT, Int.reduceLE, Int.reduceAdd]; omega)) (by omega)).trans (by simp only [go_sem, Nat.reduceBEq, Nat.reduceLeDiff, Nat.reduceEqDiff, Nat.reduceSub, Nat.reduceAdd, Int.reduceEq, Int.reduceLT, Int.reduceLE, Int.reduceAdd, hg7, hn, hz, hn', Nat.add_zero, hn7, hz7, hx7, bR7, cR7, dR7, eR7, rR, qR, pRS, bS7, cS7, dS7, eS7, rS, qS, pSR])
  have cS8 : ∀ j, (H8.next + j = H3.next + 13) = False := fun j => eq_false (by omega)
  have dS8 : (H8.next = H3.next + 13) = False := eq_false (by omega)
  have eS8 : ∀ j, (H3.next + 13 = H8.next + j) = False := fun j => eq_false (by omega)
  simp only [go_sem, Nat.reduceBEq, Nat.reduceLeDiff, Nat.reduceEqDiff, Nat.reduceSub, Nat.reduceAdd, Int.reduceEq, Int.reduceLT, Int.reduceLE, Int.reduceAdd, hg8, hn, hz, hn', Nat.add_zero, hn8, hz8, hx8, bR8, cR8, dR8, eR8, rR, qR, pRS, bS8, cS8, dS8, eS8, rS, qS, pSR]
  refine goC_out (c_need (s := (operand l en s.count.adv).1) (l := l) (en := en) hlen hf8 (by first | omega | (simp only [go_sem, Nat.reduceBEq, Nat.reduceLeDiff, Nat.reduceEqDiff, Nat.reduceSub, Nat.reduceAdd, Int.reduceEq, Int.reduceLT, Int.reduceLE, Int.reduceAdd]; omega)) (by first | assumption | simp only [go_sem, Nat.reduceBEq, Nat.reduceLeDiff, Nat.reduceEqDiff, Nat.reduceSub, Nat.reduceAdd, Int.reduceEq, Int.reduceLT, Int.reduceLE, Int.reduceAdd, hg8, hn, hz, hn', Nat.add_zero, hn8, hz8, hx8, bR8, cR8, dR8, eR8, rR, qR, pRS, bS8, cS8, dS8, eS8, rS, qS, pSR]) [59] (by decide)) ?_ ?_
  case refine_2 =>
    intro q9 hq9 H9 had
    rw [outP_some (show (need l en (operand l en s.count.adv).1 [59]).f = some q9 by exact hq9)]
    simp only [go_sem, Nat.reduceBEq, Nat.reduceLeDiff, Nat.reduceEqDiff, Nat.reduceSub, Nat.reduceAdd, Int.reduceEq, Int.reduceLT, Int.reduceLE, Int.reduceAdd, san_trouble]
    (repeat first | exact Adv.refl _ _ | assumption | refine Adv.trans ?_ had | refine Adv.trans ?_ ha1 | refine Adv.trans ?_ ha2 | refine Adv.trans ?_ ha3 | refine Adv.trans ?_ ha4 | refine Adv.trans ?_ ha5 | refine Adv.trans ?_ ha6 | refine Adv.trans ?_ ha7 | refine Adv.trans ?_ ha8 | refine Adv.trans ?_ ha9 | refine Adv.trans ?_ ha10 | refine Adv.trans ?_ ha11 | refine Adv.trans ?_ ha12 | apply Adv.up | apply Adv.put | refine Adv.new ?_ (by omega) _ | refine Adv.live ?_ (by omega) _ | refine Adv.owns ?_ (by omega) (by first | exact OwnB.lo ‹_› | exact fun _ _ _ h => by cases h))
  intro hf9 H9 hg9 ha9
  have hl9 := ha9.1
  try simp only [go_sem, Nat.reduceBEq, Nat.reduceLeDiff, Nat.reduceEqDiff, Nat.reduceSub, Nat.reduceAdd, Int.reduceEq, Int.reduceLT, Int.reduceLE, Int.reduceAdd] at hl9
  have hr9 : r < H9.next := by omega
  have hn9 := ne_new hr9
  have hz9 := ne_new0 hr9
  have hx9 := ne_new' hr9
  have bR9 : H9.get (H.next) = some ([.lit (.int .i64 0), .lit (.string (ba [])), .lit (.string (ba [])), .lit (.string (ba [])), .sl .nil [], .sl .nil [], .sl .nil [], .sl .nil []]) := (ha9.get (by first | omega | (simp only [go_sem, Nat.reduceBEq, Nat.reduceLeDiff, Nat.reduceEqDiff, Nat.reduceSub, Nat.reduceAdd, Int.reduceEq, Int.reduceLT, Int.reduceLE, Int.reduceAdd]; omega)) (by omega)).trans (by simp only [go_sem, Nat.reduceBEq, Nat.reduceLeDiff, Nat.reduceEqDiff, Nat.reduceSub, Nat.reduceAdd, Int.reduceEq, Int.reduceLT, Int.reduceLE, Int.reduceAdd, hg8, hn, hz, hn', Nat.add_zero, hn8, hz8, hx8, bR8, cR8, dR8, eR8, rR, qR, pRS, bS8, cS8, dS8, eS8, rS, qS, pSR])
  have cR9 : ∀ j, (H9.next + j = H.next) = False := fun j => eq_false (by omega)
  have dR9 : (H9.next = H.next) = False := eq_false (by omega)
  have eR9 : ∀ j, (H.next = H9.next + j) = False := fun j => eq_false (by omega)
  have bS9 : H9.get (H3.next + 13) = some ([.lit (.int .i64 11), .lit (.string (ba [])), .lit (.string (ba [])), .lit (.string (ba [])), .sl .ex [encOpd (operand l en s.count.adv).2], .sl .nil [], .sl .nil [], .sl .nil []]) := (ha9.get (by first | omega | (simp only [go_sem, Nat.reduceBEq, Nat.reduceLeDiff, Nat.reduceEqDiff, Nat.reduceSub, Nat.reduceAdd, Int.reduceEq, Int.reduceLT, Int.reduceLE, Int.reduceAdd]; omega)) (by omega)).trans (by simp only [go_sem, Nat.reduceBEq, Nat.reduceLeDiff, Nat.reduceEqDiff, Nat.reduceSub, Nat.reduceAdd, Int.reduceEq, Int.reduceLT, Int.reduceLE, Int.reduceAdd, hg8, hn, hz, hn', Nat.add_zero, hn8, hz8, hx8, bR8, cR8, dR8, eR8, rR, qR, pRS, bS8, cS8, dS8, eS8, rS, qS, pSR])
  have cS9 : ∀ j, (H9.next + j = H3.next + 13) = False := fun j => eq_false (by omega)
  have dS9 : (H9.next = H3.next + 13) = False := eq_false (by omega)
  have eS9 : ∀ j, (H3.next + 13 = H9.next + j) = False := fun j => eq_false (by omega)
  rw [outP_none hf9]
  simp only [go_sem, Nat.reduceBEq, Nat.reduceLeDiff, Nat.reduceEqDiff, Nat.reduceSub, Nat.reduceAdd, Int.reduceEq, Int.reduceLT, Int.reduceLE, Int.reduceAdd, hg9, hn, hz, hn', Nat.add_zero, hn9, hz9, hx9, bR9, cR9, dR9, eR9, rR, qR, pRS, bS9, cS9, dS9, eS9, rS, qS, pSR, rs, eM, List.map_cons, List.map_nil]
  (repeat first | exact Adv.refl _ _ | assumption | refine Adv.trans ?_ had | refine Adv.trans ?_ ha1 | refine Adv.trans ?_ ha2 | refine Adv.trans ?_ ha3 | refine Adv.trans ?_ ha4 | refine Adv.trans ?_ ha5 | refine Adv.trans ?_ ha6 | refine Adv.trans ?_ ha7 | refine Adv.trans ?_ ha8 | refine Adv.trans ?_ ha9 | refine Adv.trans ?_ ha10 | refine Adv.trans ?_ ha11 | refine Adv.trans ?_ ha12 | apply Adv.up | apply Adv.put | refine Adv.new ?_ (by omega) _ | refine Adv.live ?_ (by omega) _ | refine Adv.owns ?_ (by omega) (by first | exact OwnB.lo ‹_› | exact fun _ _ _ h => by cases h))
set_option maxRecDepth 20000 in
theorem c_stmt3 (hlen : l.length ≤ LM) (n : Nat) (ihb : PBlockOk l en n) (deep : Nat) (hn : 3 * rem l s + 1 ≤ n + 1) (hdeep : deep ≤ 33) (h0 : isName l s = false) (h1 : isT l s [111, 117, 116] = false) (h2 : isT l s [114, 101, 116, 117, 114, 110] = false) (h3 : isT l s [105, 102] = true) (h4 : isT l s [119, 104, 105, 108, 101] = false) (hf : s.f = none) (hr : r < H.next) (hg : H.get r = some (cP l en s)) :
    PCall Tryz.prog cfg r 104 [.ptr r 0, .lit (.int .i64 (deep : Nat))] H (outP l en (stmtF l en (n + 1) s deep).1 (.agg (encStmt (stmtF l en (n + 1) s deep).2))) := by
  obtain ⟨q1, q2, hq⟩ : ∃ q1 q2, stmtF l en (n + 1) s deep = (q1, q2) := ⟨_, _, rfl⟩
  rw [hq]
  show PCall _ _ _ _ _ _ (outP l en q1 (.agg (encStmt q2)))
  refine PCall_of' (fn := Tryz.f104) rfl rfl rfl rfl rfl ?_
  have rs : Tryz.f104.results.toList = [.cell 4 40] := rfl
  have eM := encStmt_mk
  have hn := ne_new hr
  have hz := ne_new0 hr
  have hn' := ne_new' hr
  unfold stmtF at hq
  have hst : starts l s = true := by simp only [starts, tOut, tReturn, tIf, tWhile, h0, h1, h2, h3, h4, Bool.or_true, Bool.true_or]
  rw [hst] at hq
  simp only [tIf, tWhile, h3, h4] at hq
  simp only [go_sem, Nat.reduceBEq, Nat.reduceLeDiff, Nat.reduceEqDiff, Nat.reduceSub, Nat.reduceAdd, Int.reduceEq, Int.reduceLT, Int.reduceLE, Int.reduceAdd]
  have rR : (H.next = r) = False := eq_false (by omega)
  have qR : (r = H.next) = False := eq_false (by omega)
  refine goC_ok (c_isName (s := s) (l := l) (en := en) hlen hf (by first | omega | (simp only [go_sem, Nat.reduceBEq, Nat.reduceLeDiff, Nat.reduceEqDiff, Nat.reduceSub, Nat.reduceAdd, Int.reduceEq, Int.reduceLT, Int.reduceLE, Int.reduceAdd]; omega)) (by first | assumption | simp only [go_sem, Nat.reduceBEq, Nat.reduceLeDiff, Nat.reduceEqDiff, Nat.reduceSub, Nat.reduceAdd, Int.reduceEq, Int.reduceLT, Int.reduceLE, Int.reduceAdd, hg, hn, hz, hn', Nat.add_zero, rR, qR])) ?_
  intro H1 hg1 ha1
  have hl1 := ha1.1
  try simp only [go_sem, Nat.reduceBEq, Nat.reduceLeDiff, Nat.reduceEqDiff, Nat.reduceSub, Nat.reduceAdd, Int.reduceEq, Int.reduceLT, Int.reduceLE, Int.reduceAdd] at hl1
  have hr1 : r < H1.next := by omega
  have hn1 := ne_new hr1
  have hz1 := ne_new0 hr1
  have hx1 := ne_new' hr1
  have bR1 : H1.get (H.next) = some ([.lit (.int .i64 0), .lit (.string (ba [])), .lit (.string (ba [])), .lit (.string (ba [])), .sl .nil [], .sl .nil [], .sl .nil [], .sl .nil []]) := (ha1.get (by first | omega | (simp only [go_sem, Nat.reduceBEq, Nat.reduceLeDiff, Nat.reduceEqDiff, Nat.reduceSub, Nat.reduceAdd, Int.reduceEq, Int.reduceLT, Int.reduceLE, Int.reduceAdd]; omega)) (by omega)).trans (by simp only [go_sem, Nat.reduceBEq, Nat.reduceLeDiff, Nat.reduceEqDiff, Nat.reduceSub, Nat.reduceAdd, Int.reduceEq, Int.reduceLT, Int.reduceLE, Int.reduceAdd, hg, hn, hz, hn', Nat.add_zero, rR, qR])
  have cR1 : ∀ j, (H1.next + j = H.next) = False := fun j => eq_false (by omega)
  have dR1 : (H1.next = H.next) = False := eq_false (by omega)
  have eR1 : ∀ j, (H.next = H1.next + j) = False := fun j => eq_false (by omega)
  simp only [go_sem, Nat.reduceBEq, Nat.reduceLeDiff, Nat.reduceEqDiff, Nat.reduceSub, Nat.reduceAdd, Int.reduceEq, Int.reduceLT, Int.reduceLE, Int.reduceAdd, hg1, hn, hz, hn', Nat.add_zero, hn1, hz1, hx1, bR1, cR1, dR1, eR1, rR, qR, h0]
  refine goC_ok (c_is (s := s) (l := l) (en := en) hlen hf (by first | omega | (simp only [go_sem, Nat.reduceBEq, Nat.reduceLeDiff, Nat.reduceEqDiff, Nat.reduceSub, Nat.reduceAdd, Int.reduceEq, Int.reduceLT, Int.reduceLE, Int.reduceAdd]; omega)) (by first | assumption | simp only [go_sem, Nat.reduceBEq, Nat.reduceLeDiff, Nat.reduceEqDiff, Nat.reduceSub, Nat.reduceAdd, Int.reduceEq, Int.reduceLT, Int.reduceLE, Int.reduceAdd, hg1, hn, hz, hn', Nat.add_zero, hn1, hz1, hx1, bR1, cR1, dR1, eR1, rR, qR]) [111, 117, 116] (by decide)) ?_
  intro H2 hg2 ha2
  have hl2 := ha2.1
  try simp only [go_sem, Nat.reduceBEq, Nat.reduceLeDiff, Nat.reduceEqDiff, Nat.reduceSub, Nat.reduceAdd, Int.reduceEq, Int.reduceLT, Int.reduceLE, Int.reduceAdd] at hl2
  have hr2 : r < H2.next := by omega
  have hn2 := ne_new hr2
  have hz2 := ne_new0 hr2
  have hx2 := ne_new' hr2
  have bR2 : H2.get (H.next) = some ([.lit (.int .i64 0), .lit (.string (ba [])), .lit (.string (ba [])), .lit (.string (ba [])), .sl .nil [], .sl .nil [], .sl .nil [], .sl .nil []]) := (ha2.get (by first | omega | (simp only [go_sem, Nat.reduceBEq, Nat.reduceLeDiff, Nat.reduceEqDiff, Nat.reduceSub, Nat.reduceAdd, Int.reduceEq, Int.reduceLT, Int.reduceLE, Int.reduceAdd]; omega)) (by omega)).trans (by simp only [go_sem, Nat.reduceBEq, Nat.reduceLeDiff, Nat.reduceEqDiff, Nat.reduceSub, Nat.reduceAdd, Int.reduceEq, Int.reduceLT, Int.reduceLE, Int.reduceAdd, hg1, hn, hz, hn', Nat.add_zero, hn1, hz1, hx1, bR1, cR1, dR1, eR1, rR, qR])
  have cR2 : ∀ j, (H2.next + j = H.next) = False := fun j => eq_false (by omega)
  have dR2 : (H2.next = H.next) = False := eq_false (by omega)
  have eR2 : ∀ j, (H.next = H2.next + j) = False := fun j => eq_false (by omega)
  simp only [go_sem, Nat.reduceBEq, Nat.reduceLeDiff, Nat.reduceEqDiff, Nat.reduceSub, Nat.reduceAdd, Int.reduceEq, Int.reduceLT, Int.reduceLE, Int.reduceAdd, hg2, hn, hz, hn', Nat.add_zero, hn2, hz2, hx2, bR2, cR2, dR2, eR2, rR, qR, h1]
  refine goC_ok (c_is (s := s) (l := l) (en := en) hlen hf (by first | omega | (simp only [go_sem, Nat.reduceBEq, Nat.reduceLeDiff, Nat.reduceEqDiff, Nat.reduceSub, Nat.reduceAdd, Int.reduceEq, Int.reduceLT, Int.reduceLE, Int.reduceAdd]; omega)) (by first | assumption | simp only [go_sem, Nat.reduceBEq, Nat.reduceLeDiff, Nat.reduceEqDiff, Nat.reduceSub, Nat.reduceAdd, Int.reduceEq, Int.reduceLT, Int.reduceLE, Int.reduceAdd, hg2, hn, hz, hn', Nat.add_zero, hn2, hz2, hx2, bR2, cR2, dR2, eR2, rR, qR]) [114, 101, 116, 117, 114, 110] (by decide)) ?_
  intro H3 hg3 ha3
  have hl3 := ha3.1
  try simp only [go_sem, Nat.reduceBEq, Nat.reduceLeDiff, Nat.reduceEqDiff, Nat.reduceSub, Nat.reduceAdd, Int.reduceEq, Int.reduceLT, Int.reduceLE, Int.reduceAdd] at hl3
  have hr3 : r < H3.next := by omega
  have hn3 := ne_new hr3
  have hz3 := ne_new0 hr3
  have hx3 := ne_new' hr3
  have bR3 : H3.get (H.next) = some ([.lit (.int .i64 0), .lit (.string (ba [])), .lit (.string (ba [])), .lit (.string (ba [])), .sl .nil [], .sl .nil [], .sl .nil [], .sl .nil []]) := (ha3.get (by first | omega | (simp only [go_sem, Nat.reduceBEq, Nat.reduceLeDiff, Nat.reduceEqDiff, Nat.reduceSub, Nat.reduceAdd, Int.reduceEq, Int.reduceLT, Int.reduceLE, Int.reduceAdd]; omega)) (by omega)).trans (by simp only [go_sem, Nat.reduceBEq, Nat.reduceLeDiff, Nat.reduceEqDiff, Nat.reduceSub, Nat.reduceAdd, Int.reduceEq, Int.reduceLT, Int.reduceLE, Int.reduceAdd, hg2, hn, hz, hn', Nat.add_zero, hn2, hz2, hx2, bR2, cR2, dR2, eR2, rR, qR])
  have cR3 : ∀ j, (H3.next + j = H.next) = False := fun j => eq_false (by omega)
  have dR3 : (H3.next = H.next) = False := eq_false (by omega)
  have eR3 : ∀ j, (H.next = H3.next + j) = False := fun j => eq_false (by omega)
  simp only [go_sem, Nat.reduceBEq, Nat.reduceLeDiff, Nat.reduceEqDiff, Nat.reduceSub, Nat.reduceAdd, Int.reduceEq, Int.reduceLT, Int.reduceLE, Int.reduceAdd, hg3, hn, hz, hn', Nat.add_zero, hn3, hz3, hx3, bR3, cR3, dR3, eR3, rR, qR, h2]
  refine goC_ok (c_is (s := s) (l := l) (en := en) hlen hf (by first | omega | (simp only [go_sem, Nat.reduceBEq, Nat.reduceLeDiff, Nat.reduceEqDiff, Nat.reduceSub, Nat.reduceAdd, Int.reduceEq, Int.reduceLT, Int.reduceLE, Int.reduceAdd]; omega)) (by first | assumption | simp only [go_sem, Nat.reduceBEq, Nat.reduceLeDiff, Nat.reduceEqDiff, Nat.reduceSub, Nat.reduceAdd, Int.reduceEq, Int.reduceLT, Int.reduceLE, Int.reduceAdd, hg3, hn, hz, hn', Nat.add_zero, hn3, hz3, hx3, bR3, cR3, dR3, eR3, rR, qR]) [105, 102] (by decide)) ?_
  intro H4 hg4 ha4
  have hl4 := ha4.1
  try simp only [go_sem, Nat.reduceBEq, Nat.reduceLeDiff, Nat.reduceEqDiff, Nat.reduceSub, Nat.reduceAdd, Int.reduceEq, Int.reduceLT, Int.reduceLE, Int.reduceAdd] at hl4
  have hr4 : r < H4.next := by omega
  have hn4 := ne_new hr4
  have hz4 := ne_new0 hr4
  have hx4 := ne_new' hr4
  have bR4 : H4.get (H.next) = some ([.lit (.int .i64 0), .lit (.string (ba [])), .lit (.string (ba [])), .lit (.string (ba [])), .sl .nil [], .sl .nil [], .sl .nil [], .sl .nil []]) := (ha4.get (by first | omega | (simp only [go_sem, Nat.reduceBEq, Nat.reduceLeDiff, Nat.reduceEqDiff, Nat.reduceSub, Nat.reduceAdd, Int.reduceEq, Int.reduceLT, Int.reduceLE, Int.reduceAdd]; omega)) (by omega)).trans (by simp only [go_sem, Nat.reduceBEq, Nat.reduceLeDiff, Nat.reduceEqDiff, Nat.reduceSub, Nat.reduceAdd, Int.reduceEq, Int.reduceLT, Int.reduceLE, Int.reduceAdd, hg3, hn, hz, hn', Nat.add_zero, hn3, hz3, hx3, bR3, cR3, dR3, eR3, rR, qR])
  have cR4 : ∀ j, (H4.next + j = H.next) = False := fun j => eq_false (by omega)
  have dR4 : (H4.next = H.next) = False := eq_false (by omega)
  have eR4 : ∀ j, (H.next = H4.next + j) = False := fun j => eq_false (by omega)
  simp only [go_sem, Nat.reduceBEq, Nat.reduceLeDiff, Nat.reduceEqDiff, Nat.reduceSub, Nat.reduceAdd, Int.reduceEq, Int.reduceLT, Int.reduceLE, Int.reduceAdd, hg4, hn, hz, hn', Nat.add_zero, hn4, hz4, hx4, bR4, cR4, dR4, eR4, rR, qR, h3]
  by_cases hc : 2000 ≤ s.cnt
  · have d : decide (2000 ≤ ((s.cnt : Nat) : Int)) = true := by simp; omega
    have d' : decide (2000 ≤ s.cnt) = true := by simp [hc]
    rw [d'] at hq
    cases hq
    rw [outP_fail hf]
    simp only [go_sem, Nat.reduceBEq, Nat.reduceLeDiff, Nat.reduceEqDiff, Nat.reduceSub, Nat.reduceAdd, Int.reduceEq, Int.reduceLT, Int.reduceLE, Int.reduceAdd, hg4, hn, hz, hn', Nat.add_zero, hn4, hz4, hx4, bR4, cR4, dR4, eR4, rR, qR, d]
    refine goC_bad (c_fail (s := s) (l := l) (en := en) (by first | omega | (simp only [go_sem, Nat.reduceBEq, Nat.reduceLeDiff, Nat.reduceEqDiff, Nat.reduceSub, Nat.reduceAdd, Int.reduceEq, Int.reduceLT, Int.reduceLE, Int.reduceAdd]; omega)) (by first | assumption | simp only [go_sem, Nat.reduceBEq, Nat.reduceLeDiff, Nat.reduceEqDiff, Nat.reduceSub, Nat.reduceAdd, Int.reduceEq, Int.reduceLT, Int.reduceLE, Int.reduceAdd, hg4, hn, hz, hn', Nat.add_zero, hn4, hz4, hx4, bR4, cR4, dR4, eR4, rR, qR]) 2 rfl) ?_
    intro H9 had
    simp only [go_sem, Nat.reduceBEq, Nat.reduceLeDiff, Nat.reduceEqDiff, Nat.reduceSub, Nat.reduceAdd, Int.reduceEq, Int.reduceLT, Int.reduceLE, Int.reduceAdd, hg4, hn, hz, hn', Nat.add_zero, hn4, hz4, hx4, bR4, cR4, dR4, eR4, rR, qR, san_trouble]
    (repeat first | exact Adv.refl _ _ | assumption | refine Adv.trans ?_ had | refine Adv.trans ?_ ha1 | refine Adv.trans ?_ ha2 | refine Adv.trans ?_ ha3 | refine Adv.trans ?_ ha4 | refine Adv.trans ?_ ha5 | refine Adv.trans ?_ ha6 | refine Adv.trans ?_ ha7 | refine Adv.trans ?_ ha8 | refine Adv.trans ?_ ha9 | refine Adv.trans ?_ ha10 | refine Adv.trans ?_ ha11 | refine Adv.trans ?_ ha12 | apply Adv.up | apply Adv.put | refine Adv.new ?_ (by omega) _ | refine Adv.live ?_ (by omega) _ | refine Adv.owns ?_ (by omega) (by first | exact OwnB.lo ‹_› | exact fun _ _ _ h => by cases h))
  have d : decide (2000 ≤ ((s.cnt : Nat) : Int)) = false := by simp; omega
  have d' : decide (2000 ≤ s.cnt) = false := by simp; omega
  rw [d'] at hq
  simp only at hq
  have hwc := wrap1 (show s.cnt + 1 ≤ 9223372036854775807 by omega)
  have pSR : (H4.next + 13 = H.next) = False := eq_false (by omega)
  have pRS : (H.next = H4.next + 13) = False := eq_false (by omega)
  have rS : (H4.next + 13 = r) = False := eq_false (by omega)
  have qS : (r = H4.next + 13) = False := eq_false (by omega)
  simp only [go_sem, Nat.reduceBEq, Nat.reduceLeDiff, Nat.reduceEqDiff, Nat.reduceSub, Nat.reduceAdd, Int.reduceEq, Int.reduceLT, Int.reduceLE, Int.reduceAdd, hg4, hn, hz, hn', Nat.add_zero, hn4, hz4, hx4, bR4, cR4, dR4, eR4, rR, qR, pRS, rS, qS, pSR, d, hwc]
  refine goC_ok (c_take_yes (s := s.count) (l := l) (en := en) hlen hf (by first | omega | (simp only [go_sem, Nat.reduceBEq, Nat.reduceLeDiff, Nat.reduceEqDiff, Nat.reduceSub, Nat.reduceAdd, Int.reduceEq, Int.reduceLT, Int.reduceLE, Int.reduceAdd]; omega)) (by first | assumption | simp only [go_sem, Nat.reduceBEq, Nat.reduceLeDiff, Nat.reduceEqDiff, Nat.reduceSub, Nat.reduceAdd, Int.reduceEq, Int.reduceLT, Int.reduceLE, Int.reduceAdd, hg4, hn, hz, hn', Nat.add_zero, hn4, hz4, hx4, bR4, cR4, dR4, eR4, rR, qR, pRS, rS, qS, pSR]) (by decide) (show isT l s.count [105, 102] = true from h3)) ?_
  intro H5 hg5 ha5
  have hl5 := ha5.1
  try simp only [go_sem, Nat.reduceBEq, Nat.reduceLeDiff, Nat.reduceEqDiff, Nat.reduceSub, Nat.reduceAdd, Int.reduceEq, Int.reduceLT, Int.reduceLE, Int.reduceAdd] at hl5
  have hr5 : r < H5.next := by omega
  have hn5 := ne_new hr5
  have hz5 := ne_new0 hr5
  have hx5 := ne_new' hr5
  have bR5 : H5.get (H.next) = some ([.lit (.int .i64 0), .lit (.string (ba [])), .lit (.string (ba [])), .lit (.string (ba [])), .sl .nil [], .sl .nil [], .sl .nil [], .sl .nil []]) := (ha5.get (by first | omega | (simp only [go_sem, Nat.reduceBEq, Nat.reduceLeDiff, Nat.reduceEqDiff, Nat.reduceSub, Nat.reduceAdd, Int.reduceEq, Int.reduceLT, Int.reduceLE, Int.reduceAdd]; omega)) (by omega)).trans (by simp only [go_sem, Nat.reduceBEq, Nat.reduceLeDiff, Nat.reduceEqDiff, Nat.reduceSub, Nat.reduceAdd, Int.reduceEq, Int.reduceLT, Int.reduceLE, Int.reduceAdd, hg4, hn, hz, hn', Nat.add_zero, hn4, hz4, hx4, bR4, cR4, dR4, eR4, rR, qR, pRS, rS, qS, pSR])
  have cR5 : ∀ j, (H5.next + j = H.next) = False := fun j => eq_false (by omega)
  have dR5 : (H5.next = H.next) = False := eq_false (by omega)
  have eR5 : ∀ j, (H.next = H5.next + j) = False := fun j => eq_false (by omega)
  have bS5 : H5.get (H4.next + 13) = some ([.lit (.int .i64 0), .lit (.string (ba [])), .lit (.string (ba [])), .lit (.string (ba [])), .sl .nil [], .sl .nil [], .sl .nil [], .sl .nil []]) := (ha5.get (by first | omega | (simp only [go_sem, Nat.reduceBEq, Nat.reduceLeDiff, Nat.reduceEqDiff, Nat.reduceSub, Nat.reduceAdd, Int.reduceEq, Int.reduceLT, Int.reduceLE, Int.reduceAdd]; omega)) (by omega)).trans (by simp only [go_sem, Nat.reduceBEq, Nat.reduceLeDiff, Nat.reduceEqDiff, Nat.reduceSub, Nat.reduceAdd, Int.reduceEq, Int.reduceLT, Int.reduceLE, Int.reduceAdd, hg4, hn, hz, hn', Nat.add_zero, hn4, hz4, hx4, bR4, cR4, dR4, eR4, rR, qR, pRS, rS, qS, pSR])
  have cS5 : ∀ j, (H5.next + j = H4.next + 13) = False := fun j => eq_false (by omega)
  have dS5 : (H5.next = H4.next + 13) = False := eq_false (by omega)
  have eS5 : ∀ j, (H4.next + 13 = H5.next + j) = False := fun j => eq_false (by omega)
  simp only [go_sem, Nat.reduceBEq, Nat.reduceLeDiff, Nat.reduceEqDiff, Nat.reduceSub, Nat.reduceAdd, Int.reduceEq, Int.reduceLT, Int.reduceLE, Int.reduceAdd, hg5, hn, hz, hn', Nat.add_zero, hn5, hz5, hx5, bR5, cR5, dR5, eR5, rR, qR, pRS, bS5, cS5, dS5, eS5, rS, qS, pSR]
  obtain ⟨x0, hx0, _⟩ := isT_some h3
  have hrem : rem l (operand l en s.count.adv).1 + 1 ≤ rem l s := (rem_lt (l := l) ((count_lt (adv_isT (s := s.count) h3)).trans_le (operand_lt (en := en) _).le)).2 (tk_some hx0).2.1 (tk_some hx0).2.2.1
  refine goC_out (c_operand (s := s.count.adv) (l := l) (en := en) hlen hf (by first | omega | (simp only [go_sem, Nat.reduceBEq, Nat.reduceLeDiff, Nat.reduceEqDiff, Nat.reduceSub, Nat.reduceAdd, Int.reduceEq, Int.reduceLT, Int.reduceLE, Int.reduceAdd]; omega)) (by first | assumption | simp only [go_sem, Nat.reduceBEq, Nat.reduceLeDiff, Nat.reduceEqDiff, Nat.reduceSub, Nat.reduceAdd, Int.reduceEq, Int.reduceLT, Int.reduceLE, Int.reduceAdd, hg5, hn, hz, hn', Nat.add_zero, hn5, hz5, hx5, bR5, cR5, dR5, eR5, rR, qR, pRS, bS5, cS5, dS5, eS5, rS, qS, pSR])) ?_ ?_
  case refine_2 =>
    intro q9 hq9 H9 had
    have hb9 : q1.f = some q9 := by
      have e1 : (blockF l en n (operand l en s.count.adv).1 deep).1 = (operand l en s.count.adv).1 := blockF_bad (ok_some hq9) _ _
      have e2 : isT l (blockF l en n (operand l en s.count.adv).1 deep).1 tElse = false := by rw [e1]; exact isT_bad (ok_some hq9) _
      rw [e2] at hq
      cases hq
      rw [e1]; exact hq9
    rw [outP_some hb9]
    simp only [go_sem, Nat.reduceBEq, Nat.reduceLeDiff, Nat.reduceEqDiff, Nat.reduceSub, Nat.reduceAdd, Int.reduceEq, Int.reduceLT, Int.reduceLE, Int.reduceAdd, san_trouble]
    (repeat first | exact Adv.refl _ _ | assumption | refine Adv.trans ?_ had | refine Adv.trans ?_ ha1 | refine Adv.trans ?_ ha2 | refine Adv.trans ?_ ha3 | refine Adv.trans ?_ ha4 | refine Adv.trans ?_ ha5 | refine Adv.trans ?_ ha6 | refine Adv.trans ?_ ha7 | refine Adv.trans ?_ ha8 | refine Adv.trans ?_ ha9 | refine Adv.trans ?_ ha10 | refine Adv.trans ?_ ha11 | refine Adv.trans ?_ ha12 | apply Adv.up | apply Adv.put | refine Adv.new ?_ (by omega) _ | refine Adv.live ?_ (by omega) _ | refine Adv.owns ?_ (by omega) (by first | exact OwnB.lo ‹_› | exact fun _ _ _ h => by cases h))
  intro hf7 H6 hg6 ha6
  have hl6 := ha6.1
  try simp only [go_sem, Nat.reduceBEq, Nat.reduceLeDiff, Nat.reduceEqDiff, Nat.reduceSub, Nat.reduceAdd, Int.reduceEq, Int.reduceLT, Int.reduceLE, Int.reduceAdd] at hl6
  have hr6 : r < H6.next := by omega
  have hn6 := ne_new hr6
  have hz6 := ne_new0 hr6
  have hx6 := ne_new' hr6
  have bR6 : H6.get (H.next) = some ([.lit (.int .i64 0), .lit (.string (ba [])), .lit (.string (ba [])), .lit (.string (ba [])), .sl .nil [], .sl .nil [], .sl .nil [], .sl .nil []]) := (ha6.get (by first | omega | (simp only [go_sem, Nat.reduceBEq, Nat.reduceLeDiff, Nat.reduceEqDiff, Nat.reduceSub, Nat.reduceAdd, Int.reduceEq, Int.reduceLT, Int.reduceLE, Int.reduceAdd]; omega)) (by omega)).trans (by simp only [go_sem, Nat.reduceBEq, Nat.reduceLeDiff, Nat.reduceEqDiff, Nat.reduceSub, Nat.reduceAdd, Int.reduceEq, Int.reduceLT, Int.reduceLE, Int.reduceAdd, hg5, hn, hz, hn', Nat.add_zero, hn5, hz5, hx5, bR5, cR5, dR5, eR5, rR, qR, pRS, bS5, cS5, dS5, eS5, rS, qS, pSR])
  have cR6 : ∀ j, (H6.next + j = H.next) = False := fun j => eq_false (by omega)
  have dR6 : (H6.next = H.next) = False := eq_false (by omega)
  have eR6 : ∀ j, (H.next = H6.next + j) = False := fun j => eq_false (by omega)
  have bS6 : H6.get (H4.next + 13) = some ([.lit (.int .i64 0), .lit (.string (ba [])), .lit (.string (ba [])), .lit (.string (ba [])), .sl .nil [], .sl .nil [], .sl .nil [], .sl .nil []]) := (ha6.get (by first | omega | (simp only [go_sem, Nat.reduceBEq, Nat.reduceLeDiff, Nat.reduceEqDiff, Nat.reduceSub, Nat.reduceAdd, Int.reduceEq, Int.reduceLT, Int.reduceLE, Int.reduceAdd]; omega)) (by omega)).trans (by simp only [go_sem, Nat.reduceBEq, Nat.reduceLeDiff, Nat.reduceEqDiff, Nat.reduceSub, Nat.reduceAdd, Int.reduceEq, Int.reduceLT, Int.reduceLE, Int.reduceAdd, hg5, hn, hz, hn', Nat.add_zero, hn5, hz5, hx5, bR5, cR5, dR5, eR5, rR, qR, pRS, bS5, cS5, dS5, eS5, rS, qS, pSR])
  have cS6 : ∀ j, (H6.next + j = H4.next + 13) = False := fun j => eq_false (by omega)
  have dS6 : (H6.next = H4.next + 13) = False := eq_false (by omega)
  have eS6 : ∀ j, (H4.next + 13 = H6.next + j) = False := fun j => eq_false (by omega)
  simp only [go_sem, Nat.reduceBEq, Nat.reduceLeDiff, Nat.reduceEqDiff, Nat.reduceSub, Nat.reduceAdd, Int.reduceEq, Int.reduceLT, Int.reduceLE, Int.reduceAdd, hg6, hn, hz, hn', Nat.add_zero, hn6, hz6, hx6, bR6, cR6, dR6, eR6, rR, qR, pRS, bS6, cS6, dS6, eS6, rS, qS, pSR]
  refine goC_out (ihb r (operand l en s.count.adv).1 deep _ (by omega) hdeep hf7 (by first | omega | (simp only [go_sem, Nat.reduceBEq, Nat.reduceLeDiff, Nat.reduceEqDiff, Nat.reduceSub, Nat.reduceAdd, Int.reduceEq, Int.reduceLT, Int.reduceLE, Int.reduceAdd]; omega)) (by first | assumption | simp only [go_sem, Nat.reduceBEq, Nat.reduceLeDiff, Nat.reduceEqDiff, Nat.reduceSub, Nat.reduceAdd, Int.reduceEq, Int.reduceLT, Int.reduceLE, Int.reduceAdd, hg6, hn, hz, hn', Nat.add_zero, hn6, hz6, hx6, bR6, cR6, dR6, eR6, rR, qR, pRS, bS6, cS6, dS6, eS6, rS, qS, pSR])) ?_ ?_
  case refine_2 =>
    intro q9 hq9 H9 had
    have hb9 : q1.f = some q9 := by
      have e2 : isT l (blockF l en n (operand l en s.count.adv).1 deep).1 tElse = false := isT_bad (ok_some hq9) _
      rw [e2] at hq
      cases hq
      exact hq9
    rw [outP_some hb9]
    simp only [go_sem, Nat.reduceBEq, Nat.reduceLeDiff, Nat.reduceEqDiff, Nat.reduceSub, Nat.reduceAdd, Int.reduceEq, Int.reduceLT, Int.reduceLE, Int.reduceAdd, san_trouble]
    (repeat first | exact Adv.refl _ _ | assumption | refine Adv.trans ?_ had | refine Adv.trans ?_ ha1 | refine Adv.trans ?_ ha2 | refine Adv.trans ?_ ha3 | refine Adv.trans ?_ ha4 | refine Adv.trans ?_ ha5 | refine Adv.trans ?_ ha6 | refine Adv.trans ?_ ha7 | refine Adv.trans ?_ ha8 | refine Adv.trans ?_ ha9 | refine Adv.trans ?_ ha10 | refine Adv.trans ?_ ha11 | refine Adv.trans ?_ ha12 | apply Adv.up | apply Adv.put | refine Adv.new ?_ (by omega) _ | refine Adv.live ?_ (by omega) _ | refine Adv.owns ?_ (by omega) (by first | exact OwnB.lo ‹_› | exact fun _ _ _ h => by cases h))
  intro hf8 H7 hg7 ha7
  have hl7 := ha7.1
  try simp only [go_sem, Nat.reduceBEq, Nat.reduceLeDiff, Nat.reduceEqDiff, Nat.reduceSub, Nat.reduceAdd, Int.reduceEq, Int.reduceLT, Int.reduceLE, Int.reduceAdd] at hl7
  have hr7 : r < H7.next := by omega
  have hn7 := ne_new hr7
  have hz7 := ne_new0 hr7
  have hx7 := ne_new' hr7
  have bR7 : H7.get (H.next) = some ([.lit (.int .i64 0), .lit (.string (ba [])), .lit (.string (ba [])), .lit (.string (ba [])), .sl .nil [], .sl .nil [], .sl .nil [], .sl .nil []]) := (ha7.get (by first | omega | (simp only [go_sem, Nat.reduceBEq, Nat.reduceLeDiff, Nat.reduceEqDiff, Nat.reduceSub, Nat.reduceAdd, Int.reduceEq, Int.reduceLT, Int.reduceLE, Int.reduceAdd]; omega)) (by omega)).trans (by simp only [go_sem, Nat.reduceBEq, Nat.reduceLeDiff, Nat.reduceEqDiff, Nat.reduceSub, Nat.reduceAdd, Int.reduceEq, Int.reduceLT, Int.reduceLE, Int.reduceAdd, hg6, hn, hz, hn', Nat.add_zero, hn6, hz6, hx6, bR6, cR6, dR6, eR6, rR, qR, pRS, bS6, cS6, dS6, eS6, rS, qS, pSR])
  have cR7 : ∀ j, (H7.next + j = H.next) = False := fun j => eq_false (by omega)
  have dR7 : (H7.next = H.next) = False := eq_false (by omega)
  have eR7 : ∀ j, (H.next = H7.next + j) = False := fun j => eq_false (by omega)
  have bS7 : H7.get (H4.next + 13) = some ([.lit (.int .i64 9), .lit (.string (ba [])), .lit (.string (ba [])), .lit (.string (ba [])), .sl .ex [encOpd (operand l en s.count.adv).2], .sl .nil [], .sl .nil [], .sl .nil []]) := (ha7.get (by first | omega | (simp only [go_sem, Nat.reduceBEq, Nat.reduceLeDiff, Nat.reduceEqDiff, Nat.reduceSub, Nat.reduceAdd, Int.reduceEq, Int.reduceLT, Int.reduceLE, Int.reduceAdd]; omega)) (by omega)).trans (by simp only [go_sem, Nat.reduceBEq, Nat.reduceLeDiff, Nat.reduceEqDiff, Nat.reduceSub, Nat.reduceAdd, Int.reduceEq, Int.reduceLT, Int.reduceLE, Int.reduceAdd, hg6, hn, hz, hn', Nat.add_zero, hn6, hz6, hx6, bR6, cR6, dR6, eR6, rR, qR, pRS, bS6, cS6, dS6, eS6, rS, qS, pSR])
  have cS7 : ∀ j, (H7.next + j = H4.next + 13) = False := fun j => eq_false (by omega)
  have dS7 : (H7.next = H4.next + 13) = False := eq_false (by omega)
  have eS7 : ∀ j, (H4.next + 13 = H7.next + j) = False := fun j => eq_false (by omega)
  simp only [go_sem, Nat.reduceBEq, Nat.reduceLeDiff, Nat.reduceEqDiff, Nat.reduceSub, Nat.reduceAdd, Int.reduceEq, Int.reduceLT, Int.reduceLE, Int.reduceAdd, hg7, hn, hz, hn', Nat.add_zero, hn7, hz7, hx7, bR7, cR7, dR7, eR7, rR, qR, pRS, bS7, cS7, dS7, eS7, rS, qS, pSR]
  cases h5 : isT l (blockF l en n (operand l en s.count.adv).1 deep).1 [101, 108, 115, 101] with
  | true =>
    rw [show isT l (blockF l en n (operand l en s.count.adv).1 deep).1 tElse = true from h5] at hq
    cases hq
    have hrem2 : rem l (blockF l en n (operand l en s.count.adv).1 deep).1.adv ≤ rem l (operand l en s.count.adv).1 := (rem_lt (l := l) ((blockF_lt (en := en) n _ deep).trans_le (adv_isT h5).le)).1
    refine goC_ok (c_take_yes (s := (blockF l en n (operand l en s.count.adv).1 deep).1) (l := l) (en := en) hlen hf8 (by first | omega | (simp only [go_sem, Nat.reduceBEq, Nat.reduceLeDiff, Nat.reduceEqDiff, Nat.reduceSub, Nat.reduceAdd, Int.reduceEq, Int.reduceLT, Int.reduceLE, Int.reduceAdd]; omega)) (by first | assumption | simp only [go_sem, Nat.reduceBEq, Nat.reduceLeDiff, Nat.reduceEqDiff, Nat.reduceSub, Nat.reduceAdd, Int.reduceEq, Int.reduceLT, Int.reduceLE, Int.reduceAdd, hg7, hn, hz, hn', Nat.add_zero, hn7, hz7, hx7, bR7, cR7, dR7, eR7, rR, qR, pRS, bS7, cS7, dS7, eS7, rS, qS, pSR]) (by decide) h5) ?_
    intro H8 hg8 ha8
    have hl8 := ha8.1
    try simp only [go_sem, Nat.reduceBEq, Nat.reduceLeDiff, Nat.reduceEqDiff, Nat.reduceSub, Nat.reduceAdd, Int.reduceEq, Int.reduceLT, Int.reduceLE, Int.reduceAdd] at hl8
    have hr8 : r < H8.next := by omega
    have hn8 := ne_new hr8
    have hz8 := ne_new0 hr8
    have hx8 := ne_new' hr8
    have bR8 : H8.get (H.next) = some ([.lit (.int .i64 0), .lit (.string (ba [])), .lit (.string (ba [])), .lit (.string (ba [])), .sl .nil [], .sl .nil [], .sl .nil [], .sl .nil []]) := (ha8.get (by first | omega | (simp only [go_sem, Nat.reduceBEq, Nat.reduceLeDiff, Nat.reduceEqDiff, Nat.reduceSub, Nat.reduceAdd, Int.reduceEq, Int.reduceLT, Int.reduceLE, Int.reduceAdd]; omega)) (by omega)).trans (by simp only [go_sem, Nat.reduceBEq, Nat.reduceLeDiff, Nat.reduceEqDiff, Nat.reduceSub, Nat.reduceAdd, Int.reduceEq, Int.reduceLT, Int.reduceLE, Int.reduceAdd, hg7, hn, hz, hn', Nat.add_zero, hn7, hz7, hx7, bR7, cR7, dR7, eR7, rR, qR, pRS, bS7, cS7, dS7, eS7, rS, qS, pSR])
    have cR8 : ∀ j, (H8.next + j = H.next) = False := fun j => eq_false (by omega)
    have dR8 : (H8.next = H.next) = False := eq_false (by omega)
    have eR8 : ∀ j, (H.next = H8.next + j) = False := fun j => eq_false (by omega)
    have bS8 : H8.get (H4.next + 13) = some ([.lit (.int .i64 9), .lit (.string (ba [])), .lit (.string (ba [])), .lit (.string (ba [])), .sl .ex [encOpd (operand l en s.count.adv).2], .sl .nil [], .sl .sh ((blockF l en n (operand l en s.count.adv).1 deep).2.map encStmt), .sl .nil []]) := (ha8.get (by first | omega | (simp only [go_sem, Nat.reduceBEq, Nat.reduceLeDiff, Nat.reduceEqDiff, Nat.reduceSub, Nat.reduceAdd, Int.reduceEq, Int.reduceLT, Int.reduceLE, Int.reduceAdd]; omega)) (by omega)).trans (by simp only [go_sem, Nat.reduceBEq, Nat.reduceLeDiff, Nat.reduceEqDiff, Nat.reduceSub, Nat.reduceAdd, Int.reduceEq, Int.reduceLT, Int.reduceLE, Int.reduceAdd, hg7, hn, hz, hn', Nat.add_zero, hn7, hz7, hx7, bR7, cR7, dR7, eR7, rR, qR, pRS, bS7, cS7, dS7, eS7, rS, qS, pSR])
    have cS8 : ∀ j, (H8.next + j = H4.next + 13) = False := fun j => eq_false (by omega)
    have dS8 : (H8.next = H4.next + 13) = False := eq_false (by omega)
    have eS8 : ∀ j, (H4.next + 13 = H8.next + j) = False := fun j => eq_false (by omega)
    simp only [go_sem, Nat.reduceBEq, Nat.reduceLeDiff, Nat.reduceEqDiff, Nat.reduceSub, Nat.reduceAdd, Int.reduceEq, Int.reduceLT, Int.reduceLE, Int.reduceAdd, hg8, hn, hz, hn', Nat.add_zero, hn8, hz8, hx8, bR8, cR8, dR8, eR8, rR, qR, pRS, bS8, cS8, dS8, eS8, rS, qS, pSR]
    refine goC_out (ihb r (blockF l en n (operand l en s.count.adv).1 deep).1.adv deep _ (by omega) hdeep hf8 (by first | omega | (simp only [go_sem, Nat.reduceBEq, Nat.reduceLeDiff, Nat.reduceEqDiff, Nat.reduceSub, Nat.reduceAdd, Int.reduceEq, Int.reduceLT, Int.reduceLE, Int.reduceAdd]; omega)) (by first | assumption | simp only [go_sem, Nat.reduceBEq, Nat.reduceLeDiff, Nat.reduceEqDiff, Nat.reduceSub, Nat.reduceAdd, Int.reduceEq, Int.reduceLT, Int.reduceLE, Int.reduceAdd, hg8, hn, hz, hn', Nat.add_zero, hn8, hz8, hx8, bR8, cR8, dR8, eR8, rR, qR, pRS, bS8, cS8, dS8, eS8, rS, qS, pSR])) ?_ ?_
    case refine_2 =>
      intro q9 hq9 H9 had
      rw [outP_some (show (blockF l en n (blockF l en n (operand l en s.count.adv).1 deep).1.adv deep).1.f = some q9 by exact hq9)]
      simp only [go_sem, Nat.reduceBEq, Nat.reduceLeDiff, Nat.reduceEqDiff, Nat.reduceSub, Nat.reduceAdd, Int.reduceEq, Int.reduceLT, Int.reduceLE, Int.reduceAdd, san_trouble]
      (repeat first | exact Adv.refl _ _ | assumption | refine Adv.trans ?_ had | refine Adv.trans ?_ ha1 | refine Adv.trans ?_ ha2 | refine Adv.trans ?_ ha3 | refine Adv.trans ?_ ha4 | refine Adv.trans ?_ ha5 | refine Adv.trans ?_ ha6 | refine Adv.trans ?_ ha7 | refine Adv.trans ?_ ha8 | refine Adv.trans ?_ ha9 | refine Adv.trans ?_ ha10 | refine Adv.trans ?_ ha11 | refine Adv.trans ?_ ha12 | apply Adv.up | apply Adv.put | refine Adv.new ?_ (by omega) _ | refine Adv.live ?_ (by omega) _ | refine Adv.owns ?_ (by omega) (by first | exact OwnB.lo ‹_› | exact fun _ _ _ h => by cases h))
    intro hf10 H9 hg9 ha9
    have hl9 := ha9.1
    try simp only [go_sem, Nat.reduceBEq, Nat.reduceLeDiff, Nat.reduceEqDiff, Nat.reduceSub, Nat.reduceAdd, Int.reduceEq, Int.reduceLT, Int.reduceLE, Int.reduceAdd] at hl9
    have hr9 : r < H9.next := by omega
    have hn9 := ne_new hr9
    have hz9 := ne_new0 hr9
    have hx9 := ne_new' hr9
    have bR9 : H9.get (H.next) = some ([.lit (.int .i64 0), .lit (.string (ba [])), .lit (.string (ba [])), .lit (.string (ba [])), .sl .nil [], .sl .nil [], .sl .nil [], .sl .nil []]) := (ha9.get (by first | omega | (simp only [go_sem, Nat.reduceBEq, Nat.reduceLeDiff, Nat.reduceEqDiff, Nat.reduceSub, Nat.reduceAdd, Int.reduceEq, Int.reduceLT, Int.reduceLE, Int.reduceAdd]; omega)) (by omega)).trans (by simp only [go_sem, Nat.reduceBEq, Nat.reduceLeDiff, Nat.reduceEqDiff, Nat.reduceSub, Nat.reduceAdd, Int.reduceEq, Int.reduceLT, Int.reduceLE, Int.reduceAdd, hg8, hn, hz, hn', Nat.add_zero, hn8, hz8, hx8, bR8, cR8, dR8, eR8, rR, qR, pRS, bS8, cS8, dS8, eS8, rS, qS, pSR])
    have cR9 : ∀ j, (H9.next + j = H.next) = False := fun j => eq_false (by omega)
    have dR9 : (H9.next = H.next) = False := eq_false (by omega)
    have eR9 : ∀ j, (H.next = H9.next + j) = False := fun j => eq_false (by omega)
    have bS9 : H9.get (H4.next + 13) = some ([.lit (.int .i64 9), .lit (.string (ba [])), .lit (.string (ba [])), .lit (.string (ba [])), .sl .ex [encOpd (operand l en s.count.adv).2], .sl .nil [], .sl .sh ((blockF l en n (operand l en s.count.adv).1 deep).2.map encStmt), .sl .nil []]) := (ha9.get (by first | omega | (simp only [go_sem, Nat.reduceBEq, Nat.reduceLeDiff, Nat.reduceEqDiff, Nat.reduceSub, Nat.reduceAdd, Int.reduceEq, Int.reduceLT, Int.reduceLE, Int.reduceAdd]; omega)) (by omega)).trans (by simp only [go_sem, Nat.reduceBEq, Nat.reduceLeDiff, Nat.reduceEqDiff, Nat.reduceSub, Nat.reduceAdd, Int.reduceEq, Int.reduceLT, Int.reduceLE, Int.reduceAdd, hg8, hn, hz, hn', Nat.add_zero, hn8, hz8, hx8, bR8, cR8, dR8, eR8, rR, qR, pRS, bS8, cS8, dS8, eS8, rS, qS, pSR])
    have cS9 : ∀ j, (H9.next + j = H4.next + 13) = False := fun j => eq_false (by omega)
    have dS9 : (H9.next = H4.next + 13) = False := eq_false (by omega)
    have eS9 : ∀ j, (H4.next + 13 = H9.next + j) = False := fun j => eq_false (by omega)
    rw [outP_none hf10]
    simp only [go_sem, Nat.reduceBEq, Nat.reduceLeDiff, Nat.reduceEqDiff, Nat.reduceSub, Nat.reduceAdd, Int.reduceEq, Int.reduceLT, Int.reduceLE, Int.reduceAdd, hg9, hn, hz, hn', Nat.add_zero, hn9, hz9, hx9, bR9, cR9, dR9, eR9, rR, qR, pRS, bS9, cS9, dS9, eS9, rS, qS, pSR, rs, eM, List.map_cons, List.map_nil]
    (repeat first | exact Adv.refl _ _ | assumption | refine Adv.trans ?_ had | refine Adv.trans ?_ ha1 | refine Adv.trans ?_ ha2 | refine Adv.trans ?_ ha3 | refine Adv.trans ?_ ha4 | refine Adv.trans ?_ ha5 | refine Adv.trans ?_ ha6 | refine Adv.trans ?_ ha7 | refine Adv.trans ?_ ha8 | refine Adv.trans ?_ ha9 | refine Adv.trans ?_ ha10 | refine Adv.trans ?_ ha11 | refine Adv.trans ?_ ha12 | apply Adv.up | apply Adv.put | refine Adv.new ?_ (by omega) _ | refine Adv.live ?_ (by omega) _ | refine Adv.owns ?_ (by omega) (by first | exact OwnB.lo ‹_› | exact fun _ _ _ h => by cases h))
  | false =>
    rw [show isT l (blockF l en n (operand l en s.count.adv).1 deep).1 tElse = false from h5] at hq
    cases hq
    refine goC_ok (c_take_no (s := (blockF l en n (operand l en s.count.adv).1 deep).1) (l := l) (en := en) hlen hf8 (by first | omega | (simp only [go_sem, Nat.reduceBEq, Nat.reduceLeDiff, Nat.reduceEqDiff, Nat.reduceSub, Nat.reduceAdd, Int.reduceEq, Int.reduceLT, Int.reduceLE, Int.reduceAdd]; omega)) (by first | assumption | simp only [go_sem, Nat.reduceBEq, Nat.reduceLeDiff, Nat.reduceEqDiff, Nat.reduceSub, Nat.reduceAdd, Int.reduceEq, Int.reduceLT, Int.reduceLE, Int.reduceAdd, hg7, hn, hz, hn', Nat.add_zero, hn7, hz7, hx7, bR7, cR7, dR7, eR7, rR, qR, pRS, bS7, cS7, dS7, eS7, rS, qS, pSR]) (by decide) h5) ?_
    intro H8 hg8 ha8
    have hl8 := ha8.1
    try simp only [go_sem, Nat.reduceBEq, Nat.reduceLeDiff, Nat.reduceEqDiff, Nat.reduceSub, Nat.reduceAdd, Int.reduceEq, Int.reduceLT, Int.reduceLE, Int.reduceAdd] at hl8
    have hr8 : r < H8.next := by omega
    have hn8 := ne_new hr8
    have hz8 := ne_new0 hr8
    have hx8 := ne_new' hr8
    have bR8 : H8.get (H.next) = some ([.lit (.int .i64 0), .lit (.string (ba [])), .lit (.string (ba [])), .lit (.string (ba [])), .sl .nil [], .sl .nil [], .sl .nil [], .sl .nil []]) := (ha8.get (by first | omega | (simp only [go_sem, Nat.reduceBEq, Nat.reduceLeDiff, Nat.reduceEqDiff, Nat.reduceSub, Nat.reduceAdd, Int.reduceEq, Int.reduceLT, Int.reduceLE, Int.reduceAdd]; omega)) (by omega)).trans (by simp only [go_sem, Nat.reduceBEq, Nat.reduceLeDiff, Nat.reduceEqDiff, Nat.reduceSub, Nat.reduceAdd, Int.reduceEq, Int.reduceLT, Int.reduceLE, Int.reduceAdd, hg7, hn, hz, hn', Nat.add_zero, hn7, hz7, hx7, bR7, cR7, dR7, eR7, rR, qR, pRS, bS7, cS7, dS7, eS7, rS, qS, pSR])
    have cR8 : ∀ j, (H8.next + j = H.next) = False := fun j => eq_false (by omega)
    have dR8 : (H8.next = H.next) = False := eq_false (by omega)
    have eR8 : ∀ j, (H.next = H8.next + j) = False := fun j => eq_false (by omega)
    have bS8 : H8.get (H4.next + 13) = some ([.lit (.int .i64 9), .lit (.string (ba [])), .lit (.string (ba [])), .lit (.string (ba [])), .sl .ex [encOpd (operand l en s.count.adv).2], .sl .nil [], .sl .sh ((blockF l en n (operand l en s.count.adv).1 deep).2.map encStmt), .sl .nil []]) := (ha8.get (by first | omega | (simp only [go_sem, Nat.reduceBEq, Nat.reduceLeDiff, Nat.reduceEqDiff, Nat.reduceSub, Nat.reduceAdd, Int.reduceEq, Int.reduceLT, Int.reduceLE, Int.reduceAdd]; omega)) (by omega)).trans (by simp only [go_sem, Nat.reduceBEq, Nat.reduceLeDiff, Nat.reduceEqDiff, Nat.reduceSub, Nat.reduceAdd, Int.reduceEq, Int.reduceLT, Int.reduceLE, Int.reduceAdd, hg7, hn, hz, hn', Nat.add_zero, hn7, hz7, hx7, bR7, cR7, dR7, eR7, rR, qR, pRS, bS7, cS7, dS7, eS7, rS, qS, pSR])
    have cS8 : ∀ j, (H8.next + j = H4.next + 13) = False := fun j => eq_false (by omega)
    have dS8 : (H8.next = H4.next + 13) = False := eq_false (by omega)
    have eS8 : ∀ j, (H4.next + 13 = H8.next + j) = False := fun j => eq_false (by omega)
    rw [outP_none hf8]
    simp only [go_sem, Nat.reduceBEq, Nat.reduceLeDiff, Nat.reduceEqDiff, Nat.reduceSub, Nat.reduceAdd, Int.reduceEq, Int.reduceLT, Int.reduceLE, Int.reduceAdd, hg8, hn, hz, hn', Nat.add_zero, hn8, hz8, hx8, bR8, cR8, dR8, eR8, rR, qR, pRS, bS8, cS8, dS8, eS8, rS, qS, pSR, rs, eM, List.map_cons, List.map_nil]
    (repeat first | exact Adv.refl _ _ | assumption | refine Adv.trans ?_ had | refine Adv.trans ?_ ha1 | refine Adv.trans ?_ ha2 | refine Adv.trans ?_ ha3 | refine Adv.trans ?_ ha4 | refine Adv.trans ?_ ha5 | refine Adv.trans ?_ ha6 | refine Adv.trans ?_ ha7 | refine Adv.trans ?_ ha8 | refine Adv.trans ?_ ha9 | refine Adv.trans ?_ ha10 | refine Adv.trans ?_ ha11 | refine Adv.trans ?_ ha12 | apply Adv.up | apply Adv.put | refine Adv.new ?_ (by omega) _ | refine Adv.live ?_ (by omega) _ | refine Adv.owns ?_ (by omega) (by first | exact OwnB.lo ‹_› | exact fun _ _ _ h => by cases h))
set_option maxRecDepth 20000 in
theorem c_stmt4 (hlen : l.length ≤ LM) (n : Nat) (ihb : PBlockOk l en n) (deep : Nat) (hn : 3 * rem l s + 1 ≤ n + 1) (hdeep : deep ≤ 33) (h0 : isName l s = false) (h1 : isT l s [111, 117, 116] = false) (h2 : isT l s [114, 101, 116, 117, 114, 110] = false) (h3 : isT l s [105, 102] = false) (h4 : isT l s [119, 104, 105, 108, 101] = true) (hf : s.f = none) (hr : r < H.next) (hg : H.get r = some (cP l en s)) :
    PCall Tryz.prog cfg r 104 [.ptr r 0, .lit (.int .i64 (deep : Nat))] H (outP l en (stmtF l en (n + 1) s deep).1 (.agg (encStmt (stmtF l en (n + 1) s deep).2))) := by
  obtain ⟨q1, q2, hq⟩ : ∃ q1 q2, stmtF l en (n + 1) s deep = (q1, q2) := ⟨_, _, rfl⟩
  rw [hq]
  show PCall _ _ _ _ _ _ (outP l en q1 (.agg (encStmt q2)))
  refine PCall_of' (fn := Tryz.f104) rfl rfl rfl rfl rfl ?_
  have rs : Tryz.f104.results.toList = [.cell 4 40] := rfl
  have eM := encStmt_mk
  have hn := ne_new hr
  have hz := ne_new0 hr
  have hn' := ne_new' hr
  unfold stmtF at hq
  have hst : starts l s = true := by simp only [starts, tOut, tReturn, tIf, tWhile, h0, h1, h2, h3, h4, Bool.or_true, Bool.true_or]
  rw [hst] at hq
  simp only [tIf, tWhile, h3, h4] at hq
  simp only [go_sem, Nat.reduceBEq, Nat.reduceLeDiff, Nat.reduceEqDiff, Nat.reduceSub, Nat.reduceAdd, Int.reduceEq, Int.reduceLT, Int.reduceLE, Int.reduceAdd]
  have rR : (H.next = r) = False := eq_false (by omega)
  have qR : (r = H.next) = False := eq_false (by omega)
  refine goC_ok (c_isName (s := s) (l := l) (en := en) hlen hf (by first | omega | (simp only [go_sem, Nat.reduceBEq, Nat.reduceLeDiff, Nat.reduceEqDiff, Nat.reduceSub, Nat.reduceAdd, Int.reduceEq, Int.reduceLT, Int.reduceLE, Int.reduceAdd]; omega)) (by first | assumption | simp only [go_sem, Nat.reduceBEq, Nat.reduceLeDiff, Nat.reduceEqDiff, Nat.reduceSub, Nat.reduceAdd, Int.reduceEq, Int.reduceLT, Int.reduceLE, Int.reduceAdd, hg, hn, hz, hn', Nat.add_zero, rR, qR])) ?_
  intro H1 hg1 ha1
  have hl1 := ha1.1
  try simp only [go_sem, Nat.reduceBEq, Nat.reduceLeDiff, Nat.reduceEqDiff, Nat.reduceSub, Nat.reduceAdd, Int.reduceEq, Int.reduceLT, Int.reduceLE, Int.reduceAdd] at hl1
  have hr1 : r < H1.next := by omega
  have hn1 := ne_new hr1
  have hz1 := ne_new0 hr1
  have hx1 := ne_new' hr1
  have bR1 : H1.get (H.next) = some ([.lit (.int .i64 0), .lit (.string (ba [])), .lit (.string (ba [])), .lit (.string (ba [])), .sl .nil [], .sl .nil [], .sl .nil [], .sl .nil []]) := (ha1.get (by first | omega | (simp only [go_sem, Nat.reduceBEq, Nat.reduceLeDiff, Nat.reduceEqDiff, Nat.reduceSub, Nat.reduceAdd, Int.reduceEq, Int.reduceLT, Int.reduceLE, Int.reduceAdd]; omega)) (by omega)).trans (by simp only [go_sem, Nat.reduceBEq, Nat.reduceLeDiff, Nat.reduceEqDiff, Nat.reduceSub, Nat.reduceAdd, Int.reduceEq, Int.reduceLT, Int.reduceLE, Int.reduceAdd, hg, hn, hz, hn', Nat.add_zero, rR, qR])
  have cR1 : ∀ j, (H1.next + j = H.next) = False := fun j => eq_false (by omega)
  have dR1 : (H1.next = H.next) = False := eq_false (by omega)
  have eR1 : ∀ j, (H.next = H1.next + j) = False := fun j => eq_false (by omega)
  simp only [go_sem, Nat.reduceBEq, Nat.reduceLeDiff, Nat.reduceEqDiff, Nat.reduceSub, Nat.reduceAdd, Int.reduceEq, Int.reduceLT, Int.reduceLE, Int.reduceAdd, hg1, hn, hz, hn', Nat.add_zero, hn1, hz1, hx1, bR1, cR1, dR1, eR1, rR, qR, h0]
  refine goC_ok (c_is (s := s) (l := l) (en := en) hlen hf (by first | omega | (simp only [go_sem, Nat.reduceBEq, Nat.reduceLeDiff, Nat.reduceEqDiff, Nat.reduceSub, Nat.reduceAdd, Int.reduceEq, Int.reduceLT, Int.reduceLE, Int.reduceAdd]; omega)) (by first | assumption | simp only [go_sem, Nat.reduceBEq, Nat.reduceLeDiff, Nat.reduceEqDiff, Nat.reduceSub, Nat.reduceAdd, Int.reduceEq, Int.reduceLT, Int.reduceLE, Int.reduceAdd, hg1, hn, hz, hn', Nat.add_zero, hn1, hz1, hx1, bR1, cR1, dR1, eR1, rR, qR]) [111, 117, 116] (by decide)) ?_
  intro H2 hg2 ha2
  have hl2 := ha2.1
  try simp only [go_sem, Nat.reduceBEq, Nat.reduceLeDiff, Nat.reduceEqDiff, Nat.reduceSub, Nat.reduceAdd, Int.reduceEq, Int.reduceLT, Int.reduceLE, Int.reduceAdd] at hl2
  have hr2 : r < H2.next := by omega
  have hn2 := ne_new hr2
  have hz2 := ne_new0 hr2
  have hx2 := ne_new' hr2
  have bR2 : H2.get (H.next) = some ([.lit (.int .i64 0), .lit (.string (ba [])), .lit (.string (ba [])), .lit (.string (ba [])), .sl .nil [], .sl .nil [], .sl .nil [], .sl .nil []]) := (ha2.get (by first | omega | (simp only [go_sem, Nat.reduceBEq, Nat.reduceLeDiff, Nat.reduceEqDiff, Nat.reduceSub, Nat.reduceAdd, Int.reduceEq, Int.reduceLT, Int.reduceLE, Int.reduceAdd]; omega)) (by omega)).trans (by simp only [go_sem, Nat.reduceBEq, Nat.reduceLeDiff, Nat.reduceEqDiff, Nat.reduceSub, Nat.reduceAdd, Int.reduceEq, Int.reduceLT, Int.reduceLE, Int.reduceAdd, hg1, hn, hz, hn', Nat.add_zero, hn1, hz1, hx1, bR1, cR1, dR1, eR1, rR, qR])
  have cR2 : ∀ j, (H2.next + j = H.next) = False := fun j => eq_false (by omega)
  have dR2 : (H2.next = H.next) = False := eq_false (by omega)
  have eR2 : ∀ j, (H.next = H2.next + j) = False := fun j => eq_false (by omega)
  simp only [go_sem, Nat.reduceBEq, Nat.reduceLeDiff, Nat.reduceEqDiff, Nat.reduceSub, Nat.reduceAdd, Int.reduceEq, Int.reduceLT, Int.reduceLE, Int.reduceAdd, hg2, hn, hz, hn', Nat.add_zero, hn2, hz2, hx2, bR2, cR2, dR2, eR2, rR, qR, h1]
  refine goC_ok (c_is (s := s) (l := l) (en := en) hlen hf (by first | omega | (simp only [go_sem, Nat.reduceBEq, Nat.reduceLeDiff, Nat.reduceEqDiff, Nat.reduceSub, Nat.reduceAdd, Int.reduceEq, Int.reduceLT, Int.reduceLE, Int.reduceAdd]; omega)) (by first | assumption | simp only [go_sem, Nat.reduceBEq, Nat.reduceLeDiff, Nat.reduceEqDiff, Nat.reduceSub, Nat.reduceAdd, Int.reduceEq, Int.reduceLT, Int.reduceLE, Int.reduceAdd, hg2, hn, hz, hn', Nat.add_zero, hn2, hz2, hx2, bR2, cR2, dR2, eR2, rR, qR]) [114, 101, 116, 117, 114, 110] (by decide)) ?_
  intro H3 hg3 ha3
  have hl3 := ha3.1
  try simp only [go_sem, Nat.reduceBEq, Nat.reduceLeDiff, Nat.reduceEqDiff, Nat.reduceSub, Nat.reduceAdd, Int.reduceEq, Int.reduceLT, Int.reduceLE, Int.reduceAdd] at hl3
  have hr3 : r < H3.next := by omega
  have hn3 := ne_new hr3
  have hz3 := ne_new0 hr3
  have hx3 := ne_new' hr3
  have bR3 : H3.get (H.next) = some ([.lit (.int .i64 0), .lit (.string (ba [])), .lit (.string (ba [])), .lit (.string (ba [])), .sl .nil [], .sl .nil [], .sl .nil [], .sl .nil []]) := (ha3.get (by first | omega | (simp only [go_sem, Nat.reduceBEq, Nat.reduceLeDiff, Nat.reduceEqDiff, Nat.reduceSub, Nat.reduceAdd, Int.reduceEq, Int.reduceLT, Int.reduceLE, Int.reduceAdd]; omega)) (by omega)).trans (by simp only [go_sem, Nat.reduceBEq, Nat.reduceLeDiff, Nat.reduceEqDiff, Nat.reduceSub, Nat.reduceAdd, Int.reduceEq, Int.reduceLT, Int.reduceLE, Int.reduceAdd, hg2, hn, hz, hn', Nat.add_zero, hn2, hz2, hx2, bR2, cR2, dR2, eR2, rR, qR])
  have cR3 : ∀ j, (H3.next + j = H.next) = False := fun j => eq_false (by omega)
  have dR3 : (H3.next = H.next) = False := eq_false (by omega)
  have eR3 : ∀ j, (H.next = H3.next + j) = False := fun j => eq_false (by omega)
  simp only [go_sem, Nat.reduceBEq, Nat.reduceLeDiff, Nat.reduceEqDiff, Nat.reduceSub, Nat.reduceAdd, Int.reduceEq, Int.reduceLT, Int.reduceLE, Int.reduceAdd, hg3, hn, hz, hn', Nat.add_zero, hn3, hz3, hx3, bR3, cR3, dR3, eR3, rR, qR, h2]
  refine goC_ok (c_is (s := s) (l := l) (en := en) hlen hf (by first | omega | (simp only [go_sem, Nat.reduceBEq, Nat.reduceLeDiff, Nat.reduceEqDiff, Nat.reduceSub, Nat.reduceAdd, Int.reduceEq, Int.reduceLT, Int.reduceLE, Int.reduceAdd]; omega)) (by first | assumption | simp only [go_sem, Nat.reduceBEq, Nat.reduceLeDiff, Nat.reduceEqDiff, Nat.reduceSub, Nat.reduceAdd, Int.reduceEq, Int.reduceLT, Int.reduceLE, Int.reduceAdd, hg3, hn, hz, hn', Nat.add_zero, hn3, hz3, hx3, bR3, cR3, dR3, eR3, rR, qR]) [105, 102] (by decide)) ?_
  intro H4 hg4 ha4
  have hl4 := ha4.1
  try simp only [go_sem, Nat.reduceBEq, Nat.reduceLeDiff, Nat.reduceEqDiff, Nat.reduceSub, Nat.reduceAdd, Int.reduceEq, Int.reduceLT, Int.reduceLE, Int.reduceAdd] at hl4
  have hr4 : r < H4.next := by omega
  have hn4 := ne_new hr4
  have hz4 := ne_new0 hr4
  have hx4 := ne_new' hr4
  have bR4 : H4.get (H.next) = some ([.lit (.int .i64 0), .lit (.string (ba [])), .lit (.string (ba [])), .lit (.string (ba [])), .sl .nil [], .sl .nil [], .sl .nil [], .sl .nil []]) := (ha4.get (by first | omega | (simp only [go_sem, Nat.reduceBEq, Nat.reduceLeDiff, Nat.reduceEqDiff, Nat.reduceSub, Nat.reduceAdd, Int.reduceEq, Int.reduceLT, Int.reduceLE, Int.reduceAdd]; omega)) (by omega)).trans (by simp only [go_sem, Nat.reduceBEq, Nat.reduceLeDiff, Nat.reduceEqDiff, Nat.reduceSub, Nat.reduceAdd, Int.reduceEq, Int.reduceLT, Int.reduceLE, Int.reduceAdd, hg3, hn, hz, hn', Nat.add_zero, hn3, hz3, hx3, bR3, cR3, dR3, eR3, rR, qR])
  have cR4 : ∀ j, (H4.next + j = H.next) = False := fun j => eq_false (by omega)
  have dR4 : (H4.next = H.next) = False := eq_false (by omega)
  have eR4 : ∀ j, (H.next = H4.next + j) = False := fun j => eq_false (by omega)
  simp only [go_sem, Nat.reduceBEq, Nat.reduceLeDiff, Nat.reduceEqDiff, Nat.reduceSub, Nat.reduceAdd, Int.reduceEq, Int.reduceLT, Int.reduceLE, Int.reduceAdd, hg4, hn, hz, hn', Nat.add_zero, hn4, hz4, hx4, bR4, cR4, dR4, eR4, rR, qR, h3]
  refine goC_ok (c_is (s := s) (l := l) (en := en) hlen hf (by first | omega | (simp only [go_sem, Nat.reduceBEq, Nat.reduceLeDiff, Nat.reduceEqDiff, Nat.reduceSub, Nat.reduceAdd, Int.reduceEq, Int.reduceLT, Int.reduceLE, Int.reduceAdd]; omega)) (by first | assumption | simp only [go_sem, Nat.reduceBEq, Nat.reduceLeDiff, Nat.reduceEqDiff, Nat.reduceSub, Nat.reduceAdd, Int.reduceEq, Int.reduceLT, Int.reduceLE, Int.reduceAdd, hg4, hn, hz, hn', Nat.add_zero, hn4, hz4, hx4, bR4, cR4, dR4, eR4, rR, qR]) [119, 104, 105, 108, 101] (by decide)) ?_
  intro H5 hg5 ha5
  have hl5 := ha5.1
  try simp only [go_sem, Nat.reduceBEq, Nat.reduceLeDiff, Nat.reduceEqDiff, Nat.reduceSub, Nat.reduceAdd, Int.reduceEq, Int.reduceLT, Int.reduceLE, Int.reduceAdd] at hl5
  have hr5 : r < H5.next := by omega
  have hn5 := ne_new hr5
  have hz5 := ne_new0 hr5
  have hx5 := ne_new' hr5
  have bR5 : H5.get (H.next) = some ([.lit (.int .i64 0), .lit (.string (ba [])), .lit (.string (ba [])), .lit (.string (ba [])), .sl .nil [], .sl .nil [], .sl .nil [], .sl .nil []]) := (ha5.get (by first | omega | (simp only [go_sem, Nat.reduceBEq, Nat.reduceLeDiff, Nat.reduceEqDiff, Nat.reduceSub, Nat.reduceAdd, Int.reduceEq, Int.reduceLT, Int.reduceLE, Int.reduceAdd]; omega)) (by omega)).trans (by simp only [go_sem, Nat.reduceBEq, Nat.reduceLeDiff, Nat.reduceEqDiff, Nat.reduceSub, Nat.reduceAdd, Int.reduceEq, Int.reduceLT, Int.reduceLE, Int.reduceAdd, hg4, hn, hz, hn', Nat.add_zero, hn4, hz4, hx4, bR4, cR4, dR4, eR4, rR, qR])
  have cR5 : ∀ j, (H5.next + j = H.next) = False := fun j => eq_false (by omega)
  have dR5 : (H5.next = H.next) = False := eq_false (by omega)
  have eR5 : ∀ j, (H.next = H5.next + j) = False := fun j => eq_false (by omega)
  simp only [go_sem, Nat.reduceBEq, Nat.reduceLeDiff, Nat.reduceEqDiff, Nat.reduceSub, Nat.reduceAdd, Int.reduceEq, Int.reduceLT, Int.reduceLE, Int.reduceAdd, hg5, hn, hz, hn', Nat.add_zero, hn5, hz5, hx5, bR5, cR5, dR5, eR5, rR, qR, h4]
  by_cases hc : 2000 ≤ s.cnt
  · have d : decide (2000 ≤ ((s.cnt : Nat) : Int)) = true := by simp; omega
    have d' : decide (2000 ≤ s.cnt) = true := by simp [hc]
    rw [d'] at hq
    cases hq
    rw [outP_fail hf]
    simp only [go_sem, Nat.reduceBEq, Nat.reduceLeDiff, Nat.reduceEqDiff, Nat.reduceSub, Nat.reduceAdd, Int.reduceEq, Int.reduceLT, Int.reduceLE, Int.reduceAdd, hg5, hn, hz, hn', Nat.add_zero, hn5, hz5, hx5, bR5, cR5, dR5, eR5, rR, qR, d]
    refine goC_bad (c_fail (s := s) (l := l) (en := en) (by first | omega | (simp only [go_sem, Nat.reduceBEq, Nat.reduceLeDiff, Nat.reduceEqDiff, Nat.reduceSub, Nat.reduceAdd, Int.reduceEq, Int.reduceLT, Int.reduceLE, Int.reduceAdd]; omega)) (by first | assumption | simp only [go_sem, Nat.reduceBEq, Nat.reduceLeDiff, Nat.reduceEqDiff, Nat.reduceSub, Nat.reduceAdd, Int.reduceEq, Int.reduceLT, Int.reduceLE, Int.reduceAdd, hg5, hn, hz, hn', Nat.add_zero, hn5, hz5, hx5, bR5, cR5, dR5, eR5, rR, qR]) 2 rfl) ?_
    intro H9 had
    simp only [go_sem, Nat.reduceBEq, Nat.reduceLeDiff, Nat.reduceEqDiff, Nat.reduceSub, Nat.reduceAdd, Int.reduceEq, Int.reduceLT, Int.reduceLE, Int.reduceAdd, hg5, hn, hz, hn', Nat.add_zero, hn5, hz5, hx5, bR5, cR5, dR5, eR5, rR, qR, san_trouble]
    (repeat first | exact Adv.refl _ _ | assumption | refine Adv.trans ?_ had | refine Adv.trans ?_ ha1 | refine Adv.trans ?_ ha2 | refine Adv.trans ?_ ha3 | refine Adv.trans ?_ ha4 | refine Adv.trans ?_ ha5 | refine Adv.trans ?_ ha6 | refine Adv.trans ?_ ha7 | refine Adv.trans ?_ ha8 | refine Adv.trans ?_ ha9 | refine Adv.trans ?_ ha10 | refine Adv.trans ?_ ha11 | refine Adv.trans ?_ ha12 | apply Adv.up | apply Adv.put | refine Adv.new ?_ (by omega) _ | refine Adv.live ?_ (by omega) _ | refine Adv.owns ?_ (by omega) (by first | exact OwnB.lo ‹_› | exact fun _ _ _ h => by cases h))
  have d : decide (2000 ≤ ((s.cnt : Nat) : Int)) = false := by simp; omega
  have d' : decide (2000 ≤ s.cnt) = false := by simp; omega
  rw [d'] at hq
  simp only at hq
  have hwc := wrap1 (show s.cnt + 1 ≤ 9223372036854775807 by omega)
  have pSR : (H5.next + 13 = H.next) = False := eq_false (by omega)
  have pRS : (H.next = H5.next + 13) = False := eq_false (by omega)
  have rS : (H5.next + 13 = r) = False := eq_false (by omega)
  have qS : (r = H5.next + 13) = False := eq_false (by omega)
  simp only [go_sem, Nat.reduceBEq, Nat.reduceLeDiff, Nat.reduceEqDiff, Nat.reduceSub, Nat.reduceAdd, Int.reduceEq, Int.reduceLT, Int.reduceLE, Int.reduceAdd, hg5, hn, hz, hn', Nat.add_zero, hn5, hz5, hx5, bR5, cR5, dR5, eR5, rR, qR, pRS, rS, qS, pSR, d, hwc]
  refine goC_ok (c_take_no (s := s.count) (l := l) (en := en) hlen hf (by first | omega | (simp only [go_sem, Nat.reduceBEq, Nat.reduceLeDiff, Nat.reduceEqDiff, Nat.reduceSub, Nat.reduceAdd, Int.reduceEq, Int.reduceLT, Int.reduceLE, Int.reduceAdd]; omega)) (by first | assumption | simp only [go_sem, Nat.reduceBEq, Nat.reduceLeDiff, Nat.reduceEqDiff, Nat.reduceSub, Nat.reduceAdd, Int.reduceEq, Int.reduceLT, Int.reduceLE, Int.reduceAdd, hg5, hn, hz, hn', Nat.add_zero, hn5, hz5, hx5, bR5, cR5, dR5, eR5, rR, qR, pRS, rS, qS, pSR]) (by decide) (show isT l s.count [105, 102] = false from h3)) ?_
  intro H6 hg6 ha6
  have hl6 := ha6.1
  try simp only [go_sem, Nat.reduceBEq, Nat.reduceLeDiff, Nat.reduceEqDiff, Nat.reduceSub, Nat.reduceAdd, Int.reduceEq, Int.reduceLT, Int.reduceLE, Int.reduceAdd] at hl6
  have hr6 : r < H6.next := by omega
  have hn6 := ne_new hr6
  have hz6 := ne_new0 hr6
  have hx6 := ne_new' hr6
  have bR6 : H6.get (H.next) = some ([.lit (.int .i64 0), .lit (.string (ba [])), .lit (.string (ba [])), .lit (.string (ba [])), .sl .nil [], .sl .nil [], .sl .nil [], .sl .nil []]) := (ha6.get (by first | omega | (simp only [go_sem, Nat.reduceBEq, Nat.reduceLeDiff, Nat.reduceEqDiff, Nat.reduceSub, Nat.reduceAdd, Int.reduceEq, Int.reduceLT, Int.reduceLE, Int.reduceAdd]; omega)) (by omega)).trans (by simp only [go_sem, Nat.reduceBEq, Nat.reduceLeDiff, Nat.reduceEqDiff, Nat.reduceSub, Nat.reduceAdd, Int.reduceEq, Int.reduceLT, Int.reduceLE, Int.reduceAdd, hg5, hn, hz, hn', Nat.add_zero, hn5, hz5, hx5, bR5, cR5, dR5, eR5, rR, qR, pRS, rS, qS, pSR])
  have cR6 : ∀ j, (H6.next + j = H.next) = False := fun j => eq_false (by omega)
  have dR6 : (H6.next = H.next) = False := eq_false (by omega)
  have eR6 : ∀ j, (H.next = H6.next + j) = False := fun j => eq_false (by omega)
  have bS6 : H6.get (H5.next + 13) = some ([.lit (.int .i64 0), .lit (.string (ba [])), .lit (.string (ba [])), .lit (.string (ba [])), .sl .nil [], .sl .nil [], .sl .nil [], .sl .nil []]) := (ha6.get (by first | omega | (simp only [go_sem, Nat.reduceBEq, Nat.reduceLeDiff, Nat.reduceEqDiff, Nat.reduceSub, Nat.reduceAdd, Int.reduceEq, Int.reduceLT, Int.reduceLE, Int.reduceAdd]; omega)) (by omega)).trans (by simp only [go_sem, Nat.reduceBEq, Nat.reduceLeDiff, Nat.reduceEqDiff, Nat.reduceSub, Nat.reduceAdd, Int.reduceEq, Int.reduceLT, Int.reduceLE, Int.reduceAdd, hg5, hn, hz, hn', Nat.add_zero, hn5, hz5, hx5, bR5, cR5, dR5, eR5, rR, qR, pRS, rS, qS, pSR])
  have cS6 : ∀ j, (H6.next + j = H5.next + 13) = False := fun j => eq_false (by omega)
  have dS6 : (H6.next = H5.next + 13) = False := eq_false (by omega)
  have eS6 : ∀ j, (H5.next + 13 = H6.next + j) = False := fun j => eq_false (by omega)
  simp only [go_sem, Nat.reduceBEq, Nat.reduceLeDiff, Nat.reduceEqDiff, Nat.reduceSub, Nat.reduceAdd, Int.reduceEq, Int.reduceLT, Int.reduceLE, Int.reduceAdd, hg6, hn, hz, hn', Nat.add_zero, hn6, hz6, hx6, bR6, cR6, dR6, eR6, rR, qR, pRS, bS6, cS6, dS6, eS6, rS, qS, pSR]
  refine goC_ok (c_take_yes (s := s.count) (l := l) (en := en) hlen hf (by first | omega | (simp only [go_sem, Nat.reduceBEq, Nat.reduceLeDiff, Nat.reduceEqDiff, Nat.reduceSub, Nat.reduceAdd, Int.reduceEq, Int.reduceLT, Int.reduceLE, Int.reduceAdd]; omega)) (by first | assumption | simp only [go_sem, Nat.reduceBEq, Nat.reduceLeDiff, Nat.reduceEqDiff, Nat.reduceSub, Nat.reduceAdd, Int.reduceEq, Int.reduceLT, Int.reduceLE, Int.reduceAdd, hg6, hn, hz, hn', Nat.add_zero, hn6, hz6, hx6, bR6, cR6, dR6, eR6, rR, qR, pRS, bS6, cS6, dS6, eS6, rS, qS, pSR]) (by decide) (show isT l s.count [119, 104, 105, 108, 101] = true from h4)) ?_
  intro H7 hg7 ha7
  have hl7 := ha7.1
  try simp only [go_sem, Nat.reduceBEq, Nat.reduceLeDiff, Nat.reduceEqDiff, Nat.reduceSub, Nat.reduceAdd, Int.reduceEq, Int.reduceLT, Int.reduceLE, Int.reduceAdd] at hl7
  have hr7 : r < H7.next := by omega
  have hn7 := ne_new hr7
  have hz7 := ne_new0 hr7
  have hx7 := ne_new' hr7
  have bR7 : H7.get (H.next) = some ([.lit (.int .i64 0), .lit (.string (ba [])), .lit (.string (ba [])), .lit (.string (ba [])), .sl .nil [], .sl .nil [], .sl .nil [], .sl .nil []]) := (ha7.get (by first | omega | (simp only [go_sem, Nat.reduceBEq, Nat.reduceLeDiff, Nat.reduceEqDiff, Nat.reduceSub, Nat.reduceAdd, Int.reduceEq, Int.reduceLT, Int.reduceLE, Int.reduceAdd]; omega)) (by omega)).trans (by simp only [go_sem, Nat.reduceBEq, Nat.reduceLeDiff, Nat.reduceEqDiff, Nat.reduceSub, Nat.reduceAdd, Int.reduceEq, Int.reduceLT, Int.reduceLE, Int.reduceAdd, hg6, hn, hz, hn', Nat.add_zero, hn6, hz6, hx6, bR6, cR6, dR6, eR6, rR, qR, pRS, bS6, cS6, dS6, eS6, rS, qS, pSR])
  have cR7 : ∀ j, (H7.next + j = H.next) = False := fun j => eq_false (by omega)
  have dR7 : (H7.next = H.next) = False := eq_false (by omega)
  have eR7 : ∀ j, (H.next = H7.next + j) = False := fun j => eq_false (by omega)
  have bS7 : H7.get (H5.next + 13) = some ([.lit (.int .i64 0), .lit (.string (ba [])), .lit (.string (ba [])), .lit (.string (ba [])), .sl .nil [], .sl .nil [], .sl .nil [], .sl .nil []]) := (ha7.get (by first | omega | (simp only [go_sem, Nat.reduceBEq, Nat.reduceLeDiff, Nat.reduceEqDiff, Nat.reduceSub, Nat.reduceAdd, Int.reduceEq, Int.reduceLT, Int.reduceLE, Int.reduceAdd]; omega)) (by omega)).trans (by simp only [go_sem, Nat.reduceBEq, Nat.reduceLeDiff, Nat.reduceEqDiff, Nat.reduceSub, Nat.reduceAdd, Int.reduceEq, Int.reduceLT, Int.reduceLE, Int.reduceAdd, hg6, hn, hz, hn', Nat.add_zero, hn6, hz6, hx6, bR6, cR6, dR6, eR6, rR, qR, pRS, bS6, cS6, dS6, eS6, rS, qS, pSR])
  have cS7 : ∀ j, (H7.next + j = H5.next + 13) = False := fun j => eq_false (by omega)
  have dS7 : (H7.next = H5.next + 13) = False := eq_false (by omega)
  have eS7 : ∀ j, (H5.next + 13 = H7.next + j) = False := fun j => eq_false (by omega)
  simp only [go_sem, Nat.reduceBEq, Nat.reduceLeDiff, Nat.reduceEqDiff, Nat.reduceSub, Nat.reduceAdd, Int.reduceEq, Int.reduceLT, Int.reduceLE, Int.reduceAdd, hg7, hn, hz, hn', Nat.add_zero, hn7, hz7, hx7, bR7, cR7, dR7, eR7, rR, qR, pRS, bS7, cS7, dS7, eS7, rS, qS, pSR]
  obtain ⟨x0, hx0, _⟩ := isT_some h4
  have hrem : rem l (operand l en s.count.adv).1 + 1 ≤ rem l s := (rem_lt (l := l) ((count_lt (adv_isT (s := s.count) h4)).trans_le (operand_lt (en := en) _).le)).2 (tk_some hx0).2.1 (tk_some hx0).2.2.1
  cases hq
  refine goC_out (c_operand (s := s.count.adv) (l := l) (en := en) hlen hf (by first | omega | (simp only [go_sem, Nat.reduceBEq, Nat.reduceLeDiff, Nat.reduceEqDiff, Nat.reduceSub, Nat.reduceAdd, Int.reduceEq, Int.reduceLT, Int.reduceLE, Int.reduceAdd]; omega)) (by first | assumption | simp only [go_sem, Nat.reduceBEq, Nat.reduceLeDiff, Nat.reduceEqDiff, Nat.reduceSub, Nat.reduceAdd, Int.reduceEq, Int.reduceLT, Int.reduceLE, Int.reduceAdd, hg7, hn, hz, hn', Nat.add_zero, hn7, hz7, hx7, bR7, cR7, dR7, eR7, rR, qR, pRS, bS7, cS7, dS7, eS7, rS, qS, pSR])) ?_ ?_
  case refine_2 =>
    intro q9 hq9 H9 had
    rw [outP_some (show (blockF l en n (operand l en s.count.adv).1 deep).1.f = some q9 by rw [blockF_bad (ok_some hq9), hq9])]
    simp only [go_sem, Nat.reduceBEq, Nat.reduceLeDiff, Nat.reduceEqDiff, Nat.reduceSub, Nat.reduceAdd, Int.reduceEq, Int.reduceLT, Int.reduceLE, Int.reduceAdd, san_trouble]
    (repeat first | exact Adv.refl _ _ | assumption | refine Adv.trans ?_ had | refine Adv.trans ?_ ha1 | refine Adv.trans ?_ ha2 | refine Adv.trans ?_ ha3 | refine Adv.trans ?_ ha4 | refine Adv.trans ?_ ha5 | refine Adv.trans ?_ ha6 | refine Adv.trans ?_ ha7 | refine Adv.trans ?_ ha8 | refine Adv.trans ?_ ha9 | refine Adv.trans ?_ ha10 | refine Adv.trans ?_ ha11 | refine Adv.trans ?_ ha12 | apply Adv.up | apply Adv.put | refine Adv.new ?_ (by omega) _ | refine Adv.live ?_ (by omega) _ | refine Adv.owns ?_ (by omega) (by first | exact OwnB.lo ‹_› | exact fun _ _ _ h => by cases h))
  intro hf7 H8 hg8 ha8
  have hl8 := ha8.1
  try simp only [go_sem, Nat.reduceBEq, Nat.reduceLeDiff, Nat.reduceEqDiff, Nat.reduceSub, Nat.reduceAdd, Int.reduceEq, Int.reduceLT, Int.reduceLE, Int.reduceAdd] at hl8
  have hr8 : r < H8.next := by omega
  have hn8 := ne_new hr8
  have hz8 := ne_new0 hr8
  have hx8 := ne_new' hr8
  have bR8 : H8.get (H.next) = some ([.lit (.int .i64 0), .lit (.string (ba [])), .lit (.string (ba [])), .lit (.string (ba [])), .sl .nil [], .sl .nil [], .sl .nil [], .sl .nil []]) := (ha8.get (by first | omega | (simp only [go_sem, Nat.reduceBEq, Nat.reduceLeDiff, Nat.reduceEqDiff, Nat.reduceSub, Nat.reduceAdd, Int.reduceEq, Int.reduceLT, Int.reduceLE, Int.reduceAdd]; omega)) (by omega)).trans (by simp only [go_sem, Nat.reduceBEq, Nat.reduceLeDiff, Nat.reduceEqDiff, Nat.reduceSub, Nat.reduceAdd, Int.reduceEq, Int.reduceLT, Int.reduceLE, Int.reduceAdd, hg7, hn, hz, hn', Nat.add_zero, hn7, hz7, hx7, bR7, cR7, dR7, eR7, rR, qR, pRS, bS7, cS7, dS7, eS7, rS, qS, pSR])
  have cR8 : ∀ j, (H8.next + j = H.next) = False := fun j => eq_false (by omega)
  have dR8 : (H8.next = H.next) = False := eq_false (by omega)
  have eR8 : ∀ j, (H.next = H8.next + j) = False := fun j => eq_false (by omega)
  have bS8 : H8.get (H5.next + 13) = some ([.lit (.int .i64 0), .lit (.string (ba [])), .lit (.string (ba [])), .lit (.string (ba [])), .sl .nil [], .sl .nil [], .sl .nil [], .sl .nil []]) := (ha8.get (by first | omega | (simp only [go_sem, Nat.reduceBEq, Nat.reduceLeDiff, Nat.reduceEqDiff, Nat.reduceSub, Nat.reduceAdd, Int.reduceEq, Int.reduceLT, Int.reduceLE, Int.reduceAdd]; omega)) (by omega)).trans (by simp only [go_sem, Nat.reduceBEq, Nat.reduceLeDiff, Nat.reduceEqDiff, Nat.reduceSub, Nat.reduceAdd, Int.reduceEq, Int.reduceLT, Int.reduceLE, Int.reduceAdd, hg7, hn, hz, hn', Nat.add_zero, hn7, hz7, hx7, bR7, cR7, dR7, eR7, rR, qR, pRS, bS7, cS7, dS7, eS7, rS, qS, pSR])
  have cS8 : ∀ j, (H8.next + j = H5.next + 13) = False := fun j => eq_false (by omega)
  have dS8 : (H8.next = H5.next + 13) = False := eq_false (by omega)
  have eS8 : ∀ j, (H5.next + 13 = H8.next + j) = False := fun j => eq_false (by omega)
  simp only [go_sem, Nat.reduceBEq, Nat.reduceLeDiff, Nat.reduceEqDiff, Nat.reduceSub, Nat.reduceAdd, Int.reduceEq, Int.reduceLT, Int.reduceLE, Int.reduceAdd, hg8, hn, hz, hn', Nat.add_zero, hn8, hz8, hx8, bR8, cR8, dR8, eR8, rR, qR, pRS, bS8, cS8, dS8, eS8, rS, qS, pSR]
  refine goC_out (ihb r (operand l en s.count.adv).1 deep _ (by omega) hdeep hf7 (by first | omega | (simp only [go_sem, Nat.reduceBEq, Nat.reduceLeDiff, Nat.reduceEqDiff, Nat.reduceSub, Nat.reduceAdd, Int.reduceEq, Int.reduceLT, Int.reduceLE, Int.reduceAdd]; omega)) (by first | assumption | simp only [go_sem, Nat.reduceBEq, Nat.reduceLeDiff, Nat.reduceEqDiff, Nat.reduceSub, Nat.reduceAdd, Int.reduceEq, Int.reduceLT, Int.reduceLE, Int.reduceAdd, hg8, hn, hz, hn', Nat.add_zero, hn8, hz8, hx8, bR8, cR8, dR8, eR8, rR, qR, pRS, bS8, cS8, dS8, eS8, rS, qS, pSR])) ?_ ?_
  case refine_2 =>
    intro q9 hq9 H9 had
    rw [outP_some (show (blockF l en n (operand l en s.count.adv).1 deep).1.f = some q9 by exact hq9)]
    simp only [go_sem, Nat.reduceBEq, Nat.reduceLeDiff, Nat.reduceEqDiff, Nat.reduceSub, Nat.reduceAdd, Int.reduceEq, Int.reduceLT, Int.reduceLE, Int.reduceAdd, san_trouble]
    (repeat first | exact Adv.refl _ _ | assumption | refine Adv.trans ?_ had | refine Adv.trans ?_ ha1 | refine Adv.trans ?_ ha2 | refine Adv.trans ?_ ha3 | refine Adv.trans ?_ ha4 | refine Adv.trans ?_ ha5 | refine Adv.trans ?_ ha6 | refine Adv.trans ?_ ha7 | refine Adv.trans ?_ ha8 | refine Adv.trans ?_ ha9 | refine Adv.trans ?_ ha10 | refine Adv.trans ?_ ha11 | refine Adv.trans ?_ ha12 | apply Adv.up | apply Adv.put | refine Adv.new ?_ (by omega) _ | refine Adv.live ?_ (by omega) _ | refine Adv.owns ?_ (by omega) (by first | exact OwnB.lo ‹_› | exact fun _ _ _ h => by cases h))
  intro hf8 H9 hg9 ha9
  have hl9 := ha9.1
  try simp only [go_sem, Nat.reduceBEq, Nat.reduceLeDiff, Nat.reduceEqDiff, Nat.reduceSub, Nat.reduceAdd, Int.reduceEq, Int.reduceLT, Int.reduceLE, Int.reduceAdd] at hl9
  have hr9 : r < H9.next := by omega
  have hn9 := ne_new hr9
  have hz9 := ne_new0 hr9
  have hx9 := ne_new' hr9
  have bR9 : H9.get (H.next) = some ([.lit (.int .i64 0), .lit (.string (ba [])), .lit (.string (ba [])), .lit (.string (ba [])), .sl .nil [], .sl .nil [], .sl .nil [], .sl .nil []]) := (ha9.get (by first | omega | (simp only [go_sem, Nat.reduceBEq, Nat.reduceLeDiff, Nat.reduceEqDiff, Nat.reduceSub, Nat.reduceAdd, Int.reduceEq, Int.reduceLT, Int.reduceLE, Int.reduceAdd]; omega)) (by omega)).trans (by simp only [go_sem, Nat.reduceBEq, Nat.reduceLeDiff, Nat.reduceEqDiff, Nat.reduceSub, Nat.reduceAdd, Int.reduceEq, Int.reduceLT, Int.reduceLE, Int.reduceAdd, hg8, hn, hz, hn', Nat.add_zero, hn8, hz8, hx8, bR8, cR8, dR8, eR8, rR, qR, pRS, bS8, cS8, dS8, eS8, rS, qS, pSR])
  have cR9 : ∀ j, (H9.next + j = H.next) = False := fun j => eq_false (by omega)
  have dR9 : (H9.next = H.next) = False := eq_false (by omega)
  have eR9 : ∀ j, (H.next = H9.next + j) = False := fun j => eq_false (by omega)
  have bS9 : H9.get (H5.next + 13) = some ([.lit (.int .i64 10), .lit (.string (ba [])), .lit (.string (ba [])), .lit (.string (ba [])), .sl .ex [encOpd (operand l en s.count.adv).2], .sl .nil [], .sl .nil [], .sl .nil []]) := (ha9.get (by first | omega | (simp only [go_sem, Nat.reduceBEq, Nat.reduceLeDiff, Nat.reduceEqDiff, Nat.reduceSub, Nat.reduceAdd, Int.reduceEq, Int.reduceLT, Int.reduceLE, Int.reduceAdd]; omega)) (by omega)).trans (by simp only [go_sem, Nat.reduceBEq, Nat.reduceLeDiff, Nat.reduceEqDiff, Nat.reduceSub, Nat.reduceAdd, Int.reduceEq, Int.reduceLT, Int.reduceLE, Int.reduceAdd, hg8, hn, hz, hn', Nat.add_zero, hn8, hz8, hx8, bR8, cR8, dR8, eR8, rR, qR, pRS, bS8, cS8, dS8, eS8, rS, qS, pSR])
  have cS9 : ∀ j, (H9.next + j = H5.next + 13) = False := fun j => eq_false (by omega)
  have dS9 : (H9.next = H5.next + 13) = False := eq_false (by omega)
  have eS9 : ∀ j, (H5.next + 13 = H9.next + j) = False := fun j => eq_false (by omega)
  rw [outP_none hf8]
  simp only [go_sem, Nat.reduceBEq, Nat.reduceLeDiff, Nat.reduceEqDiff, Nat.reduceSub, Nat.reduceAdd, Int.reduceEq, Int.reduceLT, Int.reduceLE, Int.reduceAdd, hg9, hn, hz, hn', Nat.add_zero, hn9, hz9, hx9, bR9, cR9, dR9, eR9, rR, qR, pRS, bS9, cS9, dS9, eS9, rS, qS, pSR, rs, eM, List.map_cons, List.map_nil]
  (repeat first | exact Adv.refl _ _ | assumption | refine Adv.trans ?_ had | refine Adv.trans ?_ ha1 | refine Adv.trans ?_ ha2 | refine Adv.trans ?_ ha3 | refine Adv.trans ?_ ha4 | refine Adv.trans ?_ ha5 | refine Adv.trans ?_ ha6 | refine Adv.trans ?_ ha7 | refine Adv.trans ?_ ha8 | refine Adv.trans ?_ ha9 | refine Adv.trans ?_ ha10 | refine Adv.trans ?_ ha11 | refine Adv.trans ?_ ha12 | apply Adv.up | apply Adv.put | refine Adv.new ?_ (by omega) _ | refine Adv.live ?_ (by omega) _ | refine Adv.owns ?_ (by omega) (by first | exact OwnB.lo ‹_› | exact fun _ _ _ h => by cases h))
set_option maxRecDepth 20000 in
theorem c_stmt5 (hlen : l.length ≤ LM) (n : Nat) (ihb : PBlockOk l en n) (deep : Nat) (hn : 3 * rem l s + 1 ≤ n + 1) (hdeep : deep ≤ 33) (h0 : isName l s = false) (h1 : isT l s [111, 117, 116] = false) (h2 : isT l s [114, 101, 116, 117, 114, 110] = false) (h3 : isT l s [105, 102] = false) (h4 : isT l s [119, 104, 105, 108, 101] = false) (hf : s.f = none) (hr : r < H.next) (hg : H.get r = some (cP l en s)) :
    PCall Tryz.prog cfg r 104 [.ptr r 0, .lit (.int .i64 (deep : Nat))] H (outP l en (stmtF l en (n + 1) s deep).1 (.agg (encStmt (stmtF l en (n + 1) s deep).2))) := by
  have _ := ihb
  have _ := hn
  have _ := hdeep
  obtain ⟨q1, q2, hq⟩ : ∃ q1 q2, stmtF l en (n + 1) s deep = (q1, q2) := ⟨_, _, rfl⟩
  rw [hq]
  show PCall _ _ _ _ _ _ (outP l en q1 (.agg (encStmt q2)))
  refine PCall_of' (fn := Tryz.f104) rfl rfl rfl rfl rfl ?_
  have rs : Tryz.f104.results.toList = [.cell 4 40] := rfl
  have eM := encStmt_mk
  have hn := ne_new hr
  have hz := ne_new0 hr
  have hn' := ne_new' hr
  unfold stmtF at hq
  have hst : starts l s = false := by simp only [starts, tOut, tReturn, tIf, tWhile, h0, h1, h2, h3, h4, Bool.or_self]
  rw [hst] at hq
  cases hq
  rw [outP_fail hf]
  simp only [go_sem, Nat.reduceBEq, Nat.reduceLeDiff, Nat.reduceEqDiff, Nat.reduceSub, Nat.reduceAdd, Int.reduceEq, Int.reduceLT, Int.reduceLE, Int.reduceAdd]
  have rR : (H.next = r) = False := eq_false (by omega)
  have qR : (r = H.next) = False := eq_false (by omega)
  refine goC_ok (c_isName (s := s) (l := l) (en := en) hlen hf (by first | omega | (simp only [go_sem, Nat.reduceBEq, Nat.reduceLeDiff, Nat.reduceEqDiff, Nat.reduceSub, Nat.reduceAdd, Int.reduceEq, Int.reduceLT, Int.reduceLE, Int.reduceAdd]; omega)) (by first | assumption | simp only [go_sem, Nat.reduceBEq, Nat.reduceLeDiff, Nat.reduceEqDiff, Nat.reduceSub, Nat.reduceAdd, Int.reduceEq, Int.reduceLT, Int.reduceLE, Int.reduceAdd, hg, hn, hz, hn', Nat.add_zero, rR, qR])) ?_
  intro H1 hg1 ha1
  have hl1 := ha1.1
  try simp only [go_sem, Nat.reduceBEq, Nat.reduceLeDiff, Nat.reduceEqDiff, Nat.reduceSub, Nat.reduceAdd, Int.reduceEq, Int.reduceLT, Int.reduceLE, Int.reduceAdd] at hl1
  have hr1 : r < H1.next := by omega
  have hn1 := ne_new hr1
  have hz1 := ne_new0 hr1
  have hx1 := ne_new' hr1
  have bR1 : H1.get (H.next) = some ([.lit (.int .i64 0), .lit (.string (ba [])), .lit (.string (ba [])), .lit (.string (ba [])), .sl .nil [], .sl .nil [], .sl .nil [], .sl .nil []]) := (ha1.get (by first | omega | (simp only [go_sem, Nat.reduceBEq, Nat.reduceLeDiff, Nat.reduceEqDiff, Nat.reduceSub, Nat.reduceAdd, Int.reduceEq, Int.reduceLT, Int.reduceLE, Int.reduceAdd]; omega)) (by omega)).trans (by simp only [go_sem, Nat.reduceBEq, Nat.reduceLeDiff, Nat.reduceEqDiff, Nat.reduceSub, Nat.reduceAdd, Int.reduceEq, Int.reduceLT, Int.reduceLE, Int.reduceAdd, hg, hn, hz, hn', Nat.add_zero, rR, qR])
  have cR1 : ∀ j, (H1.next + j = H.next) = False := fun j => eq_false (by omega)
  have dR1 : (H1.next = H.next) = False := eq_false (by omega)
  have eR1 : ∀ j, (H.next = H1.next + j) = False := fun j => eq_false (by omega)
  simp only [go_sem, Nat.reduceBEq, Nat.reduceLeDiff, Nat.reduceEqDiff, Nat.reduceSub, Nat.reduceAdd, Int.reduceEq, Int.reduceLT, Int.reduceLE, Int.reduceAdd, hg1, hn, hz, hn', Nat.add_zero, hn1, hz1, hx1, bR1, cR1, dR1, eR1, rR, qR, h0]
  refine goC_ok (c_is (s := s) (l := l) (en := en) hlen hf (by first | omega | (simp only [go_sem, Nat.reduceBEq, Nat.reduceLeDiff, Nat.reduceEqDiff, Nat.reduceSub, Nat.reduceAdd, Int.reduceEq, Int.reduceLT, Int.reduceLE, Int.reduceAdd]; omega)) (by first | assumption | simp only [go_sem, Nat.reduceBEq, Nat.reduceLeDiff, Nat.reduceEqDiff, Nat.reduceSub, Nat.reduceAdd, Int.reduceEq, Int.reduceLT, Int.reduceLE, Int.reduceAdd, hg1, hn, hz, hn', Nat.add_zero, hn1, hz1, hx1, bR1, cR1, dR1, eR1, rR, qR]) [111, 117, 116] (by decide)) ?_
  intro H2 hg2 ha2
  have hl2 := ha2.1
  try simp only [go_sem, Nat.reduceBEq, Nat.reduceLeDiff, Nat.reduceEqDiff, Nat.reduceSub, Nat.reduceAdd, Int.reduceEq, Int.reduceLT, Int.reduceLE, Int.reduceAdd] at hl2
  have hr2 : r < H2.next := by omega
  have hn2 := ne_new hr2
  have hz2 := ne_new0 hr2
  have hx2 := ne_new' hr2
  have bR2 : H2.get (H.next) = some ([.lit (.int .i64 0), .lit (.string (ba [])), .lit (.string (ba [])), .lit (.string (ba [])), .sl .nil [], .sl .nil [], .sl .nil [], .sl .nil []]) := (ha2.get (by first | omega | (simp only [go_sem, Nat.reduceBEq, Nat.reduceLeDiff, Nat.reduceEqDiff, Nat.reduceSub, Nat.reduceAdd, Int.reduceEq, Int.reduceLT, Int.reduceLE, Int.reduceAdd]; omega)) (by omega)).trans (by simp only [go_sem, Nat.reduceBEq, Nat.reduceLeDiff, Nat.reduceEqDiff, Nat.reduceSub, Nat.reduceAdd, Int.reduceEq, Int.reduceLT, Int.reduceLE, Int.reduceAdd, hg1, hn, hz, hn', Nat.add_zero, hn1, hz1, hx1, bR1, cR1, dR1, eR1, rR, qR])
  have cR2 : ∀ j, (H2.next + j = H.next) = False := fun j => eq_false (by omega)
  have dR2 : (H2.next = H.next) = False := eq_false (by omega)
  have eR2 : ∀ j, (H.next = H2.next + j) = False := fun j => eq_false (by omega)
  simp only [go_sem, Nat.reduceBEq, Nat.reduceLeDiff, Nat.reduceEqDiff, Nat.reduceSub, Nat.reduceAdd, Int.reduceEq, Int.reduceLT, Int.reduceLE, Int.reduceAdd, hg2, hn, hz, hn', Nat.add_zero, hn2, hz2, hx2, bR2, cR2, dR2, eR2, rR, qR, h1]
  refine goC_ok (c_is (s := s) (l := l) (en := en) hlen hf (by first | omega | (simp only [go_sem, Nat.reduceBEq, Nat.reduceLeDiff, Nat.reduceEqDiff, Nat.reduceSub, Nat.reduceAdd, Int.reduceEq, Int.reduceLT, Int.reduceLE, Int.reduceAdd]; omega)) (by first | assumption | simp only [go_sem, Nat.reduceBEq, Nat.reduceLeDiff, Nat.reduceEqDiff, Nat.reduceSub, Nat.reduceAdd, Int.reduceEq, Int.reduceLT, Int.reduceLE, Int.reduceAdd, hg2, hn, hz, hn', Nat.add_zero, hn2, hz2, hx2, bR2, cR2, dR2, eR2, rR, qR]) [114, 101, 116, 117, 114, 110] (by decide)) ?_
  intro H3 hg3 ha3
  have hl3 := ha3.1
  try simp only [go_sem, Nat.reduceBEq, Nat.reduceLeDiff, Nat.reduceEqDiff, Nat.reduceSub, Nat.reduceAdd, Int.reduceEq, Int.reduceLT, Int.reduceLE, Int.reduceAdd] at hl3
  have hr3 : r < H3.next := by omega
  have hn3 := ne_new hr3
  have hz3 := ne_new0 hr3
  have hx3 := ne_new' hr3
  have bR3 : H3.get (H.next) = some ([.lit (.int .i64 0), .lit (.string (ba [])), .lit (.string (ba [])), .lit (.string (ba [])), .sl .nil [], .sl .nil [], .sl .nil [], .sl .nil []]) := (ha3.get (by first | omega | (simp only [go_sem, Nat.reduceBEq, Nat.reduceLeDiff, Nat.reduceEqDiff, Nat.reduceSub, Nat.reduceAdd, Int.reduceEq, Int.reduceLT, Int.reduceLE, Int.reduceAdd]; omega)) (by omega)).trans (by simp only [go_sem, Nat.reduceBEq, Nat.reduceLeDiff, Nat.reduceEqDiff, Nat.reduceSub, Nat.reduceAdd, Int.reduceEq, Int.reduceLT, Int.reduceLE, Int.reduceAdd, hg2, hn, hz, hn', Nat.add_zero, hn2, hz2, hx2, bR2, cR2, dR2, eR2, rR, qR])
  have cR3 : ∀ j, (H3.next + j = H.next) = False := fun j => eq_false (by omega)
  have dR3 : (H3.next = H.next) = False := eq_false (by omega)
  have eR3 : ∀ j, (H.next = H3.next + j) = False := fun j => eq_false (by omega)
  simp only [go_sem, Nat.reduceBEq, Nat.reduceLeDiff, Nat.reduceEqDiff, Nat.reduceSub, Nat.reduceAdd, Int.reduceEq, Int.reduceLT, Int.reduceLE, Int.reduceAdd, hg3, hn, hz, hn', Nat.add_zero, hn3, hz3, hx3, bR3, cR3, dR3, eR3, rR, qR, h2]
  refine goC_ok (c_is (s := s) (l := l) (en := en) hlen hf (by first | omega | (simp only [go_sem, Nat.reduceBEq, Nat.reduceLeDiff, Nat.reduceEqDiff, Nat.reduceSub, Nat.reduceAdd, Int.reduceEq, Int.reduceLT, Int.reduceLE, Int.reduceAdd]; omega)) (by first | assumption | simp only [go_sem, Nat.reduceBEq, Nat.reduceLeDiff, Nat.reduceEqDiff, Nat.reduceSub, Nat.reduceAdd, Int.reduceEq, Int.reduceLT, Int.reduceLE, Int.reduceAdd, hg3, hn, hz, hn', Nat.add_zero, hn3, hz3, hx3, bR3, cR3, dR3, eR3, rR, qR]) [105, 102] (by decide)) ?_
  intro H4 hg4 ha4
  have hl4 := ha4.1
  try simp only [go_sem, Nat.reduceBEq, Nat.reduceLeDiff, Nat.reduceEqDiff, Nat.reduceSub, Nat.reduceAdd, Int.reduceEq, Int.reduceLT, Int.reduceLE, Int.reduceAdd] at hl4
  have hr4 : r < H4.next := by omega
  have hn4 := ne_new hr4
  have hz4 := ne_new0 hr4
  have hx4 := ne_new' hr4
  have bR4 : H4.get (H.next) = some ([.lit (.int .i64 0), .lit (.string (ba [])), .lit (.string (ba [])), .lit (.string (ba [])), .sl .nil [], .sl .nil [], .sl .nil [], .sl .nil []]) := (ha4.get (by first | omega | (simp only [go_sem, Nat.reduceBEq, Nat.reduceLeDiff, Nat.reduceEqDiff, Nat.reduceSub, Nat.reduceAdd, Int.reduceEq, Int.reduceLT, Int.reduceLE, Int.reduceAdd]; omega)) (by omega)).trans (by simp only [go_sem, Nat.reduceBEq, Nat.reduceLeDiff, Nat.reduceEqDiff, Nat.reduceSub, Nat.reduceAdd, Int.reduceEq, Int.reduceLT, Int.reduceLE, Int.reduceAdd, hg3, hn, hz, hn', Nat.add_zero, hn3, hz3, hx3, bR3, cR3, dR3, eR3, rR, qR])
  have cR4 : ∀ j, (H4.next + j = H.next) = False := fun j => eq_false (by omega)
  have dR4 : (H4.next = H.next) = False := eq_false (by omega)
  have eR4 : ∀ j, (H.next = H4.next + j) = False := fun j => eq_false (by omega)
  simp only [go_sem, Nat.reduceBEq, Nat.reduceLeDiff, Nat.reduceEqDiff, Nat.reduceSub, Nat.reduceAdd, Int.reduceEq, Int.reduceLT, Int.reduceLE, Int.reduceAdd, hg4, hn, hz, hn', Nat.add_zero, hn4, hz4, hx4, bR4, cR4, dR4, eR4, rR, qR, h3]
  refine goC_ok (c_is (s := s) (l := l) (en := en) hlen hf (by first | omega | (simp only [go_sem, Nat.reduceBEq, Nat.reduceLeDiff, Nat.reduceEqDiff, Nat.reduceSub, Nat.reduceAdd, Int.reduceEq, Int.reduceLT, Int.reduceLE, Int.reduceAdd]; omega)) (by first | assumption | simp only [go_sem, Nat.reduceBEq, Nat.reduceLeDiff, Nat.reduceEqDiff, Nat.reduceSub, Nat.reduceAdd, Int.reduceEq, Int.reduceLT, Int.reduceLE, Int.reduceAdd, hg4, hn, hz, hn', Nat.add_zero, hn4, hz4, hx4, bR4, cR4, dR4, eR4, rR, qR]) [119, 104, 105, 108, 101] (by decide)) ?_
  intro H5 hg5 ha5
  have hl5 := ha5.1
  try simp only [go_sem, Nat.reduceBEq, Nat.reduceLeDiff, Nat.reduceEqDiff, Nat.reduceSub, Nat.reduceAdd, Int.reduceEq, Int.reduceLT, Int.reduceLE, Int.reduceAdd] at hl5
  have hr5 : r < H5.next := by omega
  have hn5 := ne_new hr5
  have hz5 := ne_new0 hr5
  have hx5 := ne_new' hr5
  have bR5 : H5.get (H.next) = some ([.lit (.int .i64 0), .lit (.string (ba [])), .lit (.string (ba [])), .lit (.string (ba [])), .sl .nil [], .sl .nil [], .sl .nil [], .sl .nil []]) := (ha5.get (by first | omega | (simp only [go_sem, Nat.reduceBEq, Nat.reduceLeDiff, Nat.reduceEqDiff, Nat.reduceSub, Nat.reduceAdd, Int.reduceEq, Int.reduceLT, Int.reduceLE, Int.reduceAdd]; omega)) (by omega)).trans (by simp only [go_sem, Nat.reduceBEq, Nat.reduceLeDiff, Nat.reduceEqDiff, Nat.reduceSub, Nat.reduceAdd, Int.reduceEq, Int.reduceLT, Int.reduceLE, Int.reduceAdd, hg4, hn, hz, hn', Nat.add_zero, hn4, hz4, hx4, bR4, cR4, dR4, eR4, rR, qR])
  have cR5 : ∀ j, (H5.next + j = H.next) = False := fun j => eq_false (by omega)
  have dR5 : (H5.next = H.next) = False := eq_false (by omega)
  have eR5 : ∀ j, (H.next = H5.next + j) = False := fun j => eq_false (by omega)
  simp only [go_sem, Nat.reduceBEq, Nat.reduceLeDiff, Nat.reduceEqDiff, Nat.reduceSub, Nat.reduceAdd, Int.reduceEq, Int.reduceLT, Int.reduceLE, Int.reduceAdd, hg5, hn, hz, hn', Nat.add_zero, hn5, hz5, hx5, bR5, cR5, dR5, eR5, rR, qR, h4]
  refine goC_bad (c_fail (s := s) (l := l) (en := en) (by first | omega | (simp only [go_sem, Nat.reduceBEq, Nat.reduceLeDiff, Nat.reduceEqDiff, Nat.reduceSub, Nat.reduceAdd, Int.reduceEq, Int.reduceLT, Int.reduceLE, Int.reduceAdd]; omega)) (by first | assumption | simp only [go_sem, Nat.reduceBEq, Nat.reduceLeDiff, Nat.reduceEqDiff, Nat.reduceSub, Nat.reduceAdd, Int.reduceEq, Int.reduceLT, Int.reduceLE, Int.reduceAdd, hg5, hn, hz, hn', Nat.add_zero, hn5, hz5, hx5, bR5, cR5, dR5, eR5, rR, qR]) 0 rfl) ?_
  intro H9 had
  simp only [go_sem, Nat.reduceBEq, Nat.reduceLeDiff, Nat.reduceEqDiff, Nat.reduceSub, Nat.reduceAdd, Int.reduceEq, Int.reduceLT, Int.reduceLE, Int.reduceAdd, hg5, hn, hz, hn', Nat.add_zero, hn5, hz5, hx5, bR5, cR5, dR5, eR5, rR, qR, san_trouble]
  (repeat first | exact Adv.refl _ _ | assumption | refine Adv.trans ?_ had | refine Adv.trans ?_ ha1 | refine Adv.trans ?_ ha2 | refine Adv.trans ?_ ha3 | refine Adv.trans ?_ ha4 | refine Adv.trans ?_ ha5 | refine Adv.trans ?_ ha6 | refine Adv.trans ?_ ha7 | refine Adv.trans ?_ ha8 | refine Adv.trans ?_ ha9 | refine Adv.trans ?_ ha10 | refine Adv.trans ?_ ha11 | refine Adv.trans ?_ ha12 | apply Adv.up | apply Adv.put | refine Adv.new ?_ (by omega) _ | refine Adv.live ?_ (by omega) _ | refine Adv.owns ?_ (by omega) (by first | exact OwnB.lo ‹_› | exact fun _ _ _ h => by cases h))
theorem c_stmt (hlen : l.length ≤ LM) (n : Nat) (ihb : PBlockOk l en n) : PStmtOk l en (n + 1) := by
  intro r s deep H hn hdeep hf hr hg
  rcases begins (l := l) s with ⟨h0, h1, h2, h3, h4⟩ | ⟨h0, h1, h2, h3, h4⟩ | ⟨h0, h1, h2, h3, h4⟩ | ⟨h0, h1, h2, h3, h4⟩ | ⟨h0, h1, h2, h3, h4⟩ | ⟨h0, h1, h2, h3, h4⟩
  · exact c_stmt0 hlen n ihb deep hn hdeep h0 h1 h2 h3 h4 hf hr hg
  · exact c_stmt1 hlen n ihb deep hn hdeep h0 h1 h2 h3 h4 hf hr hg
  · exact c_stmt2 hlen n ihb deep hn hdeep h0 h1 h2 h3 h4 hf hr hg
  · exact c_stmt3 hlen n ihb deep hn hdeep h0 h1 h2 h3 h4 hf hr hg
  · exact c_stmt4 hlen n ihb deep hn hdeep h0 h1 h2 h3 h4 hf hr hg
  · exact c_stmt5 hlen n ihb deep hn hdeep h0 h1 h2 h3 h4 hf hr hg
end
end Go.Proofs.YtghhkbigmmjanaaGreatDoor.VA
