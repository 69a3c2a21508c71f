/- What is proved: what the parser's value answers, or panics with, in the abstract interpreter (VA). Condition: no more tokens than a machine holds. -/
import Derived.Test.YtghhkbigmmjanaaGreatDoorM7
/-! Pe8 -/
namespace Go.Proofs.YtghhkbigmmjanaaGreatDoor.VA
open Go Go.RowKit
attribute [local go_sem] Nat.add_eq_left Nat.left_eq_add true_and and_true ite_true if_false Int.cast_ofNat_Int eq_self Nat.add_assoc Option.some.injEq decide_true decide_false Bool.not_true Bool.not_false List.size_toArray List.length_cons List.length_nil
set_option linter.unusedSimpArgs false
set_option maxRecDepth 100000

section
variable {l : List GTok} {en : Int} {r : Nat} {s : PS} {H : Heap}
theorem app_ex1 (o p : Opd) (H : Heap) (id : Nat) : aAppend Tryz.prog 36 (.sl .ex [encOpd o]) (.sl .ex [encOpd p]) H id = some (.sl (.own id 50 3) [encOpd o, encOpd p], [.live id true], []) := by
  simp only [aAppend, el_sOpd, encOpd]
  rw [if_pos ⟨rfl, by decide, zo_sOpd, by simp, by simp⟩]
  simp [firstLen, sanLL, sanL, san]
theorem signIx {i : Nat} (h : i < 5) : iad (some (9, 1, 16)) (.sl .ex (arith.map encStr)) (some i) = some (.ep (encStr (arith.getD i []))) := iad_encStr (l := arith) h
theorem sign_ne (i : Nat) (h : i < 5) : arith.getD i [] ≠ [] := by
  match i with
  | 0 => decide
  | 1 => decide
  | 2 => decide
  | 3 => decide
  | 4 => decide
set_option maxRecDepth 20000 in
theorem c_value (hlen : l.length ≤ LM) (hf : s.f = none) (hr : r < H.next) (hg : H.get r = some (cP l en s)) :
    PCall Tryz.prog cfg r 123 [.ptr r 0] H (outP l en (value l en s).1 (.agg (encStmt (value l en s).2))) := by
  obtain ⟨q1, q2, hq⟩ : ∃ q1 q2, value l en s = (q1, q2) := ⟨_, _, rfl⟩
  rw [hq]
  show PCall _ _ _ _ _ _ (outP l en q1 (.agg (encStmt q2)))
  refine PCall_of' (fn := Tryz.f123) rfl rfl rfl rfl rfl ?_
  have rs : Tryz.f123.results.toList = [.cell 2 40] := rfl
  have eM := encStmt_mk
  have hn := ne_new hr
  have hz := ne_new0 hr
  have hn' := ne_new' hr
  unfold value at hq
  simp only [go_sem, Nat.reduceBEq, Nat.reduceLeDiff, Nat.reduceEqDiff, Nat.reduceSub, Nat.reduceAdd, Int.reduceEq, Int.reduceLT, Int.reduceLE, Int.reduceAdd]
  have rR : (H.next = r) = False := eq_false (by omega)
  have qR : (r = H.next) = False := eq_false (by omega)
  cases h1 : isT l s [105, 110] with
  | true =>
    rw [show isT l s tIn = true from h1] at hq
    cases hq
    rw [outP_none (show s.adv.f = none from hf)]
    refine goC_ok (c_take_yes (s := s) (l := l) (en := en) hlen hf (by first | omega | (simp only [go_sem, Nat.reduceBEq, Nat.reduceLeDiff, Nat.reduceEqDiff, Nat.reduceSub, Nat.reduceAdd, Int.reduceEq, Int.reduceLT, Int.reduceLE, Int.reduceAdd]; omega)) (by first | assumption | simp only [go_sem, Nat.reduceBEq, Nat.reduceLeDiff, Nat.reduceEqDiff, Nat.reduceSub, Nat.reduceAdd, Int.reduceEq, Int.reduceLT, Int.reduceLE, Int.reduceAdd, hg, hn, hz, hn', Nat.add_zero, rR, qR]) (by decide) h1) ?_
    intro H1 hg1 ha1
    have hl1 := ha1.1
    try simp only [go_sem, Nat.reduceBEq, Nat.reduceLeDiff, Nat.reduceEqDiff, Nat.reduceSub, Nat.reduceAdd, Int.reduceEq, Int.reduceLT, Int.reduceLE, Int.reduceAdd] at hl1
    have hr1 : r < H1.next := by omega
    have hn1 := ne_new hr1
    have hz1 := ne_new0 hr1
    have hx1 := ne_new' hr1
    have bR1 : H1.get (H.next) = some ([.lit (.int .i64 0), .lit (.string (ba [])), .lit (.string (ba [])), .lit (.string (ba [])), .sl .nil [], .sl .nil [], .sl .nil [], .sl .nil []]) := (ha1.get (by first | omega | (simp only [go_sem, Nat.reduceBEq, Nat.reduceLeDiff, Nat.reduceEqDiff, Nat.reduceSub, Nat.reduceAdd, Int.reduceEq, Int.reduceLT, Int.reduceLE, Int.reduceAdd]; omega)) (by omega)).trans (by simp only [go_sem, Nat.reduceBEq, Nat.reduceLeDiff, Nat.reduceEqDiff, Nat.reduceSub, Nat.reduceAdd, Int.reduceEq, Int.reduceLT, Int.reduceLE, Int.reduceAdd, hg, hn, hz, hn', Nat.add_zero, rR, qR])
    have cR1 : ∀ j, (H1.next + j = H.next) = False := fun j => eq_false (by omega)
    have dR1 : (H1.next = H.next) = False := eq_false (by omega)
    have eR1 : ∀ j, (H.next = H1.next + j) = False := fun j => eq_false (by omega)
    simp only [go_sem, Nat.reduceBEq, Nat.reduceLeDiff, Nat.reduceEqDiff, Nat.reduceSub, Nat.reduceAdd, Int.reduceEq, Int.reduceLT, Int.reduceLE, Int.reduceAdd, hg1, hn, hz, hn', Nat.add_zero, hn1, hz1, hx1, bR1, cR1, dR1, eR1, rR, qR, rs, eM, List.map_nil]
    (repeat first | exact Adv.refl _ _ | assumption | refine Adv.trans ?_ had | refine Adv.trans ?_ ha1 | refine Adv.trans ?_ ha2 | refine Adv.trans ?_ ha3 | refine Adv.trans ?_ ha4 | refine Adv.trans ?_ ha5 | refine Adv.trans ?_ ha6 | refine Adv.trans ?_ ha7 | refine Adv.trans ?_ ha8 | refine Adv.trans ?_ ha9 | refine Adv.trans ?_ ha10 | refine Adv.trans ?_ ha11 | refine Adv.trans ?_ ha12 | apply Adv.up | apply Adv.put | refine Adv.new ?_ (by omega) _ | refine Adv.live ?_ (by omega) _ | refine Adv.owns ?_ (by omega) (by first | exact OwnB.lo ‹_› | exact fun _ _ _ h => by cases h))
  | false =>
  rw [show isT l s tIn = false from h1] at hq
  simp only at hq
  refine goC_ok (c_take_no (s := s) (l := l) (en := en) hlen hf (by first | omega | (simp only [go_sem, Nat.reduceBEq, Nat.reduceLeDiff, Nat.reduceEqDiff, Nat.reduceSub, Nat.reduceAdd, Int.reduceEq, Int.reduceLT, Int.reduceLE, Int.reduceAdd]; omega)) (by first | assumption | simp only [go_sem, Nat.reduceBEq, Nat.reduceLeDiff, Nat.reduceEqDiff, Nat.reduceSub, Nat.reduceAdd, Int.reduceEq, Int.reduceLT, Int.reduceLE, Int.reduceAdd, hg, hn, hz, hn', Nat.add_zero, rR, qR]) (by decide) h1) ?_
  intro H1 hg1 ha1
  have hl1 := ha1.1
  try simp only [go_sem, Nat.reduceBEq, Nat.reduceLeDiff, Nat.reduceEqDiff, Nat.reduceSub, Nat.reduceAdd, Int.reduceEq, Int.reduceLT, Int.reduceLE, Int.reduceAdd] at hl1
  have hr1 : r < H1.next := by omega
  have hn1 := ne_new hr1
  have hz1 := ne_new0 hr1
  have hx1 := ne_new' hr1
  have bR1 : H1.get (H.next) = some ([.lit (.int .i64 0), .lit (.string (ba [])), .lit (.string (ba [])), .lit (.string (ba [])), .sl .nil [], .sl .nil [], .sl .nil [], .sl .nil []]) := (ha1.get (by first | omega | (simp only [go_sem, Nat.reduceBEq, Nat.reduceLeDiff, Nat.reduceEqDiff, Nat.reduceSub, Nat.reduceAdd, Int.reduceEq, Int.reduceLT, Int.reduceLE, Int.reduceAdd]; omega)) (by omega)).trans (by simp only [go_sem, Nat.reduceBEq, Nat.reduceLeDiff, Nat.reduceEqDiff, Nat.reduceSub, Nat.reduceAdd, Int.reduceEq, Int.reduceLT, Int.reduceLE, Int.reduceAdd, hg, hn, hz, hn', Nat.add_zero, rR, qR])
  have cR1 : ∀ j, (H1.next + j = H.next) = False := fun j => eq_false (by omega)
  have dR1 : (H1.next = H.next) = False := eq_false (by omega)
  have eR1 : ∀ j, (H.next = H1.next + j) = False := fun j => eq_false (by omega)
  simp only [go_sem, Nat.reduceBEq, Nat.reduceLeDiff, Nat.reduceEqDiff, Nat.reduceSub, Nat.reduceAdd, Int.reduceEq, Int.reduceLT, Int.reduceLE, Int.reduceAdd, hg1, hn, hz, hn', Nat.add_zero, hn1, hz1, hx1, bR1, cR1, dR1, eR1, rR, qR]
  cases h2 : isT l s [99, 97, 108, 108] with
  | true =>
    rw [show isT l s tCall = true from h2] at hq
    cases hq
    refine goC_ok (c_take_yes (s := s) (l := l) (en := en) hlen hf (by first | omega | (simp only [go_sem, Nat.reduceBEq, Nat.reduceLeDiff, Nat.reduceEqDiff, Nat.reduceSub, Nat.reduceAdd, Int.reduceEq, Int.reduceLT, Int.reduceLE, Int.reduceAdd]; omega)) (by first | assumption | simp only [go_sem, Nat.reduceBEq, Nat.reduceLeDiff, Nat.reduceEqDiff, Nat.reduceSub, Nat.reduceAdd, Int.reduceEq, Int.reduceLT, Int.reduceLE, Int.reduceAdd, hg1, hn, hz, hn', Nat.add_zero, hn1, hz1, hx1, bR1, cR1, dR1, eR1, rR, qR]) (by decide) h2) ?_
    intro H2 hg2 ha2
    have hl2 := ha2.1
    try simp only [go_sem, Nat.reduceBEq, Nat.reduceLeDiff, Nat.reduceEqDiff, Nat.reduceSub, Nat.reduceAdd, Int.reduceEq, Int.reduceLT, Int.reduceLE, Int.reduceAdd] at hl2
    have hr2 : r < H2.next := by omega
    have hn2 := ne_new hr2
    have hz2 := ne_new0 hr2
    have hx2 := ne_new' hr2
    have bR2 : H2.get (H.next) = some ([.lit (.int .i64 0), .lit (.string (ba [])), .lit (.string (ba [])), .lit (.string (ba [])), .sl .nil [], .sl .nil [], .sl .nil [], .sl .nil []]) := (ha2.get (by first | omega | (simp only [go_sem, Nat.reduceBEq, Nat.reduceLeDiff, Nat.reduceEqDiff, Nat.reduceSub, Nat.reduceAdd, Int.reduceEq, Int.reduceLT, Int.reduceLE, Int.reduceAdd]; omega)) (by omega)).trans (by simp only [go_sem, Nat.reduceBEq, Nat.reduceLeDiff, Nat.reduceEqDiff, Nat.reduceSub, Nat.reduceAdd, Int.reduceEq, Int.reduceLT, Int.reduceLE, Int.reduceAdd, hg1, hn, hz, hn', Nat.add_zero, hn1, hz1, hx1, bR1, cR1, dR1, eR1, rR, qR])
    have cR2 : ∀ j, (H2.next + j = H.next) = False := fun j => eq_false (by omega)
    have dR2 : (H2.next = H.next) = False := eq_false (by omega)
    have eR2 : ∀ j, (H.next = H2.next + j) = False := fun j => eq_false (by omega)
    simp only [go_sem, Nat.reduceBEq, Nat.reduceLeDiff, Nat.reduceEqDiff, Nat.reduceSub, Nat.reduceAdd, Int.reduceEq, Int.reduceLT, Int.reduceLE, Int.reduceAdd, hg2, hn, hz, hn', Nat.add_zero, hn2, hz2, hx2, bR2, cR2, dR2, eR2, rR, qR]
    refine goC_out (c_name (s := s.adv) (l := l) (en := en) hlen hf (by first | omega | (simp only [go_sem, Nat.reduceBEq, Nat.reduceLeDiff, Nat.reduceEqDiff, Nat.reduceSub, Nat.reduceAdd, Int.reduceEq, Int.reduceLT, Int.reduceLE, Int.reduceAdd]; omega)) (by first | assumption | simp only [go_sem, Nat.reduceBEq, Nat.reduceLeDiff, Nat.reduceEqDiff, Nat.reduceSub, Nat.reduceAdd, Int.reduceEq, Int.reduceLT, Int.reduceLE, Int.reduceAdd, hg2, hn, hz, hn', Nat.add_zero, hn2, hz2, hx2, bR2, cR2, dR2, eR2, rR, qR])) ?_ ?_
    case refine_2 =>
      intro q hq H9 had
      rw [outP_some (show (args l en (nameP l en s.adv).1).1.f = some q by rw [args_bad (ok_some hq)]; exact hq)]
      simp only [go_sem, Nat.reduceBEq, Nat.reduceLeDiff, Nat.reduceEqDiff, Nat.reduceSub, Nat.reduceAdd, Int.reduceEq, Int.reduceLT, Int.reduceLE, Int.reduceAdd, san_trouble]
      (repeat first | exact Adv.refl _ _ | assumption | refine Adv.trans ?_ had | refine Adv.trans ?_ ha1 | refine Adv.trans ?_ ha20 | refine Adv.trans ?_ ha21 | refine Adv.trans ?_ ha22 | refine Adv.trans ?_ ha23 | refine Adv.trans ?_ ha2 | refine Adv.trans ?_ ha3 | refine Adv.trans ?_ ha4 | refine Adv.trans ?_ ha5 | refine Adv.trans ?_ ha6 | refine Adv.trans ?_ ha7 | refine Adv.trans ?_ ha8 | refine Adv.trans ?_ ha9 | refine Adv.trans ?_ ha10 | refine Adv.trans ?_ ha11 | refine Adv.trans ?_ ha12 | apply Adv.up | apply Adv.put | refine Adv.new ?_ (by omega) _ | refine Adv.live ?_ (by omega) _ | refine Adv.owns ?_ (by omega) (by first | exact OwnB.lo ‹_› | exact fun _ _ _ h => by cases h))
    intro hf3 H3 hg3 ha3
    have hl3 := ha3.1
    try simp only [go_sem, Nat.reduceBEq, Nat.reduceLeDiff, Nat.reduceEqDiff, Nat.reduceSub, Nat.reduceAdd, Int.reduceEq, Int.reduceLT, Int.reduceLE, Int.reduceAdd] at hl3
    have hr3 : r < H3.next := by omega
    have hn3 := ne_new hr3
    have hz3 := ne_new0 hr3
    have hx3 := ne_new' hr3
    have bR3 : H3.get (H.next) = some ([.lit (.int .i64 0), .lit (.string (ba [])), .lit (.string (ba [])), .lit (.string (ba [])), .sl .nil [], .sl .nil [], .sl .nil [], .sl .nil []]) := (ha3.get (by first | omega | (simp only [go_sem, Nat.reduceBEq, Nat.reduceLeDiff, Nat.reduceEqDiff, Nat.reduceSub, Nat.reduceAdd, Int.reduceEq, Int.reduceLT, Int.reduceLE, Int.reduceAdd]; omega)) (by omega)).trans (by simp only [go_sem, Nat.reduceBEq, Nat.reduceLeDiff, Nat.reduceEqDiff, Nat.reduceSub, Nat.reduceAdd, Int.reduceEq, Int.reduceLT, Int.reduceLE, Int.reduceAdd, hg2, hn, hz, hn', Nat.add_zero, hn2, hz2, hx2, bR2, cR2, dR2, eR2, rR, qR])
    have cR3 : ∀ j, (H3.next + j = H.next) = False := fun j => eq_false (by omega)
    have dR3 : (H3.next = H.next) = False := eq_false (by omega)
    have eR3 : ∀ j, (H.next = H3.next + j) = False := fun j => eq_false (by omega)
    have pSR : (H2.next + 3 = H.next) = False := eq_false (by omega)
    have pRS : (H.next = H2.next + 3) = False := eq_false (by omega)
    have rS : (H2.next + 3 = r) = False := eq_false (by omega)
    have qS : (r = H2.next + 3) = False := eq_false (by omega)
    simp only [go_sem, Nat.reduceBEq, Nat.reduceLeDiff, Nat.reduceEqDiff, Nat.reduceSub, Nat.reduceAdd, Int.reduceEq, Int.reduceLT, Int.reduceLE, Int.reduceAdd, hg3, hn, hz, hn', Nat.add_zero, hn3, hz3, hx3, bR3, cR3, dR3, eR3, rR, qR, pRS, rS, qS, pSR]
    refine goC_out (c_args (s := (nameP l en s.adv).1) (l := l) (en := en) hlen hf3 (by first | omega | (simp only [go_sem, Nat.reduceBEq, Nat.reduceLeDiff, Nat.reduceEqDiff, Nat.reduceSub, Nat.reduceAdd, Int.reduceEq, Int.reduceLT, Int.reduceLE, Int.reduceAdd]; omega)) (by first | assumption | simp only [go_sem, Nat.reduceBEq, Nat.reduceLeDiff, Nat.reduceEqDiff, Nat.reduceSub, Nat.reduceAdd, Int.reduceEq, Int.reduceLT, Int.reduceLE, Int.reduceAdd, hg3, hn, hz, hn', Nat.add_zero, hn3, hz3, hx3, bR3, cR3, dR3, eR3, rR, qR, pRS, rS, qS, pSR])) ?_ ?_
    case refine_2 =>
      intro q hq H9 had
      rw [outP_some (show (args l en (nameP l en s.adv).1).1.f = some q by exact hq)]
      simp only [go_sem, Nat.reduceBEq, Nat.reduceLeDiff, Nat.reduceEqDiff, Nat.reduceSub, Nat.reduceAdd, Int.reduceEq, Int.reduceLT, Int.reduceLE, Int.reduceAdd, san_trouble]
      (repeat first | exact Adv.refl _ _ | assumption | refine Adv.trans ?_ had | refine Adv.trans ?_ ha1 | refine Adv.trans ?_ ha20 | refine Adv.trans ?_ ha21 | refine Adv.trans ?_ ha22 | refine Adv.trans ?_ ha23 | refine Adv.trans ?_ ha2 | refine Adv.trans ?_ ha3 | refine Adv.trans ?_ ha4 | refine Adv.trans ?_ ha5 | refine Adv.trans ?_ ha6 | refine Adv.trans ?_ ha7 | refine Adv.trans ?_ ha8 | refine Adv.trans ?_ ha9 | refine Adv.trans ?_ ha10 | refine Adv.trans ?_ ha11 | refine Adv.trans ?_ ha12 | apply Adv.up | apply Adv.put | refine Adv.new ?_ (by omega) _ | refine Adv.live ?_ (by omega) _ | refine Adv.owns ?_ (by omega) (by first | exact OwnB.lo ‹_› | exact fun _ _ _ h => by cases h))
    intro hf4 H4 hg4 ha4
    have hl4 := ha4.1
    try simp only [go_sem, Nat.reduceBEq, Nat.reduceLeDiff, Nat.reduceEqDiff, Nat.reduceSub, Nat.reduceAdd, Int.reduceEq, Int.reduceLT, Int.reduceLE, Int.reduceAdd] at hl4
    have hr4 : r < H4.next := by omega
    have hn4 := ne_new hr4
    have hz4 := ne_new0 hr4
    have hx4 := ne_new' hr4
    have bR4 : H4.get (H.next) = some ([.lit (.int .i64 0), .lit (.string (ba [])), .lit (.string (ba [])), .lit (.string (ba [])), .sl .nil [], .sl .nil [], .sl .nil [], .sl .nil []]) := (ha4.get (by first | omega | (simp only [go_sem, Nat.reduceBEq, Nat.reduceLeDiff, Nat.reduceEqDiff, Nat.reduceSub, Nat.reduceAdd, Int.reduceEq, Int.reduceLT, Int.reduceLE, Int.reduceAdd]; omega)) (by omega)).trans (by simp only [go_sem, Nat.reduceBEq, Nat.reduceLeDiff, Nat.reduceEqDiff, Nat.reduceSub, Nat.reduceAdd, Int.reduceEq, Int.reduceLT, Int.reduceLE, Int.reduceAdd, hg3, hn, hz, hn', Nat.add_zero, hn3, hz3, hx3, bR3, cR3, dR3, eR3, rR, qR, pRS, rS, qS, pSR])
    have cR4 : ∀ j, (H4.next + j = H.next) = False := fun j => eq_false (by omega)
    have dR4 : (H4.next = H.next) = False := eq_false (by omega)
    have eR4 : ∀ j, (H.next = H4.next + j) = False := fun j => eq_false (by omega)
    have bS4 : H4.get (H2.next + 3) = some ([.lit (.int .i64 5), .lit (.string (ba [])), .lit (.string (ba [])), .lit (.string (ba (nameP l en s.adv).2)), .sl .nil [], .sl .nil [], .sl .nil [], .sl .nil []]) := (ha4.get (by first | omega | (simp only [go_sem, Nat.reduceBEq, Nat.reduceLeDiff, Nat.reduceEqDiff, Nat.reduceSub, Nat.reduceAdd, Int.reduceEq, Int.reduceLT, Int.reduceLE, Int.reduceAdd]; omega)) (by omega)).trans (by simp only [go_sem, Nat.reduceBEq, Nat.reduceLeDiff, Nat.reduceEqDiff, Nat.reduceSub, Nat.reduceAdd, Int.reduceEq, Int.reduceLT, Int.reduceLE, Int.reduceAdd, hg3, hn, hz, hn', Nat.add_zero, hn3, hz3, hx3, bR3, cR3, dR3, eR3, rR, qR, pRS, rS, qS, pSR])
    have cS4 : ∀ j, (H4.next + j = H2.next + 3) = False := fun j => eq_false (by omega)
    have dS4 : (H4.next = H2.next + 3) = False := eq_false (by omega)
    have eS4 : ∀ j, (H2.next + 3 = H4.next + j) = False := fun j => eq_false (by omega)
    rw [outP_none hf4]
    simp only [go_sem, Nat.reduceBEq, Nat.reduceLeDiff, Nat.reduceEqDiff, Nat.reduceSub, Nat.reduceAdd, Int.reduceEq, Int.reduceLT, Int.reduceLE, Int.reduceAdd, hg4, hn, hz, hn', Nat.add_zero, hn4, hz4, hx4, bR4, cR4, dR4, eR4, rR, qR, pRS, bS4, cS4, dS4, eS4, rS, qS, pSR, rs, eM, List.map_nil]
    (repeat first | exact Adv.refl _ _ | assumption | refine Adv.trans ?_ had | refine Adv.trans ?_ ha1 | refine Adv.trans ?_ ha2 | refine Adv.trans ?_ ha3 | refine Adv.trans ?_ ha4 | refine Adv.trans ?_ ha5 | refine Adv.trans ?_ ha6 | refine Adv.trans ?_ ha7 | refine Adv.trans ?_ ha8 | refine Adv.trans ?_ ha9 | refine Adv.trans ?_ ha10 | refine Adv.trans ?_ ha11 | refine Adv.trans ?_ ha12 | apply Adv.up | apply Adv.put | refine Adv.new ?_ (by omega) _ | refine Adv.live ?_ (by omega) _ | refine Adv.owns ?_ (by omega) (by first | exact OwnB.lo ‹_› | exact fun _ _ _ h => by cases h))
  | false =>
  rw [show isT l s tCall = false from h2] at hq
  simp only at hq
  refine goC_ok (c_take_no (s := s) (l := l) (en := en) hlen hf (by first | omega | (simp only [go_sem, Nat.reduceBEq, Nat.reduceLeDiff, Nat.reduceEqDiff, Nat.reduceSub, Nat.reduceAdd, Int.reduceEq, Int.reduceLT, Int.reduceLE, Int.reduceAdd]; omega)) (by first | assumption | simp only [go_sem, Nat.reduceBEq, Nat.reduceLeDiff, Nat.reduceEqDiff, Nat.reduceSub, Nat.reduceAdd, Int.reduceEq, Int.reduceLT, Int.reduceLE, Int.reduceAdd, hg1, hn, hz, hn', Nat.add_zero, hn1, hz1, hx1, bR1, cR1, dR1, eR1, rR, qR]) (by decide) h2) ?_
  intro H2 hg2 ha2
  have hl2 := ha2.1
  try simp only [go_sem, Nat.reduceBEq, Nat.reduceLeDiff, Nat.reduceEqDiff, Nat.reduceSub, Nat.reduceAdd, Int.reduceEq, Int.reduceLT, Int.reduceLE, Int.reduceAdd] at hl2
  have hr2 : r < H2.next := by omega
  have hn2 := ne_new hr2
  have hz2 := ne_new0 hr2
  have hx2 := ne_new' hr2
  have bR2 : H2.get (H.next) = some ([.lit (.int .i64 0), .lit (.string (ba [])), .lit (.string (ba [])), .lit (.string (ba [])), .sl .nil [], .sl .nil [], .sl .nil [], .sl .nil []]) := (ha2.get (by first | omega | (simp only [go_sem, Nat.reduceBEq, Nat.reduceLeDiff, Nat.reduceEqDiff, Nat.reduceSub, Nat.reduceAdd, Int.reduceEq, Int.reduceLT, Int.reduceLE, Int.reduceAdd]; omega)) (by omega)).trans (by simp only [go_sem, Nat.reduceBEq, Nat.reduceLeDiff, Nat.reduceEqDiff, Nat.reduceSub, Nat.reduceAdd, Int.reduceEq, Int.reduceLT, Int.reduceLE, Int.reduceAdd, hg1, hn, hz, hn', Nat.add_zero, hn1, hz1, hx1, bR1, cR1, dR1, eR1, rR, qR])
  have cR2 : ∀ j, (H2.next + j = H.next) = False := fun j => eq_false (by omega)
  have dR2 : (H2.next = H.next) = False := eq_false (by omega)
  have eR2 : ∀ j, (H.next = H2.next + j) = False := fun j => eq_false (by omega)
  simp only [go_sem, Nat.reduceBEq, Nat.reduceLeDiff, Nat.reduceEqDiff, Nat.reduceSub, Nat.reduceAdd, Int.reduceEq, Int.reduceLT, Int.reduceLE, Int.reduceAdd, hg2, hn, hz, hn', Nat.add_zero, hn2, hz2, hx2, bR2, cR2, dR2, eR2, rR, qR]
  cases h3 : isT l s [110, 101, 119] with
  | true =>
    rw [show isT l s tNew = true from h3] at hq
    simp only at hq
    have hq1 : q1 = (object l en s.adv).1 := by rw [hq]
    have hq2 : q2 = (object l en s.adv).2 := by rw [hq]
    subst hq1
    subst hq2
    refine goC_ok (c_take_yes (s := s) (l := l) (en := en) hlen hf (by first | omega | (simp only [go_sem, Nat.reduceBEq, Nat.reduceLeDiff, Nat.reduceEqDiff, Nat.reduceSub, Nat.reduceAdd, Int.reduceEq, Int.reduceLT, Int.reduceLE, Int.reduceAdd]; omega)) (by first | assumption | simp only [go_sem, Nat.reduceBEq, Nat.reduceLeDiff, Nat.reduceEqDiff, Nat.reduceSub, Nat.reduceAdd, Int.reduceEq, Int.reduceLT, Int.reduceLE, Int.reduceAdd, hg2, hn, hz, hn', Nat.add_zero, hn2, hz2, hx2, bR2, cR2, dR2, eR2, rR, qR]) (by decide) h3) ?_
    intro H3 hg3 ha3
    have hl3 := ha3.1
    try simp only [go_sem, Nat.reduceBEq, Nat.reduceLeDiff, Nat.reduceEqDiff, Nat.reduceSub, Nat.reduceAdd, Int.reduceEq, Int.reduceLT, Int.reduceLE, Int.reduceAdd] at hl3
    have hr3 : r < H3.next := by omega
    have hn3 := ne_new hr3
    have hz3 := ne_new0 hr3
    have hx3 := ne_new' hr3
    have bR3 : H3.get (H.next) = some ([.lit (.int .i64 0), .lit (.string (ba [])), .lit (.string (ba [])), .lit (.string (ba [])), .sl .nil [], .sl .nil [], .sl .nil [], .sl .nil []]) := (ha3.get (by first | omega | (simp only [go_sem, Nat.reduceBEq, Nat.reduceLeDiff, Nat.reduceEqDiff, Nat.reduceSub, Nat.reduceAdd, Int.reduceEq, Int.reduceLT, Int.reduceLE, Int.reduceAdd]; omega)) (by omega)).trans (by simp only [go_sem, Nat.reduceBEq, Nat.reduceLeDiff, Nat.reduceEqDiff, Nat.reduceSub, Nat.reduceAdd, Int.reduceEq, Int.reduceLT, Int.reduceLE, Int.reduceAdd, hg2, hn, hz, hn', Nat.add_zero, hn2, hz2, hx2, bR2, cR2, dR2, eR2, rR, qR])
    have cR3 : ∀ j, (H3.next + j = H.next) = False := fun j => eq_false (by omega)
    have dR3 : (H3.next = H.next) = False := eq_false (by omega)
    have eR3 : ∀ j, (H.next = H3.next + j) = False := fun j => eq_false (by omega)
    simp only [go_sem, Nat.reduceBEq, Nat.reduceLeDiff, Nat.reduceEqDiff, Nat.reduceSub, Nat.reduceAdd, Int.reduceEq, Int.reduceLT, Int.reduceLE, Int.reduceAdd, hg3, hn, hz, hn', Nat.add_zero, hn3, hz3, hx3, bR3, cR3, dR3, eR3, rR, qR]
    refine goC_out (c_object (s := s.adv) (l := l) (en := en) hlen hf (by first | omega | (simp only [go_sem, Nat.reduceBEq, Nat.reduceLeDiff, Nat.reduceEqDiff, Nat.reduceSub, Nat.reduceAdd, Int.reduceEq, Int.reduceLT, Int.reduceLE, Int.reduceAdd]; omega)) (by first | assumption | simp only [go_sem, Nat.reduceBEq, Nat.reduceLeDiff, Nat.reduceEqDiff, Nat.reduceSub, Nat.reduceAdd, Int.reduceEq, Int.reduceLT, Int.reduceLE, Int.reduceAdd, hg3, hn, hz, hn', Nat.add_zero, hn3, hz3, hx3, bR3, cR3, dR3, eR3, rR, qR])) ?_ ?_
    case refine_2 =>
      intro q hq H9 had
      rw [outP_some (show (object l en s.adv).1.f = some q by exact hq)]
      simp only [go_sem, Nat.reduceBEq, Nat.reduceLeDiff, Nat.reduceEqDiff, Nat.reduceSub, Nat.reduceAdd, Int.reduceEq, Int.reduceLT, Int.reduceLE, Int.reduceAdd, san_trouble]
      (repeat first | exact Adv.refl _ _ | assumption | refine Adv.trans ?_ had | refine Adv.trans ?_ ha1 | refine Adv.trans ?_ ha20 | refine Adv.trans ?_ ha21 | refine Adv.trans ?_ ha22 | refine Adv.trans ?_ ha23 | refine Adv.trans ?_ ha2 | refine Adv.trans ?_ ha3 | refine Adv.trans ?_ ha4 | refine Adv.trans ?_ ha5 | refine Adv.trans ?_ ha6 | refine Adv.trans ?_ ha7 | refine Adv.trans ?_ ha8 | refine Adv.trans ?_ ha9 | refine Adv.trans ?_ ha10 | refine Adv.trans ?_ ha11 | refine Adv.trans ?_ ha12 | apply Adv.up | apply Adv.put | refine Adv.new ?_ (by omega) _ | refine Adv.live ?_ (by omega) _ | refine Adv.owns ?_ (by omega) (by first | exact OwnB.lo ‹_› | exact fun _ _ _ h => by cases h))
    intro hf4 H4 hg4 ha4
    have hl4 := ha4.1
    try simp only [go_sem, Nat.reduceBEq, Nat.reduceLeDiff, Nat.reduceEqDiff, Nat.reduceSub, Nat.reduceAdd, Int.reduceEq, Int.reduceLT, Int.reduceLE, Int.reduceAdd] at hl4
    have hr4 : r < H4.next := by omega
    have hn4 := ne_new hr4
    have hz4 := ne_new0 hr4
    have hx4 := ne_new' hr4
    have bR4 : H4.get (H.next) = some ([.lit (.int .i64 0), .lit (.string (ba [])), .lit (.string (ba [])), .lit (.string (ba [])), .sl .nil [], .sl .nil [], .sl .nil [], .sl .nil []]) := (ha4.get (by first | omega | (simp only [go_sem, Nat.reduceBEq, Nat.reduceLeDiff, Nat.reduceEqDiff, Nat.reduceSub, Nat.reduceAdd, Int.reduceEq, Int.reduceLT, Int.reduceLE, Int.reduceAdd]; omega)) (by omega)).trans (by simp only [go_sem, Nat.reduceBEq, Nat.reduceLeDiff, Nat.reduceEqDiff, Nat.reduceSub, Nat.reduceAdd, Int.reduceEq, Int.reduceLT, Int.reduceLE, Int.reduceAdd, hg3, hn, hz, hn', Nat.add_zero, hn3, hz3, hx3, bR3, cR3, dR3, eR3, rR, qR])
    have cR4 : ∀ j, (H4.next + j = H.next) = False := fun j => eq_false (by omega)
    have dR4 : (H4.next = H.next) = False := eq_false (by omega)
    have eR4 : ∀ j, (H.next = H4.next + j) = False := fun j => eq_false (by omega)
    rw [outP_none hf4]
    simp only [go_sem, Nat.reduceBEq, Nat.reduceLeDiff, Nat.reduceEqDiff, Nat.reduceSub, Nat.reduceAdd, Int.reduceEq, Int.reduceLT, Int.reduceLE, Int.reduceAdd, hg4, hn, hz, hn', Nat.add_zero, hn4, hz4, hx4, bR4, cR4, dR4, eR4, rR, qR, rs]
    (repeat first | exact Adv.refl _ _ | assumption | refine Adv.trans ?_ had | refine Adv.trans ?_ ha1 | refine Adv.trans ?_ ha2 | refine Adv.trans ?_ ha3 | refine Adv.trans ?_ ha4 | refine Adv.trans ?_ ha5 | refine Adv.trans ?_ ha6 | refine Adv.trans ?_ ha7 | refine Adv.trans ?_ ha8 | refine Adv.trans ?_ ha9 | refine Adv.trans ?_ ha10 | refine Adv.trans ?_ ha11 | refine Adv.trans ?_ ha12 | apply Adv.up | apply Adv.put | refine Adv.new ?_ (by omega) _ | refine Adv.live ?_ (by omega) _ | refine Adv.owns ?_ (by omega) (by first | exact OwnB.lo ‹_› | exact fun _ _ _ h => by cases h))
  | false =>
  rw [show isT l s tNew = false from h3] at hq
  simp only at hq
  refine goC_ok (c_take_no (s := s) (l := l) (en := en) hlen hf (by first | omega | (simp only [go_sem, Nat.reduceBEq, Nat.reduceLeDiff, Nat.reduceEqDiff, Nat.reduceSub, Nat.reduceAdd, Int.reduceEq, Int.reduceLT, Int.reduceLE, Int.reduceAdd]; omega)) (by first | assumption | simp only [go_sem, Nat.reduceBEq, Nat.reduceLeDiff, Nat.reduceEqDiff, Nat.reduceSub, Nat.reduceAdd, Int.reduceEq, Int.reduceLT, Int.reduceLE, Int.reduceAdd, hg2, hn, hz, hn', Nat.add_zero, hn2, hz2, hx2, bR2, cR2, dR2, eR2, rR, qR]) (by decide) h3) ?_
  intro H3 hg3 ha3
  have hl3 := ha3.1
  try simp only [go_sem, Nat.reduceBEq, Nat.reduceLeDiff, Nat.reduceEqDiff, Nat.reduceSub, Nat.reduceAdd, Int.reduceEq, Int.reduceLT, Int.reduceLE, Int.reduceAdd] at hl3
  have hr3 : r < H3.next := by omega
  have hn3 := ne_new hr3
  have hz3 := ne_new0 hr3
  have hx3 := ne_new' hr3
  have bR3 : H3.get (H.next) = some ([.lit (.int .i64 0), .lit (.string (ba [])), .lit (.string (ba [])), .lit (.string (ba [])), .sl .nil [], .sl .nil [], .sl .nil [], .sl .nil []]) := (ha3.get (by first | omega | (simp only [go_sem, Nat.reduceBEq, Nat.reduceLeDiff, Nat.reduceEqDiff, Nat.reduceSub, Nat.reduceAdd, Int.reduceEq, Int.reduceLT, Int.reduceLE, Int.reduceAdd]; omega)) (by omega)).trans (by simp only [go_sem, Nat.reduceBEq, Nat.reduceLeDiff, Nat.reduceEqDiff, Nat.reduceSub, Nat.reduceAdd, Int.reduceEq, Int.reduceLT, Int.reduceLE, Int.reduceAdd, hg2, hn, hz, hn', Nat.add_zero, hn2, hz2, hx2, bR2, cR2, dR2, eR2, rR, qR])
  have cR3 : ∀ j, (H3.next + j = H.next) = False := fun j => eq_false (by omega)
  have dR3 : (H3.next = H.next) = False := eq_false (by omega)
  have eR3 : ∀ j, (H.next = H3.next + j) = False := fun j => eq_false (by omega)
  simp only [go_sem, Nat.reduceBEq, Nat.reduceLeDiff, Nat.reduceEqDiff, Nat.reduceSub, Nat.reduceAdd, Int.reduceEq, Int.reduceLT, Int.reduceLE, Int.reduceAdd, hg3, hn, hz, hn', Nat.add_zero, hn3, hz3, hx3, bR3, cR3, dR3, eR3, rR, qR]
  refine goC_out (c_operand (s := s) (l := l) (en := en) hlen hf (by first | omega | (simp only [go_sem, Nat.reduceBEq, Nat.reduceLeDiff, Nat.reduceEqDiff, Nat.reduceSub, Nat.reduceAdd, Int.reduceEq, Int.reduceLT, Int.reduceLE, Int.reduceAdd]; omega)) (by first | assumption | simp only [go_sem, Nat.reduceBEq, Nat.reduceLeDiff, Nat.reduceEqDiff, Nat.reduceSub, Nat.reduceAdd, Int.reduceEq, Int.reduceLT, Int.reduceLE, Int.reduceAdd, hg3, hn, hz, hn', Nat.add_zero, hn3, hz3, hx3, bR3, cR3, dR3, eR3, rR, qR])) ?_ ?_
  case refine_2 =>
    intro q hq9 H9 had
    rw [outP_some (show q1.f = some q by rw [show q1 = (rest l en (operand l en s).1 (operand l en s).2).1 by rw [hq], rest_bad (ok_some hq9)]; exact hq9)]
    simp only [go_sem, Nat.reduceBEq, Nat.reduceLeDiff, Nat.reduceEqDiff, Nat.reduceSub, Nat.reduceAdd, Int.reduceEq, Int.reduceLT, Int.reduceLE, Int.reduceAdd, san_trouble]
    (repeat first | exact Adv.refl _ _ | assumption | refine Adv.trans ?_ had | refine Adv.trans ?_ ha1 | refine Adv.trans ?_ ha20 | refine Adv.trans ?_ ha21 | refine Adv.trans ?_ ha22 | refine Adv.trans ?_ ha23 | refine Adv.trans ?_ ha2 | refine Adv.trans ?_ ha3 | refine Adv.trans ?_ ha4 | refine Adv.trans ?_ ha5 | refine Adv.trans ?_ ha6 | refine Adv.trans ?_ ha7 | refine Adv.trans ?_ ha8 | refine Adv.trans ?_ ha9 | refine Adv.trans ?_ ha10 | refine Adv.trans ?_ ha11 | refine Adv.trans ?_ ha12 | apply Adv.up | apply Adv.put | refine Adv.new ?_ (by omega) _ | refine Adv.live ?_ (by omega) _ | refine Adv.owns ?_ (by omega) (by first | exact OwnB.lo ‹_› | exact fun _ _ _ h => by cases h))
  intro hf4 H4 hg4 ha4
  have hl4 := ha4.1
  try simp only [go_sem, Nat.reduceBEq, Nat.reduceLeDiff, Nat.reduceEqDiff, Nat.reduceSub, Nat.reduceAdd, Int.reduceEq, Int.reduceLT, Int.reduceLE, Int.reduceAdd] at hl4
  have hr4 : r < H4.next := by omega
  have hn4 := ne_new hr4
  have hz4 := ne_new0 hr4
  have hx4 := ne_new' hr4
  have bR4 : H4.get (H.next) = some ([.lit (.int .i64 0), .lit (.string (ba [])), .lit (.string (ba [])), .lit (.string (ba [])), .sl .nil [], .sl .nil [], .sl .nil [], .sl .nil []]) := (ha4.get (by first | omega | (simp only [go_sem, Nat.reduceBEq, Nat.reduceLeDiff, Nat.reduceEqDiff, Nat.reduceSub, Nat.reduceAdd, Int.reduceEq, Int.reduceLT, Int.reduceLE, Int.reduceAdd]; omega)) (by omega)).trans (by simp only [go_sem, Nat.reduceBEq, Nat.reduceLeDiff, Nat.reduceEqDiff, Nat.reduceSub, Nat.reduceAdd, Int.reduceEq, Int.reduceLT, Int.reduceLE, Int.reduceAdd, hg3, hn, hz, hn', Nat.add_zero, hn3, hz3, hx3, bR3, cR3, dR3, eR3, rR, qR])
  have cR4 : ∀ j, (H4.next + j = H.next) = False := fun j => eq_false (by omega)
  have dR4 : (H4.next = H.next) = False := eq_false (by omega)
  have eR4 : ∀ j, (H.next = H4.next + j) = False := fun j => eq_false (by omega)
  have hlo := operand_lt (l := l) (en := en) s (ok_none hf4)
  generalize (operand l en s).1 = a at hq hf4 hg4 hlo
  generalize (operand l en s).2 = o at hq
  have pOR : (H3.next + 2 = H.next) = False := eq_false (by omega)
  have pRO : (H.next = H3.next + 2) = False := eq_false (by omega)
  have rO : (H3.next + 2 = r) = False := eq_false (by omega)
  have qO : (r = H3.next + 2) = False := eq_false (by omega)
  have pSR : (H4.next + 3 = H.next) = False := eq_false (by omega)
  have pRS : (H.next = H4.next + 3) = False := eq_false (by omega)
  have pSO : (H4.next + 3 = H3.next + 2) = False := eq_false (by omega)
  have pOS : (H3.next + 2 = H4.next + 3) = False := eq_false (by omega)
  have rS : (H4.next + 3 = r) = False := eq_false (by omega)
  have qS : (r = H4.next + 3) = False := eq_false (by omega)
  simp only [go_sem, Nat.reduceBEq, Nat.reduceLeDiff, Nat.reduceEqDiff, Nat.reduceSub, Nat.reduceAdd, Int.reduceEq, Int.reduceLT, Int.reduceLE, Int.reduceAdd, hg4, hn, hz, hn', Nat.add_zero, hn4, hz4, hx4, bR4, cR4, dR4, eR4, rR, qR, pRO, pRS, rO, qO, pOR, pOS, rS, qS, pSR, pSO, signsB]
  refine W_loop_ind (fun n e H20 => ∃ i : Nat, n = 5 - i ∧ i ≤ 5 ∧ (∀ j, j < i → isT l a (arith.getD j []) = false) ∧ gget .bad e 0 = .ptr r 0 ∧ gget .bad e 2 = .ptr H.next 0 ∧ gget .bad e 4 = .ptr (H3.next + 2) 0 ∧ gget .bad e 5 = .ptr (H4.next + 3) 0 ∧
      gget .bad e 32 = .sl .ex (arith.map encStr) ∧ gget .bad e 33 = .lit (.int .i64 5) ∧ gget .bad e 34 = .lit (.int .i64 (i : Nat)) ∧ H20.get r = some (cP l en a) ∧ H20.get H.next = some [.lit (.int .i64 0), .lit (.string (ba [])), .lit (.string (ba [])), .lit (.string (ba [])), .sl .nil [], .sl .nil [], .sl .nil [], .sl .nil []] ∧ H20.get (H3.next + 2) = some (encOpd o) ∧ H20.get (H4.next + 3) = some [.lit (.int .i64 0), .lit (.string (ba [])), .lit (.string (ba [])), .lit (.string (ba [])), .sl .ex [encOpd o], .sl .nil [], .sl .nil [], .sl .nil []] ∧
      H4.next + 8 ≤ H20.next ∧ Adv r H H20)
    5 ⟨0, rfl, by omega, (fun j hj => by omega), by simp only [go_sem, Nat.reduceBEq, Nat.reduceLeDiff, Nat.reduceEqDiff, Nat.reduceSub, Nat.reduceAdd, Int.reduceEq, Int.reduceLT, Int.reduceLE, Int.reduceAdd], by simp only [go_sem, Nat.reduceBEq, Nat.reduceLeDiff, Nat.reduceEqDiff, Nat.reduceSub, Nat.reduceAdd, Int.reduceEq, Int.reduceLT, Int.reduceLE, Int.reduceAdd, Nat.add_zero], by simp only [go_sem, Nat.reduceBEq, Nat.reduceLeDiff, Nat.reduceEqDiff, Nat.reduceSub, Nat.reduceAdd, Int.reduceEq, Int.reduceLT, Int.reduceLE, Int.reduceAdd], by simp only [go_sem, Nat.reduceBEq, Nat.reduceLeDiff, Nat.reduceEqDiff, Nat.reduceSub, Nat.reduceAdd, Int.reduceEq, Int.reduceLT, Int.reduceLE, Int.reduceAdd], by simp only [go_sem, Nat.reduceBEq, Nat.reduceLeDiff, Nat.reduceEqDiff, Nat.reduceSub, Nat.reduceAdd, Int.reduceEq, Int.reduceLT, Int.reduceLE, Int.reduceAdd], by simp only [go_sem, Nat.reduceBEq, Nat.reduceLeDiff, Nat.reduceEqDiff, Nat.reduceSub, Nat.reduceAdd, Int.reduceEq, Int.reduceLT, Int.reduceLE, Int.reduceAdd, List.length_map] <;> rfl, by simp only [go_sem, Nat.reduceBEq, Nat.reduceLeDiff, Nat.reduceEqDiff, Nat.reduceSub, Nat.reduceAdd, Int.reduceEq, Int.reduceLT, Int.reduceLE, Int.reduceAdd] <;> rfl, by simp only [go_sem, Nat.reduceBEq, Nat.reduceLeDiff, Nat.reduceEqDiff, Nat.reduceSub, Nat.reduceAdd, Int.reduceEq, Int.reduceLT, Int.reduceLE, Int.reduceAdd, hg4, hn, hz, hn', Nat.add_zero, hn4, hz4, hx4, bR4, cR4, dR4, eR4, rR, qR, pRO, pRS, rO, qO, pOR, pOS, rS, qS, pSR, pSO], by simp only [go_sem, Nat.reduceBEq, Nat.reduceLeDiff, Nat.reduceEqDiff, Nat.reduceSub, Nat.reduceAdd, Int.reduceEq, Int.reduceLT, Int.reduceLE, Int.reduceAdd, hg4, hn, hz, hn', Nat.add_zero, hn4, hz4, hx4, bR4, cR4, dR4, eR4, rR, qR, pRO, pRS, rO, qO, pOR, pOS, rS, qS, pSR, pSO], by simp only [go_sem, Nat.reduceBEq, Nat.reduceLeDiff, Nat.reduceEqDiff, Nat.reduceSub, Nat.reduceAdd, Int.reduceEq, Int.reduceLT, Int.reduceLE, Int.reduceAdd, hg4, hn, hz, hn', Nat.add_zero, hn4, hz4, hx4, bR4, cR4, dR4, eR4, rR, qR, pRO, pRS, rO, qO, pOR, pOS, rS, qS, pSR, pSO], by simp only [go_sem, Nat.reduceBEq, Nat.reduceLeDiff, Nat.reduceEqDiff, Nat.reduceSub, Nat.reduceAdd, Int.reduceEq, Int.reduceLT, Int.reduceLE, Int.reduceAdd, hg4, hn, hz, hn', Nat.add_zero, hn4, hz4, hx4, bR4, cR4, dR4, eR4, rR, qR, pRO, pRS, rO, qO, pOR, pOS, rS, qS, pSR, pSO], by simp only [go_sem, Nat.reduceBEq, Nat.reduceLeDiff, Nat.reduceEqDiff, Nat.reduceSub, Nat.reduceAdd, Int.reduceEq, Int.reduceLT, Int.reduceLE, Int.reduceAdd]; omega, by (repeat first | exact Adv.refl _ _ | assumption | refine Adv.trans ?_ had | refine Adv.trans ?_ ha1 | refine Adv.trans ?_ ha2 | refine Adv.trans ?_ ha3 | refine Adv.trans ?_ ha4 | refine Adv.trans ?_ ha5 | refine Adv.trans ?_ ha6 | refine Adv.trans ?_ ha7 | refine Adv.trans ?_ ha8 | refine Adv.trans ?_ ha9 | refine Adv.trans ?_ ha10 | refine Adv.trans ?_ ha11 | refine Adv.trans ?_ ha12 | apply Adv.up | apply Adv.put | refine Adv.new ?_ (by omega) _ | refine Adv.live ?_ (by omega) _ | refine Adv.owns ?_ (by omega) (by first | exact OwnB.lo ‹_› | exact fun _ _ _ h => by cases h))⟩ ?_
  rintro n ih e H20 ⟨i, rfl, hi5, hno, g0, g2, g4, g5, g32, g33, g34, hg20, bR20, bO20, bS20, hl20, ha20⟩
  have hr20 : r < H20.next := by omega
  have hn20 := ne_new hr20
  have hz20 := ne_new0 hr20
  have hx20 := ne_new' hr20
  have cR20 : ∀ j, (H20.next + j = H.next) = False := fun j => eq_false (by omega)
  have dR20 : (H20.next = H.next) = False := eq_false (by omega)
  have eR20 : ∀ j, (H.next = H20.next + j) = False := fun j => eq_false (by omega)
  have cO20 : ∀ j, (H20.next + j = H3.next + 2) = False := fun j => eq_false (by omega)
  have dO20 : (H20.next = H3.next + 2) = False := eq_false (by omega)
  have eO20 : ∀ j, (H3.next + 2 = H20.next + j) = False := fun j => eq_false (by omega)
  have cS20 : ∀ j, (H20.next + j = H4.next + 3) = False := fun j => eq_false (by omega)
  have dS20 : (H20.next = H4.next + 3) = False := eq_false (by omega)
  have eS20 : ∀ j, (H4.next + 3 = H20.next + j) = False := fun j => eq_false (by omega)
  by_cases hi : i < 5
  · have hi' : decide ((i : Int) < 5) = true := by simp; omega
    have hix := signIx hi
    have hne := sign_ne i hi
    have hdr := signOf_drop (l := l) (s := a) arith i hno
    rw [drop_cons' [] (show i < arith.length from hi)] at hdr
    generalize ht : arith.getD i [] = t at hix hdr hne
    have hw1 := wrap1 (show i + 1 ≤ 9223372036854775807 by omega)
    simp only [go_sem, Nat.reduceBEq, Nat.reduceLeDiff, Nat.reduceEqDiff, Nat.reduceSub, Nat.reduceAdd, Int.reduceEq, Int.reduceLT, Int.reduceLE, Int.reduceAdd, hg20, hn, hz, hn', Nat.add_zero, hn20, hz20, hx20, bR20, cR20, dR20, eR20, rR, qR, pRO, pRS, bO20, cO20, dO20, eO20, rO, qO, pOR, pOS, bS20, cS20, dS20, eS20, rS, qS, pSR, pSO, g0, g2, g4, g5, g32, g33, g34, hi', hix, encStr]
    cases h : isT l a t with
    | true =>
      have hs : signOf l a arith = some t := by rw [← hdr]; simp only [signOf, h]
      simp only [rest, hs] at hq
      cases hq
      refine goC_ok (c_take_yes (s := a) (l := l) (en := en) hlen hf4 (by first | omega | (simp only [go_sem, Nat.reduceBEq, Nat.reduceLeDiff, Nat.reduceEqDiff, Nat.reduceSub, Nat.reduceAdd, Int.reduceEq, Int.reduceLT, Int.reduceLE, Int.reduceAdd]; omega)) (by first | assumption | simp only [go_sem, Nat.reduceBEq, Nat.reduceLeDiff, Nat.reduceEqDiff, Nat.reduceSub, Nat.reduceAdd, Int.reduceEq, Int.reduceLT, Int.reduceLE, Int.reduceAdd, hg20, hn, hz, hn', Nat.add_zero, hn20, hz20, hx20, bR20, cR20, dR20, eR20, rR, qR, pRO, pRS, bO20, cO20, dO20, eO20, rO, qO, pOR, pOS, bS20, cS20, dS20, eS20, rS, qS, pSR, pSO]) hne h) ?_
      intro H21 hg21 ha21
      have hl21 := ha21.1
      simp only [go_sem, Nat.reduceBEq, Nat.reduceLeDiff, Nat.reduceEqDiff, Nat.reduceSub, Nat.reduceAdd, Int.reduceEq, Int.reduceLT, Int.reduceLE, Int.reduceAdd] at hl21
      have hr21 : r < H21.next := by omega
      have hn21 := ne_new hr21
      have hz21 := ne_new0 hr21
      have hx21 := ne_new' hr21
      have bR21 : H21.get (H.next) = some ([.lit (.int .i64 0), .lit (.string (ba [])), .lit (.string (ba [])), .lit (.string (ba [])), .sl .nil [], .sl .nil [], .sl .nil [], .sl .nil []]) := (ha21.get (by simp only [go_sem, Nat.reduceBEq, Nat.reduceLeDiff, Nat.reduceEqDiff, Nat.reduceSub, Nat.reduceAdd, Int.reduceEq, Int.reduceLT, Int.reduceLE, Int.reduceAdd]; omega) (by omega)).trans (by simp only [go_sem, Nat.reduceBEq, Nat.reduceLeDiff, Nat.reduceEqDiff, Nat.reduceSub, Nat.reduceAdd, Int.reduceEq, Int.reduceLT, Int.reduceLE, Int.reduceAdd, hg20, hn, hz, hn', Nat.add_zero, hn20, hz20, hx20, bR20, cR20, dR20, eR20, rR, qR, pRO, pRS, bO20, cO20, dO20, eO20, rO, qO, pOR, pOS, bS20, cS20, dS20, eS20, rS, qS, pSR, pSO])
      have cR21 : ∀ j, (H21.next + j = H.next) = False := fun j => eq_false (by omega)
      have dR21 : (H21.next = H.next) = False := eq_false (by omega)
      have eR21 : ∀ j, (H.next = H21.next + j) = False := fun j => eq_false (by omega)
      have bO21 : H21.get (H3.next + 2) = some (encOpd o) := (ha21.get (by simp only [go_sem, Nat.reduceBEq, Nat.reduceLeDiff, Nat.reduceEqDiff, Nat.reduceSub, Nat.reduceAdd, Int.reduceEq, Int.reduceLT, Int.reduceLE, Int.reduceAdd]; omega) (by omega)).trans (by simp only [go_sem, Nat.reduceBEq, Nat.reduceLeDiff, Nat.reduceEqDiff, Nat.reduceSub, Nat.reduceAdd, Int.reduceEq, Int.reduceLT, Int.reduceLE, Int.reduceAdd, hg20, hn, hz, hn', Nat.add_zero, hn20, hz20, hx20, bR20, cR20, dR20, eR20, rR, qR, pRO, pRS, bO20, cO20, dO20, eO20, rO, qO, pOR, pOS, bS20, cS20, dS20, eS20, rS, qS, pSR, pSO])
      have cO21 : ∀ j, (H21.next + j = H3.next + 2) = False := fun j => eq_false (by omega)
      have dO21 : (H21.next = H3.next + 2) = False := eq_false (by omega)
      have eO21 : ∀ j, (H3.next + 2 = H21.next + j) = False := fun j => eq_false (by omega)
      have bS21 : H21.get (H4.next + 3) = some ([.lit (.int .i64 0), .lit (.string (ba [])), .lit (.string (ba [])), .lit (.string (ba [])), .sl .ex [encOpd o], .sl .nil [], .sl .nil [], .sl .nil []]) := (ha21.get (by simp only [go_sem, Nat.reduceBEq, Nat.reduceLeDiff, Nat.reduceEqDiff, Nat.reduceSub, Nat.reduceAdd, Int.reduceEq, Int.reduceLT, Int.reduceLE, Int.reduceAdd]; omega) (by omega)).trans (by simp only [go_sem, Nat.reduceBEq, Nat.reduceLeDiff, Nat.reduceEqDiff, Nat.reduceSub, Nat.reduceAdd, Int.reduceEq, Int.reduceLT, Int.reduceLE, Int.reduceAdd, hg20, hn, hz, hn', Nat.add_zero, hn20, hz20, hx20, bR20, cR20, dR20, eR20, rR, qR, pRO, pRS, bO20, cO20, dO20, eO20, rO, qO, pOR, pOS, bS20, cS20, dS20, eS20, rS, qS, pSR, pSO])
      have cS21 : ∀ j, (H21.next + j = H4.next + 3) = False := fun j => eq_false (by omega)
      have dS21 : (H21.next = H4.next + 3) = False := eq_false (by omega)
      have eS21 : ∀ j, (H4.next + 3 = H21.next + j) = False := fun j => eq_false (by omega)
      simp only [go_sem, Nat.reduceBEq, Nat.reduceLeDiff, Nat.reduceEqDiff, Nat.reduceSub, Nat.reduceAdd, Int.reduceEq, Int.reduceLT, Int.reduceLE, Int.reduceAdd, hg21, hn, hz, hn', Nat.add_zero, hn21, hz21, hx21, bR21, cR21, dR21, eR21, rR, qR, pRO, pRS, bO21, cO21, dO21, eO21, rO, qO, pOR, pOS, bS21, cS21, dS21, eS21, rS, qS, pSR, pSO, g0, g2, g4, g5, g32, g33, g34]
      refine W_drawE [(1, 3)] [[1, 5, 6, 7], [5, 6, 7], [3, 4, 5, 6, 7], [4, 5, 6, 7], [5, 6, 7], [6, 7], [7], []] (by kernel_rfl) ?_
      simp only [go_sem, Nat.reduceBEq, Nat.reduceLeDiff, Nat.reduceEqDiff, Nat.reduceSub, Nat.reduceAdd, Int.reduceEq, Int.reduceLT, Int.reduceLE, Int.reduceAdd, hg21, hn, hz, hn', Nat.add_zero, hn21, hz21, hx21, bR21, cR21, dR21, eR21, rR, qR, pRO, pRS, bO21, cO21, dO21, eO21, rO, qO, pOR, pOS, bS21, cS21, dS21, eS21, rS, qS, pSR, pSO, g0, g2, g4, g5, g32, g33, g34]
      refine eK_out rfl (c_operand (s := a.adv) (l := l) (en := en) hlen hf4 (by first | omega | (simp only [go_sem, Nat.reduceBEq, Nat.reduceLeDiff, Nat.reduceEqDiff, Nat.reduceSub, Nat.reduceAdd, Int.reduceEq, Int.reduceLT, Int.reduceLE, Int.reduceAdd]; omega)) (by first | assumption | simp only [go_sem, Nat.reduceBEq, Nat.reduceLeDiff, Nat.reduceEqDiff, Nat.reduceSub, Nat.reduceAdd, Int.reduceEq, Int.reduceLT, Int.reduceLE, Int.reduceAdd, hg21, hn, hz, hn', Nat.add_zero, hn21, hz21, hx21, bR21, cR21, dR21, eR21, rR, qR, pRO, pRS, bO21, cO21, dO21, eO21, rO, qO, pOR, pOS, bS21, cS21, dS21, eS21, rS, qS, pSR, pSO])) ?_ ?_
      case refine_2 =>
        intro q hq H9 had
        rw [outP_some hq]
        simp only [go_sem, Nat.reduceBEq, Nat.reduceLeDiff, Nat.reduceEqDiff, Nat.reduceSub, Nat.reduceAdd, Int.reduceEq, Int.reduceLT, Int.reduceLE, Int.reduceAdd, san_trouble]
        (repeat first | exact Adv.refl _ _ | assumption | refine Adv.trans ?_ had | refine Adv.trans ?_ ha1 | refine Adv.trans ?_ ha20 | refine Adv.trans ?_ ha21 | refine Adv.trans ?_ ha22 | refine Adv.trans ?_ ha23 | refine Adv.trans ?_ ha2 | refine Adv.trans ?_ ha3 | refine Adv.trans ?_ ha4 | refine Adv.trans ?_ ha5 | refine Adv.trans ?_ ha6 | refine Adv.trans ?_ ha7 | refine Adv.trans ?_ ha8 | refine Adv.trans ?_ ha9 | refine Adv.trans ?_ ha10 | refine Adv.trans ?_ ha11 | refine Adv.trans ?_ ha12 | apply Adv.up | apply Adv.put | refine Adv.new ?_ (by omega) _ | refine Adv.live ?_ (by omega) _ | refine Adv.owns ?_ (by omega) (by first | exact OwnB.lo ‹_› | exact fun _ _ _ h => by cases h))
      intro hf5 H22 hg22 ha22
      have hl22 := ha22.1
      simp only [go_sem, Nat.reduceBEq, Nat.reduceLeDiff, Nat.reduceEqDiff, Nat.reduceSub, Nat.reduceAdd, Int.reduceEq, Int.reduceLT, Int.reduceLE, Int.reduceAdd] at hl22
      have hr22 : r < H22.next := by omega
      have hn22 := ne_new hr22
      have hz22 := ne_new0 hr22
      have hx22 := ne_new' hr22
      have bR22 : H22.get (H.next) = some ([.lit (.int .i64 0), .lit (.string (ba [])), .lit (.string (ba [])), .lit (.string (ba [])), .sl .nil [], .sl .nil [], .sl .nil [], .sl .nil []]) := (ha22.get (by simp only [go_sem, Nat.reduceBEq, Nat.reduceLeDiff, Nat.reduceEqDiff, Nat.reduceSub, Nat.reduceAdd, Int.reduceEq, Int.reduceLT, Int.reduceLE, Int.reduceAdd]; omega) (by omega)).trans (by simp only [go_sem, Nat.reduceBEq, Nat.reduceLeDiff, Nat.reduceEqDiff, Nat.reduceSub, Nat.reduceAdd, Int.reduceEq, Int.reduceLT, Int.reduceLE, Int.reduceAdd, hg21, hn, hz, hn', Nat.add_zero, hn21, hz21, hx21, bR21, cR21, dR21, eR21, rR, qR, pRO, pRS, bO21, cO21, dO21, eO21, rO, qO, pOR, pOS, bS21, cS21, dS21, eS21, rS, qS, pSR, pSO])
      have cR22 : ∀ j, (H22.next + j = H.next) = False := fun j => eq_false (by omega)
      have dR22 : (H22.next = H.next) = False := eq_false (by omega)
      have eR22 : ∀ j, (H.next = H22.next + j) = False := fun j => eq_false (by omega)
      have bO22 : H22.get (H3.next + 2) = some (encOpd o) := (ha22.get (by simp only [go_sem, Nat.reduceBEq, Nat.reduceLeDiff, Nat.reduceEqDiff, Nat.reduceSub, Nat.reduceAdd, Int.reduceEq, Int.reduceLT, Int.reduceLE, Int.reduceAdd]; omega) (by omega)).trans (by simp only [go_sem, Nat.reduceBEq, Nat.reduceLeDiff, Nat.reduceEqDiff, Nat.reduceSub, Nat.reduceAdd, Int.reduceEq, Int.reduceLT, Int.reduceLE, Int.reduceAdd, hg21, hn, hz, hn', Nat.add_zero, hn21, hz21, hx21, bR21, cR21, dR21, eR21, rR, qR, pRO, pRS, bO21, cO21, dO21, eO21, rO, qO, pOR, pOS, bS21, cS21, dS21, eS21, rS, qS, pSR, pSO])
      have cO22 : ∀ j, (H22.next + j = H3.next + 2) = False := fun j => eq_false (by omega)
      have dO22 : (H22.next = H3.next + 2) = False := eq_false (by omega)
      have eO22 : ∀ j, (H3.next + 2 = H22.next + j) = False := fun j => eq_false (by omega)
      have bS22 : H22.get (H4.next + 3) = some ([.lit (.int .i64 1), .lit (.string (ba [])), .lit (.string (ba [])), .lit (.string (ba t)), .sl .ex [encOpd o], .sl .nil [], .sl .nil [], .sl .nil []]) := (ha22.get (by simp only [go_sem, Nat.reduceBEq, Nat.reduceLeDiff, Nat.reduceEqDiff, Nat.reduceSub, Nat.reduceAdd, Int.reduceEq, Int.reduceLT, Int.reduceLE, Int.reduceAdd]; omega) (by omega)).trans (by simp only [go_sem, Nat.reduceBEq, Nat.reduceLeDiff, Nat.reduceEqDiff, Nat.reduceSub, Nat.reduceAdd, Int.reduceEq, Int.reduceLT, Int.reduceLE, Int.reduceAdd, hg21, hn, hz, hn', Nat.add_zero, hn21, hz21, hx21, bR21, cR21, dR21, eR21, rR, qR, pRO, pRS, bO21, cO21, dO21, eO21, rO, qO, pOR, pOS, bS21, cS21, dS21, eS21, rS, qS, pSR, pSO])
      have cS22 : ∀ j, (H22.next + j = H4.next + 3) = False := fun j => eq_false (by omega)
      have dS22 : (H22.next = H4.next + 3) = False := eq_false (by omega)
      have eS22 : ∀ j, (H4.next + 3 = H22.next + j) = False := fun j => eq_false (by omega)
      have hkeep := ha22.keeps (k := H4.next + 3) (by simp only [go_sem, Nat.reduceBEq, Nat.reduceLeDiff, Nat.reduceEqDiff, Nat.reduceSub, Nat.reduceAdd, Int.reduceEq, Int.reduceLT, Int.reduceLE, Int.reduceAdd]; omega) (by omega)
      rw [outP_none hf5]
      simp only [go_sem, Nat.reduceBEq, Nat.reduceLeDiff, Nat.reduceEqDiff, Nat.reduceSub, Nat.reduceAdd, Int.reduceEq, Int.reduceLT, Int.reduceLE, Int.reduceAdd, hg22, hn, hz, hn', Nat.add_zero, hn22, hz22, hx22, bR22, cR22, dR22, eR22, rR, qR, pRO, pRS, bO22, cO22, dO22, eO22, rO, qO, pOR, pOS, bS22, cS22, dS22, eS22, rS, qS, pSR, pSO, rs, app_ex1, hkeep, g0, g2, g4, g5, g32, g33, g34, eM, List.map_cons, List.map_nil]
      (repeat first | exact Adv.refl _ _ | assumption | refine Adv.trans ?_ had | refine Adv.trans ?_ ha1 | refine Adv.trans ?_ ha20 | refine Adv.trans ?_ ha21 | refine Adv.trans ?_ ha22 | refine Adv.trans ?_ ha23 | refine Adv.trans ?_ ha2 | refine Adv.trans ?_ ha3 | refine Adv.trans ?_ ha4 | refine Adv.trans ?_ ha5 | refine Adv.trans ?_ ha6 | refine Adv.trans ?_ ha7 | refine Adv.trans ?_ ha8 | refine Adv.trans ?_ ha9 | refine Adv.trans ?_ ha10 | refine Adv.trans ?_ ha11 | refine Adv.trans ?_ ha12 | apply Adv.up | apply Adv.put | refine Adv.new ?_ (by omega) _ | refine Adv.live ?_ (by omega) _ | refine Adv.owns ?_ (by omega) (by first | exact OwnB.lo ‹_› | exact fun _ _ _ h => by cases h))
    | false =>
      refine goC_ok (c_take_no (s := a) (l := l) (en := en) hlen hf4 (by first | omega | (simp only [go_sem, Nat.reduceBEq, Nat.reduceLeDiff, Nat.reduceEqDiff, Nat.reduceSub, Nat.reduceAdd, Int.reduceEq, Int.reduceLT, Int.reduceLE, Int.reduceAdd]; omega)) (by first | assumption | simp only [go_sem, Nat.reduceBEq, Nat.reduceLeDiff, Nat.reduceEqDiff, Nat.reduceSub, Nat.reduceAdd, Int.reduceEq, Int.reduceLT, Int.reduceLE, Int.reduceAdd, hg20, hn, hz, hn', Nat.add_zero, hn20, hz20, hx20, bR20, cR20, dR20, eR20, rR, qR, pRO, pRS, bO20, cO20, dO20, eO20, rO, qO, pOR, pOS, bS20, cS20, dS20, eS20, rS, qS, pSR, pSO]) hne h) ?_
      intro H21 hg21 ha21
      have hl21 := ha21.1
      simp only [go_sem, Nat.reduceBEq, Nat.reduceLeDiff, Nat.reduceEqDiff, Nat.reduceSub, Nat.reduceAdd, Int.reduceEq, Int.reduceLT, Int.reduceLE, Int.reduceAdd] at hl21
      have hr21 : r < H21.next := by omega
      have hn21 := ne_new hr21
      have hz21 := ne_new0 hr21
      have hx21 := ne_new' hr21
      have bR21 : H21.get (H.next) = some ([.lit (.int .i64 0), .lit (.string (ba [])), .lit (.string (ba [])), .lit (.string (ba [])), .sl .nil [], .sl .nil [], .sl .nil [], .sl .nil []]) := (ha21.get (by simp only [go_sem, Nat.reduceBEq, Nat.reduceLeDiff, Nat.reduceEqDiff, Nat.reduceSub, Nat.reduceAdd, Int.reduceEq, Int.reduceLT, Int.reduceLE, Int.reduceAdd]; omega) (by omega)).trans (by simp only [go_sem, Nat.reduceBEq, Nat.reduceLeDiff, Nat.reduceEqDiff, Nat.reduceSub, Nat.reduceAdd, Int.reduceEq, Int.reduceLT, Int.reduceLE, Int.reduceAdd, hg20, hn, hz, hn', Nat.add_zero, hn20, hz20, hx20, bR20, cR20, dR20, eR20, rR, qR, pRO, pRS, bO20, cO20, dO20, eO20, rO, qO, pOR, pOS, bS20, cS20, dS20, eS20, rS, qS, pSR, pSO])
      have cR21 : ∀ j, (H21.next + j = H.next) = False := fun j => eq_false (by omega)
      have dR21 : (H21.next = H.next) = False := eq_false (by omega)
      have eR21 : ∀ j, (H.next = H21.next + j) = False := fun j => eq_false (by omega)
      have bO21 : H21.get (H3.next + 2) = some (encOpd o) := (ha21.get (by simp only [go_sem, Nat.reduceBEq, Nat.reduceLeDiff, Nat.reduceEqDiff, Nat.reduceSub, Nat.reduceAdd, Int.reduceEq, Int.reduceLT, Int.reduceLE, Int.reduceAdd]; omega) (by omega)).trans (by simp only [go_sem, Nat.reduceBEq, Nat.reduceLeDiff, Nat.reduceEqDiff, Nat.reduceSub, Nat.reduceAdd, Int.reduceEq, Int.reduceLT, Int.reduceLE, Int.reduceAdd, hg20, hn, hz, hn', Nat.add_zero, hn20, hz20, hx20, bR20, cR20, dR20, eR20, rR, qR, pRO, pRS, bO20, cO20, dO20, eO20, rO, qO, pOR, pOS, bS20, cS20, dS20, eS20, rS, qS, pSR, pSO])
      have cO21 : ∀ j, (H21.next + j = H3.next + 2) = False := fun j => eq_false (by omega)
      have dO21 : (H21.next = H3.next + 2) = False := eq_false (by omega)
      have eO21 : ∀ j, (H3.next + 2 = H21.next + j) = False := fun j => eq_false (by omega)
      have bS21 : H21.get (H4.next + 3) = some ([.lit (.int .i64 0), .lit (.string (ba [])), .lit (.string (ba [])), .lit (.string (ba [])), .sl .ex [encOpd o], .sl .nil [], .sl .nil [], .sl .nil []]) := (ha21.get (by simp only [go_sem, Nat.reduceBEq, Nat.reduceLeDiff, Nat.reduceEqDiff, Nat.reduceSub, Nat.reduceAdd, Int.reduceEq, Int.reduceLT, Int.reduceLE, Int.reduceAdd]; omega) (by omega)).trans (by simp only [go_sem, Nat.reduceBEq, Nat.reduceLeDiff, Nat.reduceEqDiff, Nat.reduceSub, Nat.reduceAdd, Int.reduceEq, Int.reduceLT, Int.reduceLE, Int.reduceAdd, hg20, hn, hz, hn', Nat.add_zero, hn20, hz20, hx20, bR20, cR20, dR20, eR20, rR, qR, pRO, pRS, bO20, cO20, dO20, eO20, rO, qO, pOR, pOS, bS20, cS20, dS20, eS20, rS, qS, pSR, pSO])
      have cS21 : ∀ j, (H21.next + j = H4.next + 3) = False := fun j => eq_false (by omega)
      have dS21 : (H21.next = H4.next + 3) = False := eq_false (by omega)
      have eS21 : ∀ j, (H4.next + 3 = H21.next + j) = False := fun j => eq_false (by omega)
      simp only [go_sem, Nat.reduceBEq, Nat.reduceLeDiff, Nat.reduceEqDiff, Nat.reduceSub, Nat.reduceAdd, Int.reduceEq, Int.reduceLT, Int.reduceLE, Int.reduceAdd, hg21, hn, hz, hn', Nat.add_zero, hn21, hz21, hx21, bR21, cR21, dR21, eR21, rR, qR, pRO, pRS, bO21, cO21, dO21, eO21, rO, qO, pOR, pOS, bS21, cS21, dS21, eS21, rS, qS, pSR, pSO, g0, g2, g4, g5, g32, g33, g34, hw1]
      exact ih (5 - (i + 1)) (by omega) _ _ ⟨i + 1, rfl, by omega, fun j hj => by
          by_cases hji : j = i
          · subst hji; rw [ht]; exact h
          · exact hno j (by omega),
        by simp only [go_sem, Nat.reduceBEq, Nat.reduceLeDiff, Nat.reduceEqDiff, Nat.reduceSub, Nat.reduceAdd, Int.reduceEq, Int.reduceLT, Int.reduceLE, Int.reduceAdd, g0], by simp only [go_sem, Nat.reduceBEq, Nat.reduceLeDiff, Nat.reduceEqDiff, Nat.reduceSub, Nat.reduceAdd, Int.reduceEq, Int.reduceLT, Int.reduceLE, Int.reduceAdd, g2], by simp only [go_sem, Nat.reduceBEq, Nat.reduceLeDiff, Nat.reduceEqDiff, Nat.reduceSub, Nat.reduceAdd, Int.reduceEq, Int.reduceLT, Int.reduceLE, Int.reduceAdd, g4], by simp only [go_sem, Nat.reduceBEq, Nat.reduceLeDiff, Nat.reduceEqDiff, Nat.reduceSub, Nat.reduceAdd, Int.reduceEq, Int.reduceLT, Int.reduceLE, Int.reduceAdd, g5], by simp only [go_sem, Nat.reduceBEq, Nat.reduceLeDiff, Nat.reduceEqDiff, Nat.reduceSub, Nat.reduceAdd, Int.reduceEq, Int.reduceLT, Int.reduceLE, Int.reduceAdd, g32], by simp only [go_sem, Nat.reduceBEq, Nat.reduceLeDiff, Nat.reduceEqDiff, Nat.reduceSub, Nat.reduceAdd, Int.reduceEq, Int.reduceLT, Int.reduceLE, Int.reduceAdd, g33], by simp only [go_sem, Nat.reduceBEq, Nat.reduceLeDiff, Nat.reduceEqDiff, Nat.reduceSub, Nat.reduceAdd, Int.reduceEq, Int.reduceLT, Int.reduceLE, Int.reduceAdd], by simp only [go_sem, Nat.reduceBEq, Nat.reduceLeDiff, Nat.reduceEqDiff, Nat.reduceSub, Nat.reduceAdd, Int.reduceEq, Int.reduceLT, Int.reduceLE, Int.reduceAdd, hg21, hn, hz, hn', Nat.add_zero, hn21, hz21, hx21, bR21, cR21, dR21, eR21, rR, qR, pRO, pRS, bO21, cO21, dO21, eO21, rO, qO, pOR, pOS, bS21, cS21, dS21, eS21, rS, qS, pSR, pSO], by simp only [go_sem, Nat.reduceBEq, Nat.reduceLeDiff, Nat.reduceEqDiff, Nat.reduceSub, Nat.reduceAdd, Int.reduceEq, Int.reduceLT, Int.reduceLE, Int.reduceAdd, hg21, hn, hz, hn', Nat.add_zero, hn21, hz21, hx21, bR21, cR21, dR21, eR21, rR, qR, pRO, pRS, bO21, cO21, dO21, eO21, rO, qO, pOR, pOS, bS21, cS21, dS21, eS21, rS, qS, pSR, pSO], by simp only [go_sem, Nat.reduceBEq, Nat.reduceLeDiff, Nat.reduceEqDiff, Nat.reduceSub, Nat.reduceAdd, Int.reduceEq, Int.reduceLT, Int.reduceLE, Int.reduceAdd, hg21, hn, hz, hn', Nat.add_zero, hn21, hz21, hx21, bR21, cR21, dR21, eR21, rR, qR, pRO, pRS, bO21, cO21, dO21, eO21, rO, qO, pOR, pOS, bS21, cS21, dS21, eS21, rS, qS, pSR, pSO], by simp only [go_sem, Nat.reduceBEq, Nat.reduceLeDiff, Nat.reduceEqDiff, Nat.reduceSub, Nat.reduceAdd, Int.reduceEq, Int.reduceLT, Int.reduceLE, Int.reduceAdd, hg21, hn, hz, hn', Nat.add_zero, hn21, hz21, hx21, bR21, cR21, dR21, eR21, rR, qR, pRO, pRS, bO21, cO21, dO21, eO21, rO, qO, pOR, pOS, bS21, cS21, dS21, eS21, rS, qS, pSR, pSO], by simp only [go_sem, Nat.reduceBEq, Nat.reduceLeDiff, Nat.reduceEqDiff, Nat.reduceSub, Nat.reduceAdd, Int.reduceEq, Int.reduceLT, Int.reduceLE, Int.reduceAdd]; omega, by (repeat first | exact Adv.refl _ _ | assumption | refine Adv.trans ?_ had | refine Adv.trans ?_ ha1 | refine Adv.trans ?_ ha20 | refine Adv.trans ?_ ha21 | refine Adv.trans ?_ ha22 | refine Adv.trans ?_ ha23 | refine Adv.trans ?_ ha2 | refine Adv.trans ?_ ha3 | refine Adv.trans ?_ ha4 | refine Adv.trans ?_ ha5 | refine Adv.trans ?_ ha6 | refine Adv.trans ?_ ha7 | refine Adv.trans ?_ ha8 | refine Adv.trans ?_ ha9 | refine Adv.trans ?_ ha10 | refine Adv.trans ?_ ha11 | refine Adv.trans ?_ ha12 | apply Adv.up | apply Adv.put | refine Adv.new ?_ (by omega) _ | refine Adv.live ?_ (by omega) _ | refine Adv.owns ?_ (by omega) (by first | exact OwnB.lo ‹_› | exact fun _ _ _ h => by cases h))⟩
  · have hi' : decide ((i : Int) < 5) = false := by simp; omega
    have hs : signOf l a arith = none := by
      rw [← signOf_drop (l := l) (s := a) arith i hno, List.drop_of_length_le (show arith.length ≤ i by have : arith.length = 5 := rfl; omega)]; rfl
    simp only [rest, hs] at hq
    by_cases hk : o.kind = 4
    · have dk : decide (o.kind = 4) = true := by simp [hk]
      have dk' : decide (o.kind = 4) = true := by simp [hk]
      simp only [dk', Bool.true_and] at hq
      simp only [go_sem, Nat.reduceBEq, Nat.reduceLeDiff, Nat.reduceEqDiff, Nat.reduceSub, Nat.reduceAdd, Int.reduceEq, Int.reduceLT, Int.reduceLE, Int.reduceAdd, hg20, hn, hz, hn', Nat.add_zero, hn20, hz20, hx20, bR20, cR20, dR20, eR20, rR, qR, pRO, pRS, bO20, cO20, dO20, eO20, rO, qO, pOR, pOS, bS20, cS20, dS20, eS20, rS, qS, pSR, pSO, g0, g2, g4, g5, g32, g33, g34, hi', dk]
      refine goC_ok (c_is (s := a) (l := l) (en := en) hlen hf4 (by first | omega | (simp only [go_sem, Nat.reduceBEq, Nat.reduceLeDiff, Nat.reduceEqDiff, Nat.reduceSub, Nat.reduceAdd, Int.reduceEq, Int.reduceLT, Int.reduceLE, Int.reduceAdd]; omega)) (by first | assumption | simp only [go_sem, Nat.reduceBEq, Nat.reduceLeDiff, Nat.reduceEqDiff, Nat.reduceSub, Nat.reduceAdd, Int.reduceEq, Int.reduceLT, Int.reduceLE, Int.reduceAdd, hg20, hn, hz, hn', Nat.add_zero, hn20, hz20, hx20, bR20, cR20, dR20, eR20, rR, qR, pRO, pRS, bO20, cO20, dO20, eO20, rO, qO, pOR, pOS, bS20, cS20, dS20, eS20, rS, qS, pSR, pSO]) [40] (by decide)) ?_
      intro H21 hg21 ha21
      have hl21 := ha21.1
      simp only [go_sem, Nat.reduceBEq, Nat.reduceLeDiff, Nat.reduceEqDiff, Nat.reduceSub, Nat.reduceAdd, Int.reduceEq, Int.reduceLT, Int.reduceLE, Int.reduceAdd] at hl21
      have hr21 : r < H21.next := by omega
      have hn21 := ne_new hr21
      have hz21 := ne_new0 hr21
      have hx21 := ne_new' hr21
      have bR21 : H21.get (H.next) = some ([.lit (.int .i64 0), .lit (.string (ba [])), .lit (.string (ba [])), .lit (.string (ba [])), .sl .nil [], .sl .nil [], .sl .nil [], .sl .nil []]) := (ha21.get (by simp only [go_sem, Nat.reduceBEq, Nat.reduceLeDiff, Nat.reduceEqDiff, Nat.reduceSub, Nat.reduceAdd, Int.reduceEq, Int.reduceLT, Int.reduceLE, Int.reduceAdd]; omega) (by omega)).trans (by simp only [go_sem, Nat.reduceBEq, Nat.reduceLeDiff, Nat.reduceEqDiff, Nat.reduceSub, Nat.reduceAdd, Int.reduceEq, Int.reduceLT, Int.reduceLE, Int.reduceAdd, hg20, hn, hz, hn', Nat.add_zero, hn20, hz20, hx20, bR20, cR20, dR20, eR20, rR, qR, pRO, pRS, bO20, cO20, dO20, eO20, rO, qO, pOR, pOS, bS20, cS20, dS20, eS20, rS, qS, pSR, pSO])
      have cR21 : ∀ j, (H21.next + j = H.next) = False := fun j => eq_false (by omega)
      have dR21 : (H21.next = H.next) = False := eq_false (by omega)
      have eR21 : ∀ j, (H.next = H21.next + j) = False := fun j => eq_false (by omega)
      have bO21 : H21.get (H3.next + 2) = some (encOpd o) := (ha21.get (by simp only [go_sem, Nat.reduceBEq, Nat.reduceLeDiff, Nat.reduceEqDiff, Nat.reduceSub, Nat.reduceAdd, Int.reduceEq, Int.reduceLT, Int.reduceLE, Int.reduceAdd]; omega) (by omega)).trans (by simp only [go_sem, Nat.reduceBEq, Nat.reduceLeDiff, Nat.reduceEqDiff, Nat.reduceSub, Nat.reduceAdd, Int.reduceEq, Int.reduceLT, Int.reduceLE, Int.reduceAdd, hg20, hn, hz, hn', Nat.add_zero, hn20, hz20, hx20, bR20, cR20, dR20, eR20, rR, qR, pRO, pRS, bO20, cO20, dO20, eO20, rO, qO, pOR, pOS, bS20, cS20, dS20, eS20, rS, qS, pSR, pSO])
      have cO21 : ∀ j, (H21.next + j = H3.next + 2) = False := fun j => eq_false (by omega)
      have dO21 : (H21.next = H3.next + 2) = False := eq_false (by omega)
      have eO21 : ∀ j, (H3.next + 2 = H21.next + j) = False := fun j => eq_false (by omega)
      have bS21 : H21.get (H4.next + 3) = some ([.lit (.int .i64 0), .lit (.string (ba [])), .lit (.string (ba [])), .lit (.string (ba [])), .sl .ex [encOpd o], .sl .nil [], .sl .nil [], .sl .nil []]) := (ha21.get (by simp only [go_sem, Nat.reduceBEq, Nat.reduceLeDiff, Nat.reduceEqDiff, Nat.reduceSub, Nat.reduceAdd, Int.reduceEq, Int.reduceLT, Int.reduceLE, Int.reduceAdd]; omega) (by omega)).trans (by simp only [go_sem, Nat.reduceBEq, Nat.reduceLeDiff, Nat.reduceEqDiff, Nat.reduceSub, Nat.reduceAdd, Int.reduceEq, Int.reduceLT, Int.reduceLE, Int.reduceAdd, hg20, hn, hz, hn', Nat.add_zero, hn20, hz20, hx20, bR20, cR20, dR20, eR20, rR, qR, pRO, pRS, bO20, cO20, dO20, eO20, rO, qO, pOR, pOS, bS20, cS20, dS20, eS20, rS, qS, pSR, pSO])
      have cS21 : ∀ j, (H21.next + j = H4.next + 3) = False := fun j => eq_false (by omega)
      have dS21 : (H21.next = H4.next + 3) = False := eq_false (by omega)
      have eS21 : ∀ j, (H4.next + 3 = H21.next + j) = False := fun j => eq_false (by omega)
      simp only [go_sem, Nat.reduceBEq, Nat.reduceLeDiff, Nat.reduceEqDiff, Nat.reduceSub, Nat.reduceAdd, Int.reduceEq, Int.reduceLT, Int.reduceLE, Int.reduceAdd, hg21, hn, hz, hn', Nat.add_zero, hn21, hz21, hx21, bR21, cR21, dR21, eR21, rR, qR, pRO, pRS, bO21, cO21, dO21, eO21, rO, qO, pOR, pOS, bS21, cS21, dS21, eS21, rS, qS, pSR, pSO, g0, g2, g4, g5, g32, g33, g34]
      cases h4 : isT l a [40] with
      | true =>
        rw [h4] at hq
        cases hq
        simp only [go_sem, Nat.reduceBEq, Nat.reduceLeDiff, Nat.reduceEqDiff, Nat.reduceSub, Nat.reduceAdd, Int.reduceEq, Int.reduceLT, Int.reduceLE, Int.reduceAdd, hg21, hn, hz, hn', Nat.add_zero, hn21, hz21, hx21, bR21, cR21, dR21, eR21, rR, qR, pRO, pRS, bO21, cO21, dO21, eO21, rO, qO, pOR, pOS, bS21, cS21, dS21, eS21, rS, qS, pSR, pSO, g0, g2, g4, g5, g32, g33, g34]
        refine W_drawE [(1, 3)] [[1, 4, 5], [4, 5], [3, 4, 5], [4, 5], [5], []] (by kernel_rfl) ?_
        simp only [go_sem, Nat.reduceBEq, Nat.reduceLeDiff, Nat.reduceEqDiff, Nat.reduceSub, Nat.reduceAdd, Int.reduceEq, Int.reduceLT, Int.reduceLE, Int.reduceAdd, hg21, hn, hz, hn', Nat.add_zero, hn21, hz21, hx21, bR21, cR21, dR21, eR21, rR, qR, pRO, pRS, bO21, cO21, dO21, eO21, rO, qO, pOR, pOS, bS21, cS21, dS21, eS21, rS, qS, pSR, pSO, g0, g2, g4, g5, g32, g33, g34]
        refine eK_out rfl (c_args (s := a) (l := l) (en := en) hlen hf4 (by first | omega | (simp only [go_sem, Nat.reduceBEq, Nat.reduceLeDiff, Nat.reduceEqDiff, Nat.reduceSub, Nat.reduceAdd, Int.reduceEq, Int.reduceLT, Int.reduceLE, Int.reduceAdd]; omega)) (by first | assumption | simp only [go_sem, Nat.reduceBEq, Nat.reduceLeDiff, Nat.reduceEqDiff, Nat.reduceSub, Nat.reduceAdd, Int.reduceEq, Int.reduceLT, Int.reduceLE, Int.reduceAdd, hg21, hn, hz, hn', Nat.add_zero, hn21, hz21, hx21, bR21, cR21, dR21, eR21, rR, qR, pRO, pRS, bO21, cO21, dO21, eO21, rO, qO, pOR, pOS, bS21, cS21, dS21, eS21, rS, qS, pSR, pSO])) ?_ ?_
        case refine_2 =>
          intro q hq H9 had
          rw [outP_some hq]
          simp only [go_sem, Nat.reduceBEq, Nat.reduceLeDiff, Nat.reduceEqDiff, Nat.reduceSub, Nat.reduceAdd, Int.reduceEq, Int.reduceLT, Int.reduceLE, Int.reduceAdd, san_trouble]
          (repeat first | exact Adv.refl _ _ | assumption | refine Adv.trans ?_ had | refine Adv.trans ?_ ha1 | refine Adv.trans ?_ ha20 | refine Adv.trans ?_ ha21 | refine Adv.trans ?_ ha22 | refine Adv.trans ?_ ha23 | refine Adv.trans ?_ ha2 | refine Adv.trans ?_ ha3 | refine Adv.trans ?_ ha4 | refine Adv.trans ?_ ha5 | refine Adv.trans ?_ ha6 | refine Adv.trans ?_ ha7 | refine Adv.trans ?_ ha8 | refine Adv.trans ?_ ha9 | refine Adv.trans ?_ ha10 | refine Adv.trans ?_ ha11 | refine Adv.trans ?_ ha12 | apply Adv.up | apply Adv.put | refine Adv.new ?_ (by omega) _ | refine Adv.live ?_ (by omega) _ | refine Adv.owns ?_ (by omega) (by first | exact OwnB.lo ‹_› | exact fun _ _ _ h => by cases h))
        intro hf5 H22 hg22 ha22
        have hl22 := ha22.1
        simp only [go_sem, Nat.reduceBEq, Nat.reduceLeDiff, Nat.reduceEqDiff, Nat.reduceSub, Nat.reduceAdd, Int.reduceEq, Int.reduceLT, Int.reduceLE, Int.reduceAdd] at hl22
        have hr22 : r < H22.next := by omega
        have hn22 := ne_new hr22
        have hz22 := ne_new0 hr22
        have hx22 := ne_new' hr22
        have bR22 : H22.get (H.next) = some ([.lit (.int .i64 0), .lit (.string (ba [])), .lit (.string (ba [])), .lit (.string (ba [])), .sl .nil [], .sl .nil [], .sl .nil [], .sl .nil []]) := (ha22.get (by simp only [go_sem, Nat.reduceBEq, Nat.reduceLeDiff, Nat.reduceEqDiff, Nat.reduceSub, Nat.reduceAdd, Int.reduceEq, Int.reduceLT, Int.reduceLE, Int.reduceAdd]; omega) (by omega)).trans (by simp only [go_sem, Nat.reduceBEq, Nat.reduceLeDiff, Nat.reduceEqDiff, Nat.reduceSub, Nat.reduceAdd, Int.reduceEq, Int.reduceLT, Int.reduceLE, Int.reduceAdd, hg21, hn, hz, hn', Nat.add_zero, hn21, hz21, hx21, bR21, cR21, dR21, eR21, rR, qR, pRO, pRS, bO21, cO21, dO21, eO21, rO, qO, pOR, pOS, bS21, cS21, dS21, eS21, rS, qS, pSR, pSO])
        have cR22 : ∀ j, (H22.next + j = H.next) = False := fun j => eq_false (by omega)
        have dR22 : (H22.next = H.next) = False := eq_false (by omega)
        have eR22 : ∀ j, (H.next = H22.next + j) = False := fun j => eq_false (by omega)
        have bO22 : H22.get (H3.next + 2) = some (encOpd o) := (ha22.get (by simp only [go_sem, Nat.reduceBEq, Nat.reduceLeDiff, Nat.reduceEqDiff, Nat.reduceSub, Nat.reduceAdd, Int.reduceEq, Int.reduceLT, Int.reduceLE, Int.reduceAdd]; omega) (by omega)).trans (by simp only [go_sem, Nat.reduceBEq, Nat.reduceLeDiff, Nat.reduceEqDiff, Nat.reduceSub, Nat.reduceAdd, Int.reduceEq, Int.reduceLT, Int.reduceLE, Int.reduceAdd, hg21, hn, hz, hn', Nat.add_zero, hn21, hz21, hx21, bR21, cR21, dR21, eR21, rR, qR, pRO, pRS, bO21, cO21, dO21, eO21, rO, qO, pOR, pOS, bS21, cS21, dS21, eS21, rS, qS, pSR, pSO])
        have cO22 : ∀ j, (H22.next + j = H3.next + 2) = False := fun j => eq_false (by omega)
        have dO22 : (H22.next = H3.next + 2) = False := eq_false (by omega)
        have eO22 : ∀ j, (H3.next + 2 = H22.next + j) = False := fun j => eq_false (by omega)
        have bS22 : H22.get (H4.next + 3) = some ([.lit (.int .i64 0), .lit (.string (ba [])), .lit (.string (ba [])), .lit (.string (ba [])), .sl .ex [encOpd o], .sl .nil [], .sl .nil [], .sl .nil []]) := (ha22.get (by simp only [go_sem, Nat.reduceBEq, Nat.reduceLeDiff, Nat.reduceEqDiff, Nat.reduceSub, Nat.reduceAdd, Int.reduceEq, Int.reduceLT, Int.reduceLE, Int.reduceAdd]; omega) (by omega)).trans (by simp only [go_sem, Nat.reduceBEq, Nat.reduceLeDiff, Nat.reduceEqDiff, Nat.reduceSub, Nat.reduceAdd, Int.reduceEq, Int.reduceLT, Int.reduceLE, Int.reduceAdd, hg21, hn, hz, hn', Nat.add_zero, hn21, hz21, hx21, bR21, cR21, dR21, eR21, rR, qR, pRO, pRS, bO21, cO21, dO21, eO21, rO, qO, pOR, pOS, bS21, cS21, dS21, eS21, rS, qS, pSR, pSO])
        have cS22 : ∀ j, (H22.next + j = H4.next + 3) = False := fun j => eq_false (by omega)
        have dS22 : (H22.next = H4.next + 3) = False := eq_false (by omega)
        have eS22 : ∀ j, (H4.next + 3 = H22.next + j) = False := fun j => eq_false (by omega)
        have hkeep := ha22.keeps (k := H3.next + 2) (by simp only [go_sem, Nat.reduceBEq, Nat.reduceLeDiff, Nat.reduceEqDiff, Nat.reduceSub, Nat.reduceAdd, Int.reduceEq, Int.reduceLT, Int.reduceLE, Int.reduceAdd]; omega) (by omega)
        rw [outP_none hf5]
        simp only [go_sem, Nat.reduceBEq, Nat.reduceLeDiff, Nat.reduceEqDiff, Nat.reduceSub, Nat.reduceAdd, Int.reduceEq, Int.reduceLT, Int.reduceLE, Int.reduceAdd, hg22, hn, hz, hn', Nat.add_zero, hn22, hz22, hx22, bR22, cR22, dR22, eR22, rR, qR, pRO, pRS, bO22, cO22, dO22, eO22, rO, qO, pOR, pOS, bS22, cS22, dS22, eS22, rS, qS, pSR, pSO, rs, hkeep, g0, g2, g4, g5, g32, g33, g34, eM, List.map_cons, List.map_nil]
        (repeat first | exact Adv.refl _ _ | assumption | refine Adv.trans ?_ had | refine Adv.trans ?_ ha1 | refine Adv.trans ?_ ha20 | refine Adv.trans ?_ ha21 | refine Adv.trans ?_ ha22 | refine Adv.trans ?_ ha23 | refine Adv.trans ?_ ha2 | refine Adv.trans ?_ ha3 | refine Adv.trans ?_ ha4 | refine Adv.trans ?_ ha5 | refine Adv.trans ?_ ha6 | refine Adv.trans ?_ ha7 | refine Adv.trans ?_ ha8 | refine Adv.trans ?_ ha9 | refine Adv.trans ?_ ha10 | refine Adv.trans ?_ ha11 | refine Adv.trans ?_ ha12 | apply Adv.up | apply Adv.put | refine Adv.new ?_ (by omega) _ | refine Adv.live ?_ (by omega) _ | refine Adv.owns ?_ (by omega) (by first | exact OwnB.lo ‹_› | exact fun _ _ _ h => by cases h))
      | false =>
        rw [h4] at hq
        simp only at hq
        simp only [go_sem, Nat.reduceBEq, Nat.reduceLeDiff, Nat.reduceEqDiff, Nat.reduceSub, Nat.reduceAdd, Int.reduceEq, Int.reduceLT, Int.reduceLE, Int.reduceAdd, hg21, hn, hz, hn', Nat.add_zero, hn21, hz21, hx21, bR21, cR21, dR21, eR21, rR, qR, pRO, pRS, bO21, cO21, dO21, eO21, rO, qO, pOR, pOS, bS21, cS21, dS21, eS21, rS, qS, pSR, pSO, g0, g2, g4, g5, g32, g33, g34]
        cases h5 : isT l a [46] with
        | true =>
          rw [h5] at hq
          cases hq
          refine goC_ok (c_take_yes (s := a) (l := l) (en := en) hlen hf4 (by first | omega | (simp only [go_sem, Nat.reduceBEq, Nat.reduceLeDiff, Nat.reduceEqDiff, Nat.reduceSub, Nat.reduceAdd, Int.reduceEq, Int.reduceLT, Int.reduceLE, Int.reduceAdd]; omega)) (by first | assumption | simp only [go_sem, Nat.reduceBEq, Nat.reduceLeDiff, Nat.reduceEqDiff, Nat.reduceSub, Nat.reduceAdd, Int.reduceEq, Int.reduceLT, Int.reduceLE, Int.reduceAdd, hg21, hn, hz, hn', Nat.add_zero, hn21, hz21, hx21, bR21, cR21, dR21, eR21, rR, qR, pRO, pRS, bO21, cO21, dO21, eO21, rO, qO, pOR, pOS, bS21, cS21, dS21, eS21, rS, qS, pSR, pSO]) (by decide) h5) ?_
          intro H22 hg22 ha22
          have hl22 := ha22.1
          simp only [go_sem, Nat.reduceBEq, Nat.reduceLeDiff, Nat.reduceEqDiff, Nat.reduceSub, Nat.reduceAdd, Int.reduceEq, Int.reduceLT, Int.reduceLE, Int.reduceAdd] at hl22
          have hr22 : r < H22.next := by omega
          have hn22 := ne_new hr22
          have hz22 := ne_new0 hr22
          have hx22 := ne_new' hr22
          have bR22 : H22.get (H.next) = some ([.lit (.int .i64 0), .lit (.string (ba [])), .lit (.string (ba [])), .lit (.string (ba [])), .sl .nil [], .sl .nil [], .sl .nil [], .sl .nil []]) := (ha22.get (by simp only [go_sem, Nat.reduceBEq, Nat.reduceLeDiff, Nat.reduceEqDiff, Nat.reduceSub, Nat.reduceAdd, Int.reduceEq, Int.reduceLT, Int.reduceLE, Int.reduceAdd]; omega) (by omega)).trans (by simp only [go_sem, Nat.reduceBEq, Nat.reduceLeDiff, Nat.reduceEqDiff, Nat.reduceSub, Nat.reduceAdd, Int.reduceEq, Int.reduceLT, Int.reduceLE, Int.reduceAdd, hg21, hn, hz, hn', Nat.add_zero, hn21, hz21, hx21, bR21, cR21, dR21, eR21, rR, qR, pRO, pRS, bO21, cO21, dO21, eO21, rO, qO, pOR, pOS, bS21, cS21, dS21, eS21, rS, qS, pSR, pSO])
          have cR22 : ∀ j, (H22.next + j = H.next) = False := fun j => eq_false (by omega)
          have dR22 : (H22.next = H.next) = False := eq_false (by omega)
          have eR22 : ∀ j, (H.next = H22.next + j) = False := fun j => eq_false (by omega)
          have bO22 : H22.get (H3.next + 2) = some (encOpd o) := (ha22.get (by simp only [go_sem, Nat.reduceBEq, Nat.reduceLeDiff, Nat.reduceEqDiff, Nat.reduceSub, Nat.reduceAdd, Int.reduceEq, Int.reduceLT, Int.reduceLE, Int.reduceAdd]; omega) (by omega)).trans (by simp only [go_sem, Nat.reduceBEq, Nat.reduceLeDiff, Nat.reduceEqDiff, Nat.reduceSub, Nat.reduceAdd, Int.reduceEq, Int.reduceLT, Int.reduceLE, Int.reduceAdd, hg21, hn, hz, hn', Nat.add_zero, hn21, hz21, hx21, bR21, cR21, dR21, eR21, rR, qR, pRO, pRS, bO21, cO21, dO21, eO21, rO, qO, pOR, pOS, bS21, cS21, dS21, eS21, rS, qS, pSR, pSO])
          have cO22 : ∀ j, (H22.next + j = H3.next + 2) = False := fun j => eq_false (by omega)
          have dO22 : (H22.next = H3.next + 2) = False := eq_false (by omega)
          have eO22 : ∀ j, (H3.next + 2 = H22.next + j) = False := fun j => eq_false (by omega)
          have bS22 : H22.get (H4.next + 3) = some ([.lit (.int .i64 0), .lit (.string (ba [])), .lit (.string (ba [])), .lit (.string (ba [])), .sl .ex [encOpd o], .sl .nil [], .sl .nil [], .sl .nil []]) := (ha22.get (by simp only [go_sem, Nat.reduceBEq, Nat.reduceLeDiff, Nat.reduceEqDiff, Nat.reduceSub, Nat.reduceAdd, Int.reduceEq, Int.reduceLT, Int.reduceLE, Int.reduceAdd]; omega) (by omega)).trans (by simp only [go_sem, Nat.reduceBEq, Nat.reduceLeDiff, Nat.reduceEqDiff, Nat.reduceSub, Nat.reduceAdd, Int.reduceEq, Int.reduceLT, Int.reduceLE, Int.reduceAdd, hg21, hn, hz, hn', Nat.add_zero, hn21, hz21, hx21, bR21, cR21, dR21, eR21, rR, qR, pRO, pRS, bO21, cO21, dO21, eO21, rO, qO, pOR, pOS, bS21, cS21, dS21, eS21, rS, qS, pSR, pSO])
          have cS22 : ∀ j, (H22.next + j = H4.next + 3) = False := fun j => eq_false (by omega)
          have dS22 : (H22.next = H4.next + 3) = False := eq_false (by omega)
          have eS22 : ∀ j, (H4.next + 3 = H22.next + j) = False := fun j => eq_false (by omega)
          simp only [go_sem, Nat.reduceBEq, Nat.reduceLeDiff, Nat.reduceEqDiff, Nat.reduceSub, Nat.reduceAdd, Int.reduceEq, Int.reduceLT, Int.reduceLE, Int.reduceAdd, hg22, hn, hz, hn', Nat.add_zero, hn22, hz22, hx22, bR22, cR22, dR22, eR22, rR, qR, pRO, pRS, bO22, cO22, dO22, eO22, rO, qO, pOR, pOS, bS22, cS22, dS22, eS22, rS, qS, pSR, pSO, g0, g2, g4, g5, g32, g33, g34]
          refine W_drawE [(1, 3)] [[1, 4, 5], [4, 5], [3, 4, 5], [4, 5], [5], []] (by kernel_rfl) ?_
          simp only [go_sem, Nat.reduceBEq, Nat.reduceLeDiff, Nat.reduceEqDiff, Nat.reduceSub, Nat.reduceAdd, Int.reduceEq, Int.reduceLT, Int.reduceLE, Int.reduceAdd, hg22, hn, hz, hn', Nat.add_zero, hn22, hz22, hx22, bR22, cR22, dR22, eR22, rR, qR, pRO, pRS, bO22, cO22, dO22, eO22, rO, qO, pOR, pOS, bS22, cS22, dS22, eS22, rS, qS, pSR, pSO, g0, g2, g4, g5, g32, g33, g34]
          refine eK_out rfl (c_name (s := a.adv) (l := l) (en := en) hlen hf4 (by first | omega | (simp only [go_sem, Nat.reduceBEq, Nat.reduceLeDiff, Nat.reduceEqDiff, Nat.reduceSub, Nat.reduceAdd, Int.reduceEq, Int.reduceLT, Int.reduceLE, Int.reduceAdd]; omega)) (by first | assumption | simp only [go_sem, Nat.reduceBEq, Nat.reduceLeDiff, Nat.reduceEqDiff, Nat.reduceSub, Nat.reduceAdd, Int.reduceEq, Int.reduceLT, Int.reduceLE, Int.reduceAdd, hg22, hn, hz, hn', Nat.add_zero, hn22, hz22, hx22, bR22, cR22, dR22, eR22, rR, qR, pRO, pRS, bO22, cO22, dO22, eO22, rO, qO, pOR, pOS, bS22, cS22, dS22, eS22, rS, qS, pSR, pSO])) ?_ ?_
          case refine_2 =>
            intro q hq H9 had
            rw [outP_some hq]
            simp only [go_sem, Nat.reduceBEq, Nat.reduceLeDiff, Nat.reduceEqDiff, Nat.reduceSub, Nat.reduceAdd, Int.reduceEq, Int.reduceLT, Int.reduceLE, Int.reduceAdd, san_trouble]
            (repeat first | exact Adv.refl _ _ | assumption | refine Adv.trans ?_ had | refine Adv.trans ?_ ha1 | refine Adv.trans ?_ ha20 | refine Adv.trans ?_ ha21 | refine Adv.trans ?_ ha22 | refine Adv.trans ?_ ha23 | refine Adv.trans ?_ ha2 | refine Adv.trans ?_ ha3 | refine Adv.trans ?_ ha4 | refine Adv.trans ?_ ha5 | refine Adv.trans ?_ ha6 | refine Adv.trans ?_ ha7 | refine Adv.trans ?_ ha8 | refine Adv.trans ?_ ha9 | refine Adv.trans ?_ ha10 | refine Adv.trans ?_ ha11 | refine Adv.trans ?_ ha12 | apply Adv.up | apply Adv.put | refine Adv.new ?_ (by omega) _ | refine Adv.live ?_ (by omega) _ | refine Adv.owns ?_ (by omega) (by first | exact OwnB.lo ‹_› | exact fun _ _ _ h => by cases h))
          intro hf5 H23 hg23 ha23
          have hl23 := ha23.1
          simp only [go_sem, Nat.reduceBEq, Nat.reduceLeDiff, Nat.reduceEqDiff, Nat.reduceSub, Nat.reduceAdd, Int.reduceEq, Int.reduceLT, Int.reduceLE, Int.reduceAdd] at hl23
          have hr23 : r < H23.next := by omega
          have hn23 := ne_new hr23
          have hz23 := ne_new0 hr23
          have hx23 := ne_new' hr23
          have bR23 : H23.get (H.next) = some ([.lit (.int .i64 0), .lit (.string (ba [])), .lit (.string (ba [])), .lit (.string (ba [])), .sl .nil [], .sl .nil [], .sl .nil [], .sl .nil []]) := (ha23.get (by simp only [go_sem, Nat.reduceBEq, Nat.reduceLeDiff, Nat.reduceEqDiff, Nat.reduceSub, Nat.reduceAdd, Int.reduceEq, Int.reduceLT, Int.reduceLE, Int.reduceAdd]; omega) (by omega)).trans (by simp only [go_sem, Nat.reduceBEq, Nat.reduceLeDiff, Nat.reduceEqDiff, Nat.reduceSub, Nat.reduceAdd, Int.reduceEq, Int.reduceLT, Int.reduceLE, Int.reduceAdd, hg22, hn, hz, hn', Nat.add_zero, hn22, hz22, hx22, bR22, cR22, dR22, eR22, rR, qR, pRO, pRS, bO22, cO22, dO22, eO22, rO, qO, pOR, pOS, bS22, cS22, dS22, eS22, rS, qS, pSR, pSO])
          have cR23 : ∀ j, (H23.next + j = H.next) = False := fun j => eq_false (by omega)
          have dR23 : (H23.next = H.next) = False := eq_false (by omega)
          have eR23 : ∀ j, (H.next = H23.next + j) = False := fun j => eq_false (by omega)
          have bO23 : H23.get (H3.next + 2) = some (encOpd o) := (ha23.get (by simp only [go_sem, Nat.reduceBEq, Nat.reduceLeDiff, Nat.reduceEqDiff, Nat.reduceSub, Nat.reduceAdd, Int.reduceEq, Int.reduceLT, Int.reduceLE, Int.reduceAdd]; omega) (by omega)).trans (by simp only [go_sem, Nat.reduceBEq, Nat.reduceLeDiff, Nat.reduceEqDiff, Nat.reduceSub, Nat.reduceAdd, Int.reduceEq, Int.reduceLT, Int.reduceLE, Int.reduceAdd, hg22, hn, hz, hn', Nat.add_zero, hn22, hz22, hx22, bR22, cR22, dR22, eR22, rR, qR, pRO, pRS, bO22, cO22, dO22, eO22, rO, qO, pOR, pOS, bS22, cS22, dS22, eS22, rS, qS, pSR, pSO])
          have cO23 : ∀ j, (H23.next + j = H3.next + 2) = False := fun j => eq_false (by omega)
          have dO23 : (H23.next = H3.next + 2) = False := eq_false (by omega)
          have eO23 : ∀ j, (H3.next + 2 = H23.next + j) = False := fun j => eq_false (by omega)
          have bS23 : H23.get (H4.next + 3) = some ([.lit (.int .i64 0), .lit (.string (ba [])), .lit (.string (ba [])), .lit (.string (ba [])), .sl .ex [encOpd o], .sl .nil [], .sl .nil [], .sl .nil []]) := (ha23.get (by simp only [go_sem, Nat.reduceBEq, Nat.reduceLeDiff, Nat.reduceEqDiff, Nat.reduceSub, Nat.reduceAdd, Int.reduceEq, Int.reduceLT, Int.reduceLE, Int.reduceAdd]; omega) (by omega)).trans (by simp only [go_sem, Nat.reduceBEq, Nat.reduceLeDiff, Nat.reduceEqDiff, Nat.reduceSub, Nat.reduceAdd, Int.reduceEq, Int.reduceLT, Int.reduceLE, Int.reduceAdd, hg22, hn, hz, hn', Nat.add_zero, hn22, hz22, hx22, bR22, cR22, dR22, eR22, rR, qR, pRO, pRS, bO22, cO22, dO22, eO22, rO, qO, pOR, pOS, bS22, cS22, dS22, eS22, rS, qS, pSR, pSO])
          have cS23 : ∀ j, (H23.next + j = H4.next + 3) = False := fun j => eq_false (by omega)
          have dS23 : (H23.next = H4.next + 3) = False := eq_false (by omega)
          have eS23 : ∀ j, (H4.next + 3 = H23.next + j) = False := fun j => eq_false (by omega)
          have hkeep := ha23.keeps (k := H3.next + 2) (by simp only [go_sem, Nat.reduceBEq, Nat.reduceLeDiff, Nat.reduceEqDiff, Nat.reduceSub, Nat.reduceAdd, Int.reduceEq, Int.reduceLT, Int.reduceLE, Int.reduceAdd]; omega) (by omega)
          rw [outP_none hf5]
          simp only [go_sem, Nat.reduceBEq, Nat.reduceLeDiff, Nat.reduceEqDiff, Nat.reduceSub, Nat.reduceAdd, Int.reduceEq, Int.reduceLT, Int.reduceLE, Int.reduceAdd, hg23, hn, hz, hn', Nat.add_zero, hn23, hz23, hx23, bR23, cR23, dR23, eR23, rR, qR, pRO, pRS, bO23, cO23, dO23, eO23, rO, qO, pOR, pOS, bS23, cS23, dS23, eS23, rS, qS, pSR, pSO, rs, hkeep, g0, g2, g4, g5, g32, g33, g34, eM, List.map_cons, List.map_nil]
          (repeat first | exact Adv.refl _ _ | assumption | refine Adv.trans ?_ had | refine Adv.trans ?_ ha1 | refine Adv.trans ?_ ha20 | refine Adv.trans ?_ ha21 | refine Adv.trans ?_ ha22 | refine Adv.trans ?_ ha23 | refine Adv.trans ?_ ha2 | refine Adv.trans ?_ ha3 | refine Adv.trans ?_ ha4 | refine Adv.trans ?_ ha5 | refine Adv.trans ?_ ha6 | refine Adv.trans ?_ ha7 | refine Adv.trans ?_ ha8 | refine Adv.trans ?_ ha9 | refine Adv.trans ?_ ha10 | refine Adv.trans ?_ ha11 | refine Adv.trans ?_ ha12 | apply Adv.up | apply Adv.put | refine Adv.new ?_ (by omega) _ | refine Adv.live ?_ (by omega) _ | refine Adv.owns ?_ (by omega) (by first | exact OwnB.lo ‹_› | exact fun _ _ _ h => by cases h))
        | false =>
          rw [h5] at hq
          simp only at hq
          have hq1 : a = q1 := congrArg Prod.fst hq
          have hq2 : GStmt.mk 0 [] [] [] [o] [] [] [] = q2 := congrArg Prod.snd hq
          subst hq2
          subst hq1
          refine goC_ok (c_take_no (s := a) (l := l) (en := en) hlen hf4 (by first | omega | (simp only [go_sem, Nat.reduceBEq, Nat.reduceLeDiff, Nat.reduceEqDiff, Nat.reduceSub, Nat.reduceAdd, Int.reduceEq, Int.reduceLT, Int.reduceLE, Int.reduceAdd]; omega)) (by first | assumption | simp only [go_sem, Nat.reduceBEq, Nat.reduceLeDiff, Nat.reduceEqDiff, Nat.reduceSub, Nat.reduceAdd, Int.reduceEq, Int.reduceLT, Int.reduceLE, Int.reduceAdd, hg21, hn, hz, hn', Nat.add_zero, hn21, hz21, hx21, bR21, cR21, dR21, eR21, rR, qR, pRO, pRS, bO21, cO21, dO21, eO21, rO, qO, pOR, pOS, bS21, cS21, dS21, eS21, rS, qS, pSR, pSO]) (by decide) h5) ?_
          intro H22 hg22 ha22
          have hl22 := ha22.1
          simp only [go_sem, Nat.reduceBEq, Nat.reduceLeDiff, Nat.reduceEqDiff, Nat.reduceSub, Nat.reduceAdd, Int.reduceEq, Int.reduceLT, Int.reduceLE, Int.reduceAdd] at hl22
          have hr22 : r < H22.next := by omega
          have hn22 := ne_new hr22
          have hz22 := ne_new0 hr22
          have hx22 := ne_new' hr22
          have bR22 : H22.get (H.next) = some ([.lit (.int .i64 0), .lit (.string (ba [])), .lit (.string (ba [])), .lit (.string (ba [])), .sl .nil [], .sl .nil [], .sl .nil [], .sl .nil []]) := (ha22.get (by simp only [go_sem, Nat.reduceBEq, Nat.reduceLeDiff, Nat.reduceEqDiff, Nat.reduceSub, Nat.reduceAdd, Int.reduceEq, Int.reduceLT, Int.reduceLE, Int.reduceAdd]; omega) (by omega)).trans (by simp only [go_sem, Nat.reduceBEq, Nat.reduceLeDiff, Nat.reduceEqDiff, Nat.reduceSub, Nat.reduceAdd, Int.reduceEq, Int.reduceLT, Int.reduceLE, Int.reduceAdd, hg21, hn, hz, hn', Nat.add_zero, hn21, hz21, hx21, bR21, cR21, dR21, eR21, rR, qR, pRO, pRS, bO21, cO21, dO21, eO21, rO, qO, pOR, pOS, bS21, cS21, dS21, eS21, rS, qS, pSR, pSO])
          have cR22 : ∀ j, (H22.next + j = H.next) = False := fun j => eq_false (by omega)
          have dR22 : (H22.next = H.next) = False := eq_false (by omega)
          have eR22 : ∀ j, (H.next = H22.next + j) = False := fun j => eq_false (by omega)
          have bO22 : H22.get (H3.next + 2) = some (encOpd o) := (ha22.get (by simp only [go_sem, Nat.reduceBEq, Nat.reduceLeDiff, Nat.reduceEqDiff, Nat.reduceSub, Nat.reduceAdd, Int.reduceEq, Int.reduceLT, Int.reduceLE, Int.reduceAdd]; omega) (by omega)).trans (by simp only [go_sem, Nat.reduceBEq, Nat.reduceLeDiff, Nat.reduceEqDiff, Nat.reduceSub, Nat.reduceAdd, Int.reduceEq, Int.reduceLT, Int.reduceLE, Int.reduceAdd, hg21, hn, hz, hn', Nat.add_zero, hn21, hz21, hx21, bR21, cR21, dR21, eR21, rR, qR, pRO, pRS, bO21, cO21, dO21, eO21, rO, qO, pOR, pOS, bS21, cS21, dS21, eS21, rS, qS, pSR, pSO])
          have cO22 : ∀ j, (H22.next + j = H3.next + 2) = False := fun j => eq_false (by omega)
          have dO22 : (H22.next = H3.next + 2) = False := eq_false (by omega)
          have eO22 : ∀ j, (H3.next + 2 = H22.next + j) = False := fun j => eq_false (by omega)
          have bS22 : H22.get (H4.next + 3) = some ([.lit (.int .i64 0), .lit (.string (ba [])), .lit (.string (ba [])), .lit (.string (ba [])), .sl .ex [encOpd o], .sl .nil [], .sl .nil [], .sl .nil []]) := (ha22.get (by simp only [go_sem, Nat.reduceBEq, Nat.reduceLeDiff, Nat.reduceEqDiff, Nat.reduceSub, Nat.reduceAdd, Int.reduceEq, Int.reduceLT, Int.reduceLE, Int.reduceAdd]; omega) (by omega)).trans (by simp only [go_sem, Nat.reduceBEq, Nat.reduceLeDiff, Nat.reduceEqDiff, Nat.reduceSub, Nat.reduceAdd, Int.reduceEq, Int.reduceLT, Int.reduceLE, Int.reduceAdd, hg21, hn, hz, hn', Nat.add_zero, hn21, hz21, hx21, bR21, cR21, dR21, eR21, rR, qR, pRO, pRS, bO21, cO21, dO21, eO21, rO, qO, pOR, pOS, bS21, cS21, dS21, eS21, rS, qS, pSR, pSO])
          have cS22 : ∀ j, (H22.next + j = H4.next + 3) = False := fun j => eq_false (by omega)
          have dS22 : (H22.next = H4.next + 3) = False := eq_false (by omega)
          have eS22 : ∀ j, (H4.next + 3 = H22.next + j) = False := fun j => eq_false (by omega)
          rw [outP_none hf4]
          simp only [go_sem, Nat.reduceBEq, Nat.reduceLeDiff, Nat.reduceEqDiff, Nat.reduceSub, Nat.reduceAdd, Int.reduceEq, Int.reduceLT, Int.reduceLE, Int.reduceAdd, hg22, hn, hz, hn', Nat.add_zero, hn22, hz22, hx22, bR22, cR22, dR22, eR22, rR, qR, pRO, pRS, bO22, cO22, dO22, eO22, rO, qO, pOR, pOS, bS22, cS22, dS22, eS22, rS, qS, pSR, pSO, rs, g0, g2, g4, g5, g32, g33, g34, eM, List.map_cons, List.map_nil]
          (repeat first | exact Adv.refl _ _ | assumption | refine Adv.trans ?_ had | refine Adv.trans ?_ ha1 | refine Adv.trans ?_ ha20 | refine Adv.trans ?_ ha21 | refine Adv.trans ?_ ha22 | refine Adv.trans ?_ ha23 | refine Adv.trans ?_ ha2 | refine Adv.trans ?_ ha3 | refine Adv.trans ?_ ha4 | refine Adv.trans ?_ ha5 | refine Adv.trans ?_ ha6 | refine Adv.trans ?_ ha7 | refine Adv.trans ?_ ha8 | refine Adv.trans ?_ ha9 | refine Adv.trans ?_ ha10 | refine Adv.trans ?_ ha11 | refine Adv.trans ?_ ha12 | apply Adv.up | apply Adv.put | refine Adv.new ?_ (by omega) _ | refine Adv.live ?_ (by omega) _ | refine Adv.owns ?_ (by omega) (by first | exact OwnB.lo ‹_› | exact fun _ _ _ h => by cases h))
    · have dk : decide (o.kind = 4) = false := by simp [hk]
      have dk' : decide (o.kind = 4) = false := by simp [hk]
      simp only [dk', Bool.false_and] at hq
      have hq1 : a = q1 := congrArg Prod.fst hq
      have hq2 : GStmt.mk 0 [] [] [] [o] [] [] [] = q2 := congrArg Prod.snd hq
      subst hq2
      subst hq1
      rw [outP_none hf4]
      simp only [go_sem, Nat.reduceBEq, Nat.reduceLeDiff, Nat.reduceEqDiff, Nat.reduceSub, Nat.reduceAdd, Int.reduceEq, Int.reduceLT, Int.reduceLE, Int.reduceAdd, hg20, hn, hz, hn', Nat.add_zero, hn20, hz20, hx20, bR20, cR20, dR20, eR20, rR, qR, pRO, pRS, bO20, cO20, dO20, eO20, rO, qO, pOR, pOS, bS20, cS20, dS20, eS20, rS, qS, pSR, pSO, rs, g0, g2, g4, g5, g32, g33, g34, hi', dk, eM, List.map_cons, List.map_nil]
      (repeat first | exact Adv.refl _ _ | assumption | refine Adv.trans ?_ had | refine Adv.trans ?_ ha1 | refine Adv.trans ?_ ha20 | refine Adv.trans ?_ ha21 | refine Adv.trans ?_ ha22 | refine Adv.trans ?_ ha23 | refine Adv.trans ?_ ha2 | refine Adv.trans ?_ ha3 | refine Adv.trans ?_ ha4 | refine Adv.trans ?_ ha5 | refine Adv.trans ?_ ha6 | refine Adv.trans ?_ ha7 | refine Adv.trans ?_ ha8 | refine Adv.trans ?_ ha9 | refine Adv.trans ?_ ha10 | refine Adv.trans ?_ ha11 | refine Adv.trans ?_ ha12 | apply Adv.up | apply Adv.put | refine Adv.new ?_ (by omega) _ | refine Adv.live ?_ (by omega) _ | refine Adv.owns ?_ (by omega) (by first | exact OwnB.lo ‹_› | exact fun _ _ _ h => by cases h))
end
end Go.Proofs.YtghhkbigmmjanaaGreatDoor.VA
