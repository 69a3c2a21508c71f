/- What is proved: what the parser's blocks and functions answer, or panic with, in the abstract interpreter (VA). Condition: no more tokens than a machine holds.
What is proved: how one table's answers carry over to a larger one, and how pieces of code answer in a world, in the abstract interpreter (VA). No condition.
What is proved: what the parser's reader does behind its deferred call, in the abstract interpreter (VA). Condition: no more tokens than a machine holds.
What is proved: what the reader's deferred closure does: nothing behind a return; it lays the fault behind a panic. Condition, of the second: the two results lie where the closure looks.
What is proved: what the parser's reader comes to, panics and all: what the document's parser says. Condition: the table of what is told is sound; no more tokens than a machine holds.
What is proved: the parser's reader comes to what the document's parser says, in every world that its arguments mean something in. Condition: the table of what is told is sound.
What is proved: how the document's parser reads words that stand next, in plain Lean, with no program in sight. No condition.
What is proved: how the document's parser reads the words of lists and of what is set, in plain Lean, with no program in sight. No condition.
What is proved: which statements may be, and how the document's parser reads their words, in plain Lean, with no program in sight. No condition.
What is proved: what the document's parser answers for operands and lists is right, in plain Lean, with no program in sight. No condition.
What is proved: how the document's parser reads the words of statements without blocks, in plain Lean, with no program in sight. No condition.
What is proved: how the document's parser reads the words of statements, blocks and programs, in plain Lean, with no program in sight. No condition.
What is proved: a right program is read from its words as it was, in plain Lean, with no program in sight. No condition.
What is proved: plain laws of the lexer on lists of bytes: two texts with a byte 10 between; places that are moved. No program in sight. No condition.
What is proved: a right program is parsed from its print as it was, in plain Lean, with no program in sight. No condition.
What is proved: what the document's parser answers is a right program of at most 2000 statements, in plain Lean, with no program in sight. No condition.
What is proved: a right program, if it is not too long, is parsed from its print as it was, in plain Lean, with no program in sight. No condition.
What is proved: a program may be printed, as the code finds by parsing, just where it is right and not too long, in plain Lean, with no program in sight. Condition: no list is too long. -/
import Derived.Test.YtghhkbigmmjanaaGreatDoorM7
import Derived.Test.YtghhkbigmmjanaaGreatDoorM6
import Derived.Test.YtghhkbigmmjanaaGreatDoorM3
import Derived.Recover
import Derived.Tactics
import Derived.Tactics2
import Derived.Defers
import Derived.WideLaws
import Derived.Test.YtghhkbigmmjanaaGreatDoorM5
/-! Pf1 -/
namespace Go.Proofs.YtghhkbigmmjanaaGreatDoor.VA
open Go Go.RowKit
attribute [local go_sem] Nat.add_eq_left Nat.left_eq_add true_and and_true ite_true if_false Int.cast_ofNat_Int eq_self Nat.add_assoc Option.some.injEq decide_true decide_false Bool.not_true Bool.not_false List.size_toArray List.length_cons List.length_nil
set_option linter.unusedSimpArgs false
set_option maxRecDepth 100000

section
variable {l : List GTok} {en : Int} {r : Nat} {s : PS} {H : Heap}
set_option maxRecDepth 20000 in
theorem c_pBlock (hlen : l.length ≤ LM) (n : Nat) (ihs : ∀ k, k < n → PStmtOk l en k) : PBlockOk l en (n + 1) := by
 intro r s deep H hn hdeep hf hr hg
 obtain ⟨q1, q2, hq⟩ : ∃ q1 q2, blockF l en (n + 1) s deep = (q1, q2) := ⟨_, _, rfl⟩
 rw [hq]
 show PCall _ _ _ _ _ _ (outP l en q1 (.sl .sh (q2.map encStmt)))
 refine PCall_of' (fn := Tryz.f85) rfl rfl rfl rfl rfl ?_
 have rs : Tryz.f85.results.toList = [.tmp 4] := rfl
 unfold blockF at hq
 have d : decide (32 ≤ ((deep : Nat) : Int)) = decide (32 ≤ deep) := by rw [Bool.eq_iff_iff]; simp; omega
 simp only [go_sem, simprocAttr]
 refine goC_ok (c_is (s := s) (l := l) (en := en) hlen hf (by simp only [go_sem, simprocAttr]; omega) (by simp only [go_sem, simprocAttr, hg]) [123] (by decide)) ?_
 intro H1 hg1 ha1
 have hl1 := ha1.1
 simp only [go_sem, simprocAttr] at hl1
 cases h1 : isT l s [123] with
 | false =>
  simp only [h1, Bool.false_and] at hq
  simp only [go_sem, simprocAttr, hg1]
  refine goC_out (c_need (s := s) (l := l) (en := en) hlen hf (by simp only [go_sem, simprocAttr]; omega) (by simp only [go_sem, simprocAttr, hg1]) [123] (by decide)) ?_ ?_
  ·intro hf2
   have : (need l en s [123]).ok = false := by simp only [need, h1]; exact pfail_bad _ _
   rw [ok_none hf2] at this; cases this
  ·intro q9 hq9 H9 had
   rw [outP_some (show q1.f = some q9 by rw [show q1 = (bodyF l en n (need l en s [123]) deep []).1 by rw [hq], bodyF_bad (ok_some hq9)]; exact hq9)]
   simp only [go_sem, simprocAttr, san_trouble]
   (repeat first | exact Adv.refl _ _ | assumption | refine Adv.trans ?_ ‹Adv _ _ _› | apply Adv.up | apply Adv.put | refine Adv.new ?_ (by omega) _ | refine Adv.live ?_ (by omega) _ | refine Adv.owns ?_ (by omega) (by first | exact OwnB.lo ‹_› | exact fun _ _ _ h => by cases h))
 | true =>
 cases h2 : decide (32 ≤ deep) with
 | true =>
  simp only [h1, h2, Bool.and_self] at hq
  cases hq
  rw [outP_fail hf]
  simp only [go_sem, simprocAttr, hg1, d, h2]
  refine goC_bad (c_fail (s := s) (l := l) (en := en) (by simp only [go_sem, simprocAttr]; omega) (by simp only [go_sem, simprocAttr, hg1]) 1 rfl) ?_
  intro H9 had
  simp only [go_sem, simprocAttr, san_trouble]
  (repeat first | exact Adv.refl _ _ | assumption | refine Adv.trans ?_ ‹Adv _ _ _› | apply Adv.up | apply Adv.put | refine Adv.new ?_ (by omega) _ | refine Adv.live ?_ (by omega) _ | refine Adv.owns ?_ (by omega) (by first | exact OwnB.lo ‹_› | exact fun _ _ _ h => by cases h))
 | false =>
 simp only [h1, h2, Bool.and_false] at hq
 have hdp : ¬ 32 ≤ deep := by simpa using h2
 simp only [go_sem, simprocAttr, hg1, d, h2]
 refine goC_out (c_need (s := s) (l := l) (en := en) hlen hf (by simp only [go_sem, simprocAttr]; omega) (by simp only [go_sem, simprocAttr, hg1]) [123] (by decide)) ?_ ?_
 case refine_2 =>
  intro q9 hq9 H9 had
  rw [outP_some (show q1.f = some q9 by rw [show q1 = (bodyF l en n (need l en s [123]) deep []).1 by rw [hq], bodyF_bad (ok_some hq9)]; exact hq9)]
  simp only [go_sem, simprocAttr, san_trouble]
  (repeat first | exact Adv.refl _ _ | assumption | refine Adv.trans ?_ ‹Adv _ _ _› | apply Adv.up | apply Adv.put | refine Adv.new ?_ (by omega) _ | refine Adv.live ?_ (by omega) _ | refine Adv.owns ?_ (by omega) (by first | exact OwnB.lo ‹_› | exact fun _ _ _ h => by cases h))
 intro hf2 H2 hg2 ha2
 have hl2 := ha2.1
 simp only [go_sem, simprocAttr] at hl2
 have hlt := need_lt (l := l) (en := en) s [123]
 obtain ⟨_, hat1, hat2⟩ := hlt (ok_none hf2)
 have hrem := (rem_lt hlt).1
 have had : Adv r H H2 := by
  (repeat first | exact Adv.refl _ _ | assumption | refine Adv.trans ?_ ‹Adv _ _ _› | apply Adv.up | apply Adv.put | refine Adv.new ?_ (by omega) _ | refine Adv.live ?_ (by omega) _ | refine Adv.owns ?_ (by omega) (by first | exact OwnB.lo ‹_› | exact fun _ _ _ h => by cases h))
 generalize need l en s [123] = s at hq hlt hrem hf2 hg2 hat1 hat2
 simp only [go_sem, simprocAttr]
 refine W_loop_ind (fun x e H' => ∃ (s : PS) (acc : List GStmt) (o : Own) (k : Nat), x = ms l s ∧ k < n + 1 ∧ 3 * rem l s + 2 ≤ k ∧ s.f = none ∧ bodyF l en k s deep acc = (q1, q2) ∧ acc.length ≤ s.at_ ∧ s.at_ ≤ l.length ∧
   gget .bad e 0 = .ptr r 0 ∧ gget .bad e 1 = .lit (.int .i64 (deep : Nat)) ∧ gget .bad e 5 = .sl o (acc.map encStmt) ∧ H'.get r = some (cP l en s) ∧ r < H'.next ∧ Adv r H H' ∧ OwnB H' o 40 8 H.next)
  (ms l s) ⟨s, [], .nil, n, rfl, by omega, by omega, hf2, hq, by simp, hat2, by simp only [go_sem, simprocAttr], by simp only [go_sem, simprocAttr], by simp only [go_sem, simprocAttr, List.map_nil], by simp only [go_sem, simprocAttr, hg2], by simp only [go_sem, simprocAttr]; omega, had.up 1, OwnB.nil _ _ _ _⟩ ?_
 clear had hat1 hat2 hlt hrem hf2 hg2 ha2 hl2 hq h1 ha1 hg1 hl1 hf hg hn h2 s
 rintro x ih e H3 ⟨s, acc, o, k, rfl, hkn, hkr, hf, hq, hb1, hb2, e0, e1, e5, hg3, hr3, ha3, ho⟩
 obtain ⟨k, rfl⟩ : ∃ j, k = j + 1 := ⟨k - 1, by omega⟩
 have hok := ok_none hf
 simp only [go_sem, simprocAttr, e0, e1, e5]
 cases h5 : isT l s [125] with
 | true =>
  have hq' : (s.adv, acc) = (q1, q2) := by rw [← hq]; simp only [bodyF, h5, Bool.not_true, Bool.and_false, needYes h5]
  cases hq'
  rw [outP_none (show s.adv.f = none from hf)]
  refine goC_ok (c_take_yes (s := s) (l := l) (en := en) hlen hf (by simp only [go_sem, simprocAttr]; omega) (by simp only [go_sem, simprocAttr, hg3]) (by decide) h5) ?_
  intro H4 hg4 ha4
  simp only [go_sem, simprocAttr, rs, e5, sanLL_encStmt, hg4]
  exact ((ha3.up 3).trans ha4).up 2
 | false =>
  have hq' : bodyF l en k (stmtF l en k s (deep + 1)).1 deep (acc ++ [(stmtF l en k s (deep + 1)).2]) = (q1, q2) := by rw [← hq]; simp only [bodyF, hok, h5, Bool.not_false, Bool.and_self]
  refine goC_ok (c_take_no (s := s) (l := l) (en := en) hlen hf (by simp only [go_sem, simprocAttr]; omega) (by simp only [go_sem, simprocAttr, hg3]) (by decide) h5) ?_
  intro H4 hg4 ha4
  have hl4 := ha4.1
  simp only [go_sem, simprocAttr] at hl4
  have hwd := wrap1 (show deep + 1 ≤ 9223372036854775807 by omega)
  simp only [go_sem, simprocAttr, e0, e1, e5, hwd]
  refine goC_out (ihs k (by omega) r s (deep + 1) _ (by omega) (by omega) hf (by simp only [go_sem, simprocAttr]; omega) (by simp only [go_sem, simprocAttr, hg4])) ?_ ?_
  ·intro hf5 H5 hg5 ha5
   have hl5 := ha5.1
   simp only [go_sem, simprocAttr] at hl5
   have hap := fun o x H id h => app_stm hlen (acc := acc) (by omega) o x H id h
   have ho5 := ((((ho.up 3).adv ha4 hr).up 8).adv ha5 hr)
   have hoA := ho5.appOk acc.length
   have hol := ho5.lo
   have hlt := stmtF_lt (l := l) (en := en) k s (deep + 1)
   have hms := ms_lt hlt hok
   obtain ⟨_, q5, q6⟩ := hlt (ok_none hf5)
   have hrl := (rem_lt hlt).2 hok (by omega)
   have ha6 := (((ha3.up 3).trans ha4).up 8).trans ha5
   have hnx := ha3.1
   simp only [go_sem, simprocAttr, e0, e1, e5, hap, hoA]
   exact ih _ hms _ _ ⟨_, _, _, k, rfl, by omega, by omega, hf5, hq', by simp only [List.length_append, List.length_cons, List.length_nil]; omega, q6, by simp only [go_sem, simprocAttr, e0], by simp only [go_sem, simprocAttr, e1], by simp only [go_sem, simprocAttr] <;> rfl, by simp only [go_sem, simprocAttr, hg5],
    by simp only [go_sem, simprocAttr]; omega, Adv.owns ha6 (by omega) hol, OwnB.app _ _ _ _ _ _ (by omega) (by omega)⟩
  ·intro q9 hq9 H9 had
   rw [outP_some (show q1.f = some q9 by rw [show q1 = (bodyF l en k (stmtF l en k s (deep + 1)).1 deep (acc ++ [(stmtF l en k s (deep + 1)).2])).1 by rw [hq'], bodyF_bad (ok_some hq9)]; exact hq9)]
   simp only [go_sem, simprocAttr, san_trouble]
   exact (((ha3.up 3).trans ha4).up 8).trans had
theorem c_pBlocks (hlen : l.length ≤ LM) : ∀ n, PStmtOk l en n ∧ PBlockOk l en n := by
 intro n
 induction n using Nat.strongRecOn with
 | ind n ih =>
  cases n with
  | zero => exact ⟨fun r s deep H h => by omega, fun r s deep H h => by omega⟩
  | succ n => exact ⟨c_stmt hlen n (ih n (by omega)).2, c_pBlock hlen n fun k hk => (ih k (by omega)).1⟩
set_option maxRecDepth 20000 in
theorem c_function (hlen : l.length ≤ LM) (hf : s.f = none) (hr : r < H.next) (hg : H.get r = some (cP l en s)) :
  PCall Tryz.prog cfg r 53 [.ptr r 0] H (outP l en (funcP l en s).1 (.agg (encFunc (funcP l en s).2))) := by
 refine PCall_of' (fn := Tryz.f53) rfl rfl rfl rfl rfl ?_
 have rs : Tryz.f53.results.toList = [.cell 2 42] := rfl
 have ghn := ne_all hr
 simp only [go_sem, simprocAttr]
 have rQ : (H.next = r) = False := eq_false (by omega)
 have qQ : (r = H.next) = False := eq_false (by omega)
 have pRQ : (H.next + 1 = H.next) = False := eq_false (by omega)
 have pQR : (H.next = H.next + 1) = False := eq_false (by omega)
 have rR : (H.next + 1 = r) = False := eq_false (by omega)
 have qR : (r = H.next + 1) = False := eq_false (by omega)
 have pBQ : (H.next + 2 = H.next) = False := eq_false (by omega)
 have pQB : (H.next = H.next + 2) = False := eq_false (by omega)
 have pBR : (H.next + 2 = H.next + 1) = False := eq_false (by omega)
 have pRB : (H.next + 1 = H.next + 2) = False := eq_false (by omega)
 have rB : (H.next + 2 = r) = False := eq_false (by omega)
 have qB : (r = H.next + 2) = False := eq_false (by omega)
 simp only [go_sem, simprocAttr, hg, ghn, rQ, qQ, pQR, pQB, rR, qR, pRQ, pRB, rB, qB, pBQ, pBR]
 refine goC_out (c_need (s := s) (l := l) (en := en) hlen hf (by first | omega | (simp only [go_sem, simprocAttr]; omega)) (by first | assumption | simp only [go_sem, simprocAttr, hg, ghn, rQ, qQ, pQR, pQB, rR, qR, pRQ, pRB, rB, qB, pBQ, pBR]) [102, 117, 110] (by decide)) ?_ ?_
 case refine_2 =>
  intro q9 hq9 H9 had
  have hb9 : (funcP l en s).1.f = some q9 := by
   show (blockF l en FN (names l en (nameP l en (need l en s tFun)).1).1 0).1.f = some q9
   have hq8 : (need l en s tFun).f = some q9 := hq9
   rw [show (nameP l en (need l en s tFun)).1 = need l en s tFun from nameP_bad (ok_some hq8), show (names l en (need l en s tFun)).1 = need l en s tFun from names_bad (ok_some hq8), blockF_bad (ok_some hq8)]
   exact hq8
  rw [outP_some hb9]
  simp only [go_sem, simprocAttr, san_trouble]
  (repeat first | exact Adv.refl _ _ | assumption | refine Adv.trans ?_ ‹Adv _ _ _› | apply Adv.up | apply Adv.put | refine Adv.new ?_ (by omega) _ | refine Adv.live ?_ (by omega) _ | refine Adv.owns ?_ (by omega) (by first | exact OwnB.lo ‹_› | exact fun _ _ _ h => by cases h))
 intro hf1 H1 hg1 ha1
 have hl1 := ha1.1
 try simp only [go_sem, simprocAttr] at hl1
 have hr1 : r < H1.next := by omega
 have ghn1 := ne_all hr1
 have bQ1 : H1.get (H.next) = some ([.ptr r 0]) := (ha1.get (by first | omega | (simp only [go_sem, simprocAttr]; omega)) (by omega)).trans (by simp only [go_sem, simprocAttr, hg, ghn, rQ, qQ, pQR, pQB, rR, qR, pRQ, pRB, rB, qB, pBQ, pBR])
 have kQ1 := ne_thr (a := H.next) (b := H1.next) (by omega)
 have bR1 : H1.get (H.next + 1) = some ([.lit (.string (ba [])), .sl .nil [], .sl .nil []]) := (ha1.get (by first | omega | (simp only [go_sem, simprocAttr]; omega)) (by omega)).trans (by simp only [go_sem, simprocAttr, hg, ghn, rQ, qQ, pQR, pQB, rR, qR, pRQ, pRB, rB, qB, pBQ, pBR])
 have kR1 := ne_thr (a := H.next + 1) (b := H1.next) (by omega)
 have bB1 : H1.get (H.next + 2) = some ([.lit (.string (ba [])), .sl .nil [], .sl .nil []]) := (ha1.get (by first | omega | (simp only [go_sem, simprocAttr]; omega)) (by omega)).trans (by simp only [go_sem, simprocAttr, hg, ghn, rQ, qQ, pQR, pQB, rR, qR, pRQ, pRB, rB, qB, pBQ, pBR])
 have kB1 := ne_thr (a := H.next + 2) (b := H1.next) (by omega)
 simp only [go_sem, simprocAttr, hg1, ghn, ghn1, bQ1, kQ1, rQ, qQ, pQR, pQB, bR1, kR1, rR, qR, pRQ, pRB, bB1, kB1, rB, qB, pBQ, pBR]
 refine goC_out (c_name (s := (need l en s [102, 117, 110])) (l := l) (en := en) hlen hf1 (by first | omega | (simp only [go_sem, simprocAttr]; omega)) (by first | assumption | simp only [go_sem, simprocAttr, hg1, ghn, ghn1, bQ1, kQ1, rQ, qQ, pQR, pQB, bR1, kR1, rR, qR, pRQ, pRB, bB1, kB1, rB, qB, pBQ, pBR])) ?_ ?_
 case refine_2 =>
  intro q9 hq9 H9 had
  have hb9 : (funcP l en s).1.f = some q9 := by
   show (blockF l en FN (names l en (nameP l en (need l en s tFun)).1).1 0).1.f = some q9
   have hq8 : (nameP l en (need l en s tFun)).1.f = some q9 := hq9
   rw [show (names l en (nameP l en (need l en s tFun)).1).1 = (nameP l en (need l en s tFun)).1 from names_bad (ok_some hq8), blockF_bad (ok_some hq8)]
   exact hq8
  rw [outP_some hb9]
  simp only [go_sem, simprocAttr, san_trouble]
  (repeat first | exact Adv.refl _ _ | assumption | refine Adv.trans ?_ ‹Adv _ _ _› | apply Adv.up | apply Adv.put | refine Adv.new ?_ (by omega) _ | refine Adv.live ?_ (by omega) _ | refine Adv.owns ?_ (by omega) (by first | exact OwnB.lo ‹_› | exact fun _ _ _ h => by cases h))
 intro hf2 H2 hg2 ha2
 have hl2 := ha2.1
 try simp only [go_sem, simprocAttr] at hl2
 have hr2 : r < H2.next := by omega
 have ghn2 := ne_all hr2
 have bQ2 : H2.get (H.next) = some ([.ptr r 0]) := (ha2.get (by first | omega | (simp only [go_sem, simprocAttr]; omega)) (by omega)).trans (by simp only [go_sem, simprocAttr, hg1, ghn, ghn1, bQ1, kQ1, rQ, qQ, pQR, pQB, bR1, kR1, rR, qR, pRQ, pRB, bB1, kB1, rB, qB, pBQ, pBR])
 have kQ2 := ne_thr (a := H.next) (b := H2.next) (by omega)
 have bR2 : H2.get (H.next + 1) = some ([.lit (.string (ba [])), .sl .nil [], .sl .nil []]) := (ha2.get (by first | omega | (simp only [go_sem, simprocAttr]; omega)) (by omega)).trans (by simp only [go_sem, simprocAttr, hg1, ghn, ghn1, bQ1, kQ1, rQ, qQ, pQR, pQB, bR1, kR1, rR, qR, pRQ, pRB, bB1, kB1, rB, qB, pBQ, pBR])
 have kR2 := ne_thr (a := H.next + 1) (b := H2.next) (by omega)
 have bB2 : H2.get (H.next + 2) = some ([.lit (.string (ba [])), .sl .nil [], .sl .nil []]) := (ha2.get (by first | omega | (simp only [go_sem, simprocAttr]; omega)) (by omega)).trans (by simp only [go_sem, simprocAttr, hg1, ghn, ghn1, bQ1, kQ1, rQ, qQ, pQR, pQB, bR1, kR1, rR, qR, pRQ, pRB, bB1, kB1, rB, qB, pBQ, pBR])
 have kB2 := ne_thr (a := H.next + 2) (b := H2.next) (by omega)
 simp only [go_sem, simprocAttr, hg2, ghn, ghn2, bQ2, kQ2, rQ, qQ, pQR, pQB, bR2, kR2, rR, qR, pRQ, pRB, bB2, kB2, rB, qB, pBQ, pBR]
 refine goC_out (c_need (s := (nameP l en (need l en s [102, 117, 110])).1) (l := l) (en := en) hlen hf2 (by first | omega | (simp only [go_sem, simprocAttr]; omega)) (by first | assumption | simp only [go_sem, simprocAttr, hg2, ghn, ghn2, bQ2, kQ2, rQ, qQ, pQR, pQB, bR2, kR2, rR, qR, pRQ, pRB, bB2, kB2, rB, qB, pBQ, pBR]) [40] (by decide)) ?_ ?_
 case refine_2 =>
  intro q9 hq9 H9 had
  have hb9 : (funcP l en s).1.f = some q9 := by
   show (blockF l en FN (names l en (nameP l en (need l en s tFun)).1).1 0).1.f = some q9
   have hq8 : (names l en (nameP l en (need l en s tFun)).1).1.f = some q9 := by
    show (names l en (nameP l en (need l en s [102, 117, 110])).1).1.f = some q9
    simp only [names, listP_bad _ _ (ok_some hq9)]; exact hq9
   rw [blockF_bad (ok_some hq8)]
   exact hq8
  rw [outP_some hb9]
  simp only [go_sem, simprocAttr, san_trouble]
  (repeat first | exact Adv.refl _ _ | assumption | refine Adv.trans ?_ ‹Adv _ _ _› | apply Adv.up | apply Adv.put | refine Adv.new ?_ (by omega) _ | refine Adv.live ?_ (by omega) _ | refine Adv.owns ?_ (by omega) (by first | exact OwnB.lo ‹_› | exact fun _ _ _ h => by cases h))
 intro hf3 H3 hg3 ha3
 have hl3 := ha3.1
 try simp only [go_sem, simprocAttr] at hl3
 have hr3 : r < H3.next := by omega
 have ghn3 := ne_all hr3
 have bQ3 : H3.get (H.next) = some ([.ptr r 0]) := (ha3.get (by first | omega | (simp only [go_sem, simprocAttr]; omega)) (by omega)).trans (by simp only [go_sem, simprocAttr, hg2, ghn, ghn2, bQ2, kQ2, rQ, qQ, pQR, pQB, bR2, kR2, rR, qR, pRQ, pRB, bB2, kB2, rB, qB, pBQ, pBR])
 have kQ3 := ne_thr (a := H.next) (b := H3.next) (by omega)
 have bR3 : H3.get (H.next + 1) = some ([.lit (.string (ba [])), .sl .nil [], .sl .nil []]) := (ha3.get (by first | omega | (simp only [go_sem, simprocAttr]; omega)) (by omega)).trans (by simp only [go_sem, simprocAttr, hg2, ghn, ghn2, bQ2, kQ2, rQ, qQ, pQR, pQB, bR2, kR2, rR, qR, pRQ, pRB, bB2, kB2, rB, qB, pBQ, pBR])
 have kR3 := ne_thr (a := H.next + 1) (b := H3.next) (by omega)
 have bB3 : H3.get (H.next + 2) = some ([.lit (.string (ba (nameP l en (need l en s [102, 117, 110])).2)), .sl .nil [], .sl .nil []]) := (ha3.get (by first | omega | (simp only [go_sem, simprocAttr]; omega)) (by omega)).trans (by simp only [go_sem, simprocAttr, hg2, ghn, ghn2, bQ2, kQ2, rQ, qQ, pQR, pQB, bR2, kR2, rR, qR, pRQ, pRB, bB2, kB2, rB, qB, pBQ, pBR])
 have kB3 := ne_thr (a := H.next + 2) (b := H3.next) (by omega)
 obtain ⟨_, hat1, hat2⟩ := need_lt (l := l) (en := en) (nameP l en (need l en s [102, 117, 110])).1 [40] (ok_none hf3)
 simp only [go_sem, simprocAttr, hg3, ghn, ghn3, bQ3, kQ3, rQ, qQ, pQR, pQB, bR3, kR3, rR, qR, pRQ, pRB, bB3, kB3, rB, qB, pBQ, pBR]
 refine goC_LC (c_list (s := (need l en (nameP l en (need l en s [102, 117, 110])).1 [40])) (en := en) hlen (oneName_ok (l := l) (en := en) (r := r) hlen H H.next (H.next + 2) [(H.next + 1, [.lit (.string (ba [])), .sl .nil [], .sl .nil []])] (nameP l en (need l en s [102, 117, 110])).2) [41] (by decide) [] hf3 ⟨⟨hr, by omega, by simp only [go_sem, simprocAttr]; omega, by omega, by simp only [go_sem, simprocAttr]; omega, by omega, by simp only [go_sem, simprocAttr, hg3], by simp only [go_sem, simprocAttr, bQ3], ?_, hat2, fun x hx => ?_⟩, by simp, .nil, by simp only [go_sem, simprocAttr, bB3, List.map_nil], OwnB.nil _ _ _ _⟩) ?_ ?_
 ·(repeat first | exact Adv.refl _ _ | assumption | refine Adv.trans ?_ ‹Adv _ _ _› | apply Adv.up | apply Adv.put | refine Adv.new ?_ (by omega) _ | refine Adv.live ?_ (by omega) _ | refine Adv.owns ?_ (by omega) (by first | exact OwnB.lo ‹_› | exact fun _ _ _ h => by cases h))
 ·simp only [List.mem_cons, List.not_mem_nil, or_false] at hx
  subst hx
  exact ⟨by simp only; omega, by simp only; omega, by simp only [go_sem, simprocAttr]; omega, by simp only [go_sem, simprocAttr, bR3]⟩
 case refine_4 =>
  intro q9 hq9 H9 had
  have hb9 : (funcP l en s).1.f = some q9 := by
   show (blockF l en FN (names l en (nameP l en (need l en s tFun)).1).1 0).1.f = some q9
   have hq8 : (names l en (nameP l en (need l en s tFun)).1).1.f = some q9 := hq9
   rw [blockF_bad (ok_some hq8)]
   exact hq8
  rw [outP_some hb9]
  simp only [go_sem, simprocAttr, san_trouble]
  exact had
 intro hfo H4 hI4
 obtain ⟨hL, hbn, o, g4, ho4⟩ := hI4
 have hg4 : H4.get r = some (cP l en (names l en (nameP l en (need l en s [102, 117, 110])).1).1) := hL.gr
 have ha4 := hL.ad
 have hl4 := hL.b1
 have hfo' : (names l en (nameP l en (need l en s [102, 117, 110])).1).1.f = none := hfo
 have hr4 : r < H4.next := by omega
 have ghn4 := ne_all hr4
 have bQ4 : H4.get (H.next) = some ([.ptr r 0]) := hL.gq
 have kQ4 := ne_thr (a := H.next) (b := H4.next) (by omega)
 have bR4 : H4.get (H.next + 1) = some ([.lit (.string (ba [])), .sl .nil [], .sl .nil []]) := (hL.kk (H.next + 1, [.lit (.string (ba [])), .sl .nil [], .sl .nil []]) (by simp)).2.2.2
 have kR4 := ne_thr (a := H.next + 1) (b := H4.next) (by omega)
 have bB4 : H4.get (H.next + 2) = some ([.lit (.string (ba (nameP l en (need l en s [102, 117, 110])).2)), .sl o ((names l en (nameP l en (need l en s [102, 117, 110])).1).2.map encStr), .sl .nil []]) := g4
 have kB4 := ne_thr (a := H.next + 2) (b := H4.next) (by omega)
 simp only [go_sem, simprocAttr, hg4, ghn, ghn4, bQ4, kQ4, rQ, qQ, pQR, pQB, bR4, kR4, rR, qR, pRQ, pRB, bB4, kB4, rB, qB, pBQ, pBR]
 have hblk := fun H hr hg => (c_pBlocks (en := en) hlen FN).2 r (names l en (nameP l en (need l en s [102, 117, 110])).1).1 0 H (rem_FN hlen _) (by omega) hfo' hr hg
 refine goC_out (hblk _ (by first | omega | (simp only [go_sem, simprocAttr]; omega)) (by first | assumption | simp only [go_sem, simprocAttr, hg4, ghn, ghn4, bQ4, kQ4, rQ, qQ, pQR, pQB, bR4, kR4, rR, qR, pRQ, pRB, bB4, kB4, rB, qB, pBQ, pBR])) ?_ ?_
 case refine_2 =>
  intro q9 hq9 H9 had
  have hb9 : (funcP l en s).1.f = some q9 := by
   show (blockF l en FN (names l en (nameP l en (need l en s tFun)).1).1 0).1.f = some q9
   exact hq9
  rw [outP_some hb9]
  simp only [go_sem, simprocAttr, san_trouble]
  (repeat first | exact Adv.refl _ _ | assumption | refine Adv.trans ?_ ‹Adv _ _ _› | apply Adv.up | apply Adv.put | refine Adv.new ?_ (by omega) _ | refine Adv.live ?_ (by omega) _ | refine Adv.owns ?_ (by omega) (by first | exact OwnB.lo ‹_› | exact fun _ _ _ h => by cases h))
 intro hf5 H5 hg5 ha5
 have hl5 := ha5.1
 try simp only [go_sem, simprocAttr] at hl5
 have hr5 : r < H5.next := by omega
 have ghn5 := ne_all hr5
 have bQ5 : H5.get (H.next) = some ([.ptr r 0]) := (ha5.get (by first | omega | (simp only [go_sem, simprocAttr]; omega)) (by omega)).trans (by simp only [go_sem, simprocAttr, hg4, ghn, ghn4, bQ4, kQ4, rQ, qQ, pQR, pQB, bR4, kR4, rR, qR, pRQ, pRB, bB4, kB4, rB, qB, pBQ, pBR])
 have kQ5 := ne_thr (a := H.next) (b := H5.next) (by omega)
 have bR5 : H5.get (H.next + 1) = some ([.lit (.string (ba [])), .sl .nil [], .sl .nil []]) := (ha5.get (by first | omega | (simp only [go_sem, simprocAttr]; omega)) (by omega)).trans (by simp only [go_sem, simprocAttr, hg4, ghn, ghn4, bQ4, kQ4, rQ, qQ, pQR, pQB, bR4, kR4, rR, qR, pRQ, pRB, bB4, kB4, rB, qB, pBQ, pBR])
 have kR5 := ne_thr (a := H.next + 1) (b := H5.next) (by omega)
 have bB5 : H5.get (H.next + 2) = some ([.lit (.string (ba (nameP l en (need l en s [102, 117, 110])).2)), .sl o ((names l en (nameP l en (need l en s [102, 117, 110])).1).2.map encStr), .sl .nil []]) := (ha5.get (by first | omega | (simp only [go_sem, simprocAttr]; omega)) (by omega)).trans (by simp only [go_sem, simprocAttr, hg4, ghn, ghn4, bQ4, kQ4, rQ, qQ, pQR, pQB, bR4, kR4, rR, qR, pRQ, pRB, bB4, kB4, rB, qB, pBQ, pBR])
 have kB5 := ne_thr (a := H.next + 2) (b := H5.next) (by omega)
 have hf5' : (funcP l en s).1.f = none := hf5
 rw [outP_none hf5']
 have eF : ([.lit (.string (ba (nameP l en (need l en s [102, 117, 110])).2)), .sl .sh ((names l en (nameP l en (need l en s [102, 117, 110])).1).2.map encStr), .sl .sh ((blockF l en FN (names l en (nameP l en (need l en s [102, 117, 110])).1).1 0).2.map encStmt)] : List AV) = encFunc (funcP l en s).2 := rfl
 have eS : (blockF l en FN (names l en (nameP l en (need l en s [102, 117, 110])).1).1 0).1 = (funcP l en s).1 := rfl
 simp only [go_sem, simprocAttr, hg5, ghn, ghn5, bQ5, kQ5, rQ, qQ, pQR, pQB, bR5, kR5, rR, qR, pRQ, pRB, bB5, kB5, rB, qB, pBQ, pBR, rs, sanLL_encStr, sanLL_encStmt, eF, eS]
 (repeat first | exact Adv.refl _ _ | assumption | refine Adv.trans ?_ ‹Adv _ _ _› | apply Adv.up | apply Adv.put | refine Adv.new ?_ (by omega) _ | refine Adv.live ?_ (by omega) _ | refine Adv.owns ?_ (by omega) (by first | exact OwnB.lo ‹_› | exact fun _ _ _ h => by cases h))
end
end Go.Proofs.YtghhkbigmmjanaaGreatDoor.VA

/-! Pg0 -/
namespace Go.Proofs.YtghhkbigmmjanaaGreatDoor.VA
open Go Go.RowKit
set_option linter.unusedSimpArgs false

structure CfgLe (c c2 : Cfg) : Prop where
 told : ∀ f h, c.told f = some h → c2.told f = some h
 fn : ∀ f fn, c.told f = none → c.fn f = some fn → c2.told f = none ∧ c2.fn f = some fn
 imp : c2.imp = c.imp
 trim : c2.trim = c.trim
theorem call_cfg {P : Program} {c c2 : Cfg} (hl : CfgLe c c2) : ∀ k, KLe (call P c k) (call P c2 k) := by
 intro k
 induction k with
 | zero => intro f args H r h; simp [call] at h
 | succ k ih =>
  intro f args H r h
  simp only [call] at h ⊢
  cases ht : c.told f with
  | some g =>
   rw [ht] at h
   rw [hl.told f g ht]
   exact h
  | none =>
   rw [ht] at h
   simp only at h
   cases hf : c.fn f with
   | none => rw [hf] at h; cases h
   | some fn =>
    rw [hf] at h
    obtain ⟨h1, h2⟩ := hl.fn f fn ht hf
    rw [h1, h2, hl.imp, hl.trim]
    simp only at h ⊢
    cases hi : c.imp f with
    | true =>
     rw [hi] at h
     simp only at h ⊢
     cases hr : runFn P (call P c k) c.imp k fn args H with
     | none => rw [hr] at h; unfold trimK at h; split at h <;> cases h
     | some r1 => rw [runFn_mono ih (Nat.le_refl k) hr]; rw [hr] at h; exact h
    | false =>
     rw [hi] at h
     simp only at h ⊢
     split at h
     ·rename_i v H' hrun
      rw [runFn_mono ih (Nat.le_refl k) hrun]
      exact h
     ·cases h
theorem calls_cfg {P : Program} {c c2 : Cfg} (hl : CfgLe c c2) {f : FuncId} {args : List AV} {H : Heap} {r : CR} (h : calls P c f args H = some r) : calls P c2 f args H = some r := by
 obtain ⟨k, hk⟩ := calls_iff.1 h
 exact calls_iff.2 ⟨k, call_cfg hl k _ _ _ _ hk⟩

/-! ### pieces of code, in a world -/
theorem XS_wp {P : Program} {C : Cond} {c : Cfg} (hc : CfgOk P C c) {cd : Code} {e : List AV} {H : Heap} {x : Ex} {e1 : List AV} {H1 : Heap} (h : XS P c cd e H x e1 H1) {n : Nat} (hk : codeOk n cd = true) {g : Gh} {a : Act} {w : World} (hC : g.cond = C)
  (hi : Inv g H w) (he : EnvRel g w e a.tmps) (hn : a.tmps.size = n) (ht : Top g H.next) (Q : Exit → Act → World → Prop)
  (hQ : ∀ g' x' a' w', Past H.next g w g' H1 w' → Kept cd a a' → a'.tmps.size = n → ExRel g' w' x' a' x e1 → Q x' a' w') : cd.wp P Q a w := by
 obtain ⟨k, hx⟩ := h.exec
 obtain ⟨m, hm⟩ := exec_fuel _ _ _ _ _ hx
 exact (exec_sound (call_ok hc m) hc.mixed k cd e H x e1 H1 hm hk g a w hC hi he hn ht Q hQ).1
theorem W_wp {P : Program} {C : Cond} {c : Cfg} (hc : CfgOk P C c) {cd : Code} {e : List AV} {H : Heap} {Q0 : Post} (h : W P c cd [] e H Q0) {n : Nat} (hk : codeOk n cd = true) {g : Gh} {a : Act} {w : World} (hC : g.cond = C)
  (hi : Inv g H w) (he : EnvRel g w e a.tmps) (hn : a.tmps.size = n) (ht : Top g H.next) (Q : Exit → Act → World → Prop)
  (hQ : ∀ x e1 H1 g' x' a' w', Q0 x e1 H1 → Past H.next g w g' H1 w' → Kept cd a a' → a'.tmps.size = n → ExRel g' w' x' a' x e1 → Q x' a' w') : cd.wp P Q a w := by
 obtain ⟨x, e1, H1, h1, h2⟩ := h
 rw [Fin_nil] at h2
 exact XS_wp hc h1 hk hC hi he hn ht Q fun g' x' a' w' => hQ x e1 H1 g' x' a' w' h2
/-- The rest of a region whose order is the text's. -/
theorem WO_wp {P : Program} {C : Cond} {c : Cfg} (hc : CfgOk P C c) {ops : Array Oper} {i : Nat} {os : List Oper} {e : List AV} {H : Heap} {Q0 : Post} (h : WO P c (dsts ops) H.next os i [] e (H.up ops.size) Q0) (hos : os = ops.toList.drop i)
  {n : Nat} (hd : ∀ o, o ∈ os → dstOk n o = true) {g : Gh} {a : Act} {w : World} (hC : g.cond = C) (hi : Inv g H w) (he : EnvRel g w e a.tmps) (hn : a.tmps.size = n) (ht : Top g H.next) (hil : i + os.length = ops.size) (Q : Exit → Act → World → Prop)
  (hQ : ∀ x e1 H1 g' x' a' w', Q0 x e1 H1 → Past H.next g w g' H1 w' → KeptL os a a' → a'.tmps.size = n → ExRel g' w' x' a' x e1 → Q x' a' w') : wpOps P ops Q (List.range' i os.length) a w := by
 obtain ⟨ops', hd', x, e1, H1, h1, h2⟩ := h
 rw [Fin_nil] at h2
 rw [runOps_ds hd'] at h1
 obtain ⟨m, hm⟩ := runOps_fuel _ _ _ _ _ h1
 have hi' : Inv g (H.up ops.size) w := hi.next (fun _ => rfl) (fun _ => rfl)
 refine runOps_sound (call_ok hc m) os i e (H.up ops.size) x e1 H1 hm hos hd g a w hC hi' he hn (ht.mono (by simp [Heap.up])) ?_ (by simp [Heap.up]; omega) Q fun g' x' a' w' => hQ x e1 H1 g' x' a' w' h2
 intro j h3 h4
 have := ht (H.next + j) (by omega)
 exact hi'.fresh_of this.1 this.2
end Go.Proofs.YtghhkbigmmjanaaGreatDoor.VA

/-! Pg1 -/
namespace Go.Proofs.YtghhkbigmmjanaaGreatDoor.VA
open Go Go.RowKit
attribute [local go_sem] Nat.add_eq_left Nat.left_eq_add true_and and_true ite_true if_false Int.cast_ofNat_Int eq_self Nat.add_assoc Option.some.injEq decide_true decide_false Bool.not_true Bool.not_false List.size_toArray List.length_cons List.length_nil
set_option linter.unusedSimpArgs false
set_option maxRecDepth 100000

/-! ### the reader's code, in three pieces -/
noncomputable def read0 : Code := match Tryz.f27.body with | some (.seq a _) => a | _ => .skip
noncomputable def read1 : Code := match Tryz.f27.body with | some (.seq _ (.seq a _)) => a | _ => .skip
noncomputable def read2 : Code := match Tryz.f27.body with | some (.seq _ (.seq _ a)) => a | _ => .skip
theorem read_body : Tryz.f27.body = some (.seq read0 (.seq read1 read2)) := rfl
/-- How the reader ends. -/
def RestQ (l : List GTok) (en : Int) : Post := fun x e H => match x with
 | .ret => (progF l en FN ⟨0, 0, none⟩ []).1.f = none ∧ gget .bad e 4 = .ptr 0 0 ∧ gget .bad e 5 = .ptr 1 0 ∧ (∃ o, H.get 0 = some [.sl o ((progF l en FN ⟨0, 0, none⟩ []).2.map encFunc)]) ∧ H.get 1 = some [.lit (.int .i64 0), .lit (.int .i64 0)]
 | .pan v => ∃ q, (progF l en FN ⟨0, 0, none⟩ []).1.f = some q ∧ v = encTrouble q.1 q.2 ∧ (∃ x, H.get 0 = some [x]) ∧ (∃ x y, H.get 1 = some [x, y])
 | _ => False
section
variable {l : List GTok} {en : Int} {e : List AV} {H : Heap}
@[go_sem] theorem RestQ_ret : RestQ l en .ret e H = ((progF l en FN ⟨0, 0, none⟩ []).1.f = none ∧ gget .bad e 4 = .ptr 0 0 ∧ gget .bad e 5 = .ptr 1 0 ∧ (∃ o, H.get 0 = some [.sl o ((progF l en FN ⟨0, 0, none⟩ []).2.map encFunc)]) ∧
  H.get 1 = some [.lit (.int .i64 0), .lit (.int .i64 0)]) := rfl
@[go_sem] theorem RestQ_pan {v : AV} : RestQ l en (.pan v) e H = (∃ q, (progF l en FN ⟨0, 0, none⟩ []).1.f = some q ∧ v = encTrouble q.1 q.2 ∧ (∃ x, H.get 0 = some [x]) ∧ (∃ x y, H.get 1 = some [x, y])) := rfl
set_option maxRecDepth 20000 in
theorem rest_run (hlen : l.length ≤ LM) (h0 : gget .bad e 0 = .sl .sh (l.map encG)) (h1 : gget .bad e 1 = .lit (.int .i64 en)) (h4 : gget .bad e 4 = .ptr 0 0) (h5 : gget .bad e 5 = .ptr 1 0) (g0 : H.get 0 = some [.sl .nil []])
  (g1 : H.get 1 = some [.lit (.int .i64 0), .lit (.int .i64 0)]) (hn : 2 ≤ H.next) : W Tryz.prog cfg read2 [] e H (RestQ l en) := by
 obtain ⟨m, hm⟩ : ∃ m, H.next = m + 2 := ⟨H.next - 2, by omega⟩
 generalize hq0 : progF l en FN ⟨0, 0, none⟩ [] = q
 have e0 : ([.sl .sh (l.map encG), .lit (.int .i64 0), .lit (.int .i64 en), .lit (.int .i64 0)] : List AV) = cP l en ⟨0, 0, none⟩ := rfl
 unfold read2
 simp only [Tryz.f27]
 simp only [go_sem, simprocAttr, h0, h1, h4, h5, g0, g1, hm, e0]
 refine W_loop_ind (fun x e H' => ∃ (s : PS) (acc : List GFunc) (o : Own) (k : Nat), x = ms l s ∧ ms l s < k ∧ s.f = none ∧ progF l en k s acc = q ∧ acc.length ≤ s.at_ ∧ acc.length ≤ l.length ∧
   gget .bad e 0 = .sl .sh (l.map encG) ∧ gget .bad e 4 = .ptr 0 0 ∧ gget .bad e 5 = .ptr 1 0 ∧ gget .bad e 6 = .ptr (m + 5) 0 ∧ H'.get 0 = some [.sl o (acc.map encFunc)] ∧ H'.get 1 = some [.lit (.int .i64 0), .lit (.int .i64 0)] ∧
   H'.get (m + 5) = some (cP l en s) ∧ m + 7 ≤ H'.next ∧ OwnB H' o 42 3 (m + 6))
  (ms l ⟨0, 0, none⟩) ⟨⟨0, 0, none⟩, [], .nil, FN, rfl, ms_FN hlen _, rfl, hq0, by simp, by simp, by simp only [go_sem, simprocAttr, h0], by simp only [go_sem, simprocAttr, h4], by simp only [go_sem, simprocAttr, h5], by simp only [go_sem, simprocAttr], by simp only [go_sem, simprocAttr, g0, List.map_nil], by simp only [go_sem, simprocAttr, g1], by simp only [go_sem, simprocAttr], by simp only [go_sem, simprocAttr, hm, Nat.le_refl], OwnB.nil _ _ _ _⟩ ?_
 rintro x ih e H ⟨s, acc, o, k, rfl, hk, hf, hq, hb1, hb2, h0, h4, h5, h6, g0, g1, g5, hnx, ho⟩
 have hok := ok_none hf
 by_cases hlt : s.at_ < l.length
 ·have hlt' : decide ((s.at_ : Int) < (l.length : Nat)) = true := by simp; omega
  obtain ⟨k, rfl, h2⟩ := progF_more (en := en) (acc := acc) (s := s) (by rw [hok, Bool.true_and]; simp [hlt]) hk
  rw [h2] at hq
  simp only [go_sem, simprocAttr, h0, h4, h5, h6, g5, List.length_map, hlt']
  refine W_drawE [(1, 3)] [[1, 5, 6, 7], [5, 6, 7], [3, 4, 5, 6, 7], [4, 5, 6, 7], [5, 6, 7], [6, 7], [7], []] (by kernel_rfl) ?_
  simp only [go_sem, simprocAttr, h0, h4, h5, h6, g0, g1, g5]
  refine eK_out rfl (c_function (s := s) (l := l) (en := en) hlen hf (by simp only [go_sem, simprocAttr]; omega) (by simp only [go_sem, simprocAttr, g5])) ?_ ?_
  ·intro hf1 H1 hg1 ha1
   have hl1 := ha1.1
   simp only [go_sem, simprocAttr] at hl1
   have b0 : H1.get 0 = some [.sl o (acc.map encFunc)] := (ha1.get (by simp only [go_sem, simprocAttr]; omega) (by omega)).trans (by simp only [go_sem, simprocAttr, g0])
   have b1 : H1.get 1 = some [.lit (.int .i64 0), .lit (.int .i64 0)] := (ha1.get (by simp only [go_sem, simprocAttr]; omega) (by omega)).trans (by simp only [go_sem, simprocAttr, g1])
   have hkeep := ha1.keeps (k := 0) (by simp only [go_sem, simprocAttr]; omega) (by omega)
   have ho1 := ((ho.up 7).up 8).adv ha1 (by omega)
   have hoA := ho1.appOk acc.length
   have hap := fun o x H id h => app_fun hlen (acc := acc) (by omega) o x H id h
   have hltf := funcP_lt (l := l) (en := en) s
   have hms := ms_lt hltf hok
   obtain ⟨_, q2, q3⟩ := hltf (ok_none hf1)
   have n0 : (0 = m + 5) = False := eq_false (by omega)
   have n1 : (1 = m + 5) = False := eq_false (by omega)
   simp only [go_sem, simprocAttr, h0, h4, h5, h6, b0, b1, hkeep, hap, hoA]
   exact ih _ hms _ _ ⟨_, _, _, k, rfl, by omega, hf1, hq, by simp only [List.length_append, List.length_cons, List.length_nil]; omega, by simp only [List.length_append, List.length_cons, List.length_nil]; omega, by simp only [go_sem, simprocAttr, h0], by simp only [go_sem, simprocAttr, h4], by simp only [go_sem, simprocAttr, h5], by simp only [go_sem, simprocAttr, h6],
    by simp only [go_sem, simprocAttr] <;> rfl, by simp only [go_sem, simprocAttr, b1], by simp only [go_sem, simprocAttr, n0, hg1], by simp only [go_sem, simprocAttr]; omega, (OwnB.app _ _ _ _ _ _ (by omega) (by omega)).put _ _⟩
  ·intro q9 hq9 H1 had
   have b0 : H1.get 0 = some [.sl o (acc.map encFunc)] := (had.get (by simp only [go_sem, simprocAttr]; omega) (by omega)).trans (by simp only [go_sem, simprocAttr, g0])
   have b1 : H1.get 1 = some [.lit (.int .i64 0), .lit (.int .i64 0)] := (had.get (by simp only [go_sem, simprocAttr]; omega) (by omega)).trans (by simp only [go_sem, simprocAttr, g1])
   rw [progF_end (by rw [ok_some hq9, Bool.false_and])] at hq
   subst hq
   simp only [go_sem, simprocAttr, hq0]
   exact ⟨q9, hq9, rfl, ⟨_, b0⟩, _, _, b1⟩
 ·have hlt' : decide ((s.at_ : Int) < (l.length : Nat)) = false := by simp; omega
  rw [progF_end (by simp [hlt])] at hq
  subst hq
  simp only [go_sem, simprocAttr, h0, h4, h5, h6, g0, g1, g5, List.length_map, hlt', hf, hq0]
  exact ⟨_, rfl⟩
end
end Go.Proofs.YtghhkbigmmjanaaGreatDoor.VA

/-! Pg2 -/
namespace Go.Proofs.YtghhkbigmmjanaaGreatDoor.VA
open Go Go.RowKit
attribute [local go_sem] Nat.add_eq_left Nat.left_eq_add true_and and_true ite_true if_false Int.cast_ofNat_Int eq_self Nat.add_assoc Option.some.injEq decide_true decide_false Bool.not_true Bool.not_false List.size_toArray List.length_cons List.length_nil
set_option linter.unusedSimpArgs false
set_option maxRecDepth 100000

theorem und_any : Tryz.prog.underlying 20 = some (.interface (Tryz.prog.methodsAt 20)) := by kernel_rfl
theorem catch_func : Tryz.prog.funcs[(52 : Nat)]? = some Tryz.f52 := rfl
theorem catch_idle (v0 v1 : Value) (w : World) :
  CallsD Tryz.prog 52 #[v0, v1] .returning w fun e u' w' => (∃ v, e = .returned v) ∧ u' = .returning ∧ w' = w := by
 have hnn : ∀ w, (binOp .neq 20 .nilIface .nilIface).run Tryz.prog w = .ok (.bool false) w := fun w => run_neq_nil_nil w _ und_any
 refine callsD_of_wpS catch_func rfl fun c₀ cs hu => ?_
 apply wpS_seq
 apply wpS_region
 simp [wpOpsS, go_sem, recoverD, hu, Exit.thenS]
 apply wpS_seq
 apply wpS_region
 simp [wpOpsS, go_sem, hnn, Exit.thenS]
 refine wpS_cond (t := false) (by simp [Act.eval]) ?_
 simp only [Bool.false_eq_true, if_false]
 refine wpS_of_wp (wp_skip ?_)
 cases c₀
 simp_all [bodyPostS, results, (show Tryz.f52.results = #[] from rfl)]
theorem trouble_inv {g : Gh} {w : World} {cd : Nat} {a : Int} {u : Value} (h : Rel g w (encTrouble cd a) u) : u = .iface 73 (.agg #[.int .i64 ((cd + 20 : Nat) : Int), .int .i64 a]) := by
 unfold encTrouble at h
 cases h with
 | ifc t x v h =>
  obtain ⟨vs, rfl, hL⟩ := h.agg_inv
  obtain ⟨l⟩ := vs
  have hL' : RelL g w [.lit (.int .i64 ((cd + 20 : Nat) : Int)), .lit (.int .i64 a)] l := hL
  match l, hL' with
  | [x, y], hL' => rw [hL'.head.lit_inv, hL'.tail.head.lit_inv]
  | [], hL' => exact absurd hL'.1 (by simp)
  | [_], hL' => exact absurd hL'.1 (by simp)
  | _ :: _ :: _ :: _, hL' => exact absurd hL'.1 (by simp)
theorem wpOps_step {P : Program} {ops : Array Oper} {Q : Exit → Act → World → Prop} {i : Nat} {rest : List Nat} {a : Act} {w : World} {o : Oper} {v : Value} (ho : ops[i]? = some o) (hg : o.guard = none) (hr : (execOp a.eval o).run P w = .ok (.value v) w)
  (h : wpOps P ops Q rest (a.put o.dst v) w) : wpOps P ops Q (i :: rest) a w := by
 simp only [wpOps, ho]
 rw [if_pos (by simp [Region.wanted, hg])]
 left
 simp only [Oper.wp, hr, Oper.upon_value]
 exact h
def CatchQ (k a : Int) : Post := fun x _ H => match x with
 | .nrm => H.get 0 = some [.sl .nil []] ∧ H.get 1 = some [.lit (.int .i64 k), .lit (.int .i64 a)]
 | _ => False
@[go_sem] theorem CatchQ_nrm {k a : Int} {e : List AV} {H : Heap} : CatchQ k a .nrm e H = (H.get 0 = some [.sl .nil []] ∧ H.get 1 = some [.lit (.int .i64 k), .lit (.int .i64 a)]) := rfl
def Catch2Q (N : Nat) (k a : Int) (x y z : AV) : Post := fun ex e H => match ex with
 | .nrm => gget .bad e 0 = .ptr 0 0 ∧ gget .bad e 1 = .ptr 1 0 ∧ gget .bad e 3 = .ptr (N + 5) 0 ∧ gget .bad e 4 = .lit (.bool true) ∧ H.get 0 = some [x] ∧ H.get 1 = some [y, z] ∧ H.get (N + 5) = some [.lit (.int .i64 k), .lit (.int .i64 a)] ∧ N + 8 ≤ H.next
 | _ => False
@[go_sem] theorem Catch2Q_nrm {N : Nat} {k a : Int} {x y z : AV} {e : List AV} {H : Heap} : Catch2Q N k a x y z .nrm e H = (gget .bad e 0 = .ptr 0 0 ∧ gget .bad e 1 = .ptr 1 0 ∧ gget .bad e 3 = .ptr (N + 5) 0 ∧ gget .bad e 4 = .lit (.bool true) ∧
  H.get 0 = some [x] ∧ H.get 1 = some [y, z] ∧ H.get (N + 5) = some [.lit (.int .i64 k), .lit (.int .i64 a)] ∧ N + 8 ≤ H.next) := rfl
set_option maxHeartbeats 1000000 in
theorem catch_pan (hcfg : CfgOk Tryz.prog CC cfg) {g : Gh} {H : Heap} {w : World} (hC : g.cond = CC) (hi : Inv g H w) (ht : Top g H.next) {v0 v1 u : Value} {cd : Nat} {a : Int} (h0 : Rel g w (.ptr 0 0) v0) (h1 : Rel g w (.ptr 1 0) v1) (hu : Rel g w (encTrouble cd a) u) {x y z : AV}
  (g0 : H.get 0 = some [x]) (g1 : H.get 1 = some [y, z]) (hn : 2 ≤ H.next) :
  CallsD Tryz.prog 52 #[v0, v1] (.panicking (oneEntry u)) w fun e u' w' => (∃ v, e = .returned v) ∧ u' = .panicking [{ v := u, recovered := true }] ∧
   ∃ g' H', Past H.next g w g' H' w' ∧ H'.get 0 = some [.sl .nil []] ∧ H'.get 1 = some [.lit (.int .i64 ((cd + 20 : Nat) : Int)), .lit (.int .i64 a)] := by
 obtain rfl := trouble_inv hu
 unfold encTrouble at hu
 generalize ((cd + 20 : Nat) : Int) = k at *
 have hnn : ∀ (x : Value) w, (binOp .neq 20 (.iface 73 x) .nilIface).run Tryz.prog w = .ok (.bool true) w := fun x w => run_neq_held_nil w _ _ _ und_any
 refine callsD_of_wpS catch_func rfl fun c₀ cs hc => ?_
 apply wpS_seq
 apply wpS_region
 simp [wpOpsS, go_sem, recoverD, hc, oneEntry, Exit.thenS]
 apply wpS_seq
 apply wpS_region
 simp [wpOpsS, go_sem, hnn, Exit.thenS]
 refine wpS_cond (t := true) (by simp [Act.eval]) ?_
 simp only [if_true]
 apply wpS_of_wp
 apply wp_seq
 apply wp_region
 show wpOps _ _ _ (0 :: 1 :: List.range' 2 6) _ _
 have hmk : ∀ (t : Array Value), t.getD 0 undef = v0 → t.getD 1 undef = v1 → t.getD 2 undef = Value.iface 73 (.agg #[.int .i64 k, .int .i64 a]) → EnvRel g w [.ptr 0 0, .ptr 1 0, .ifc 73 (.agg [.lit (.int .i64 k), .lit (.int .i64 a)])] t := by
  intro t t0 t1 t2 i
  match i with
  | 0 => rw [t0]; exact h0
  | 1 => rw [t1]; exact h1
  | 2 => rw [t2]; exact hu
  | n + 3 => exact .bad _
 have hta : ∀ (x : Value) w, (Instr.typeAssert (.iface 73 x) 20 73 true).run Tryz.prog w = .ok (.tuple #[x, .bool true]) w := by
  intro x w
  simp [Instr.typeAssert, run_underlying Tryz.underlying73 w]
 refine wpOps_step rfl rfl (v := Value.iface 73 (.agg #[.int .i64 k, .int .i64 a])) (by simp [execOp, Act.eval]) ?_
 refine wpOps_step rfl rfl (v := .tuple #[.agg #[.int .i64 k, .int .i64 a], .bool true]) ?_ ?_
 ·simp [execOp, Act.eval, Act.put, hta]
 obtain ⟨m, hm⟩ : ∃ m, H.next = m + 2 := ⟨H.next - 2, by omega⟩
 have hn1 : (0 = m + 2 + 5) = False := eq_false (by omega)
 have hn2 : (1 = m + 2 + 5) = False := eq_false (by omega)
 refine WO_wp hcfg (H := H) (i := 2) (e := aput (aput [.ptr 0 0, .ptr 1 0, .ifc 73 (.agg [.lit (.int .i64 k), .lit (.int .i64 a)])] (some 9) (.ifc 73 (.agg [.lit (.int .i64 k), .lit (.int .i64 a)]))) (some 10) (.tup [.agg [.lit (.int .i64 k), .lit (.int .i64 a)], .lit (.bool true)]))
  (Q0 := Catch2Q H.next k a x y z) ?_ rfl (n := 19) ?_ hC hi ?_ ?_ ht rfl _ ?_
 ·simp only [go_sem, simprocAttr, List.drop_succ_cons, List.drop_zero, List.toList_toArray, g0, g1, hm, Nat.le_refl]
 ·decide
 ·refine EnvRel.put (EnvRel.put (hmk _ (by simp) (by simp) (by simp)) (by intro d hd; cases hd; simp) hu) (by intro d hd; cases hd; simp [size_put]) (Rel.mk_tup (RelL.cons (Rel.mk_agg (RelL.cons (.lit _) (RelL.cons (.lit _) (RelL.nil _ _)))) (RelL.cons (.lit _) (RelL.nil _ _))))
 ·simp [size_put]
 intro x1 e1 H1 g1' x1' a1 w1 hq hp hk hs hx
 cases x1 with
 | ret => exact hq.elim
 | exit j => exact hq.elim
 | pan v => exact hq.elim
 | nrm =>
 obtain ⟨rfl, hen⟩ := hx
 obtain ⟨q0, q1, q3, q4, b0, b1, b5, hnx⟩ := hq
 refine W_wp hcfg (Q0 := CatchQ k a) ?_ (n := 19) (by kernel_rfl) (hp.ext.cond.trans hC) hp.inv hen hs hp.top _ ?_
 ·obtain ⟨m1, hm1⟩ : ∃ m1, H1.next = m1 + 2 := ⟨H1.next - 2, by omega⟩
  have hn3 : (0 = H.next + 5) = False := eq_false (by omega)
  have hn4 : (1 = H.next + 5) = False := eq_false (by omega)
  have hn5 : (H.next + 5 = 0) = False := eq_false (by omega)
  have hn6 : (H.next + 5 = 1) = False := eq_false (by omega)
  simp only [go_sem, simprocAttr, q0, q1, q3, q4, b0, b1, b5, hm1]
  refine W_draw [(2, 3)] (by kernel_rfl) ?_
  simp only [go_sem, simprocAttr, q0, q1, q3, q4, b0, b1, b5, hm1, hn3, hn4, hn5, hn6]
 intro x2 e2 H2 g2' x2' a2 w2 hq2 hp2 hk2 hs2 hx2
 cases x2 with
 | ret => exact hq2.elim
 | exit j => exact hq2.elim
 | pan v => exact hq2.elim
 | nrm =>
 obtain ⟨rfl, hen2⟩ := hx2
 refine ⟨hk2.1.trans (hk.1.trans (by simp [defers_put])), _, rfl, .tuple #[], by simp [results, (show Tryz.f52.results = #[] from rfl)], ⟨_, rfl⟩, rfl, g2', H2, hp.trans hp2 hp.next, hq2.1, hq2.2⟩
end Go.Proofs.YtghhkbigmmjanaaGreatDoor.VA

/-! Pg3 -/
namespace Go.Proofs.YtghhkbigmmjanaaGreatDoor.VA
open Go Go.RowKit
attribute [local go_sem] Nat.add_eq_left Nat.left_eq_add true_and and_true ite_true if_false Int.cast_ofNat_Int eq_self Nat.add_assoc Option.some.injEq decide_true decide_false Bool.not_true Bool.not_false List.size_toArray List.length_cons List.length_nil
set_option linter.unusedSimpArgs false
set_option maxRecDepth 100000

theorem toks_inv : ∀ (es : List (List AV)) (l : List GTok), toks es = some l → es = l.map encG
 | [], l, h => by simp [toks] at h; subst h; rfl
 | e :: es, l, h => by
  have step : ∀ (k : Int) (t : ByteArray) (a : Int), e = [.lit (.int .i64 k), .lit (.string t), .lit (.int .i64 a)] → e :: es = l.map encG := by
   rintro k t a rfl
   simp only [toks] at h
   cases ht : toks es with
   | none => rw [ht] at h; cases h
   | some l' =>
    rw [ht] at h
    simp at h
    subst h
    rw [toks_inv es l' ht]
    simp only [List.map_cons, encG, ← ba_eta]
  unfold toks at h
  split at h
  ·rename_i heq; cases heq
  ·rename_i heq
   simp only [List.cons.injEq] at heq
   exact step _ _ _ heq.1
  ·cases h
theorem tRead_inv {args : List AV} {v : AV} (h : tRead args = some v) : ∃ o l en, args = [.sl o (l.map encG), .lit (.int .i64 en)] ∧ l.length ≤ LM ∧ v = encRead (readP l en) := by
 unfold tRead at h
 split at h
 ·rename_i o es en
  split at h
  ·rename_i l hl
   split at h
   ·rename_i hlen
    simp at h
    exact ⟨o, l, en, by rw [toks_inv es l hl], hlen, h.symm⟩
   ·cases h
  ·cases h
 ·cases h
theorem wpOps_defer {P : Program} {ops : Array Oper} {Q : Exit → Act → World → Prop} {i : Nat} {rest : List Nat} {a : Act} {w : World} {o : Oper} {d : Deferred} (ho : ops[i]? = some o) (hg : o.guard = none) (hr : (execOp a.eval o).run P w = .ok (.defer d) w)
  (h : wpOps P ops Q rest ({ a with defers := d :: a.defers }.put o.dst undef) w) : wpOps P ops Q (i :: rest) a w := by
 simp only [wpOps, ho]
 rw [if_pos (by simp [Region.wanted, hg])]
 left
 simp only [Oper.wp, hr, Oper.upon_defer]
 exact h
/-- A call in memory of its own, seen by the caller. -/
theorem own_back {g g' : Gh} {H H' : Heap} {w w' : World} (hi : Inv g H w) (hp : Past 0 (g.sub w) w g' H' w') :
  Ext g w { g with vis := g'.vis } w' ∧ Inv { g with vis := g'.vis } H w' := by
 have hx := hp.ext
 have hsame : ∀ b, b < w.heap.size → w'.heap[b]? = w.heap[b]? := hx.low
 have hvis : ∀ b, b < w.heap.size → g'.vis b = g.vis b := hx.lowv
 have he : Ext g w { g with vis := g'.vis } w' :=
  ⟨rfl, hx.os, hx.tape, hx.output, hx.size, fun b hb => hsame b (Nat.lt_of_lt_of_le hb hi.lo), fun b hb => hvis b (Nat.lt_of_lt_of_le hb hi.lo), hx.vis, hx.cell, fun _ _ h => h, fun _ _ h => h, rfl⟩
 refine ⟨he, ⟨Nat.le_trans hi.lo hx.size, hp.inv.fresh, ?_, hi.boxI, ?_, ?_, hi.liveI, ?_, he.holds hi.cond⟩⟩
 rotate_right
 ·intro r ks vs hr
  obtain ⟨b, es, ck, h1, h2, h3, h4⟩ := hi.map r ks vs hr
  exact ⟨b, es, ck, h1, by rw [hsame b (hi.boxB r b h1).2.1]; exact h2, h3.ext he, h4.ext he⟩
 ·intro r b hb
  obtain ⟨h1, h2, h3⟩ := hi.boxB r b hb
  exact ⟨h1, Nat.lt_of_lt_of_le h2 hx.size, by rw [← h3]; exact hvis b h2⟩
 ·intro r cs hr
  obtain ⟨b, vs, t, h1, h2, h3⟩ := hi.box r cs hr
  exact ⟨b, vs, t, h1, by rw [hsame b (hi.boxB r b h1).2.1]; exact h2, h3.ext he⟩
 ·intro s hs
  obtain ⟨b, n, cap, e, sz, vs, h1, h2, h3, h4, h5, h6, h7, h8⟩ := hi.live s hs
  have hlt : b < w.heap.size := (Array.getElem?_eq_some_iff.1 h3).1
  exact ⟨b, n, cap, e, sz, vs, h1, h2, by rw [hsame b hlt]; exact h3, h4, h5, h6, by rw [← h7]; exact hvis b hlt, h8⟩
def Read0Q (l : List GTok) (en : Int) : Post := fun x e H => match x with
 | .nrm => gget .bad e 0 = .sl .sh (l.map encG) ∧ gget .bad e 1 = .lit (.int .i64 en) ∧ gget .bad e 4 = .ptr 0 0 ∧ gget .bad e 5 = .ptr 1 0 ∧ H.get 0 = some [.sl .nil []] ∧ H.get 1 = some [.lit (.int .i64 0), .lit (.int .i64 0)] ∧ H.next = 2
 | _ => False
@[go_sem] theorem Read0Q_nrm {l : List GTok} {en : Int} {e : List AV} {H : Heap} : Read0Q l en .nrm e H = (gget .bad e 0 = .sl .sh (l.map encG) ∧ gget .bad e 1 = .lit (.int .i64 en) ∧ gget .bad e 4 = .ptr 0 0 ∧ gget .bad e 5 = .ptr 1 0 ∧
  H.get 0 = some [.sl .nil []] ∧ H.get 1 = some [.lit (.int .i64 0), .lit (.int .i64 0)] ∧ H.next = 2) := rfl
theorem read0_run (l : List GTok) (en : Int) : W Tryz.prog cfg read0 [] [.sl .sh (l.map encG), .lit (.int .i64 en)] Heap.empty (Read0Q l en) := by
 unfold read0
 simp only [Tryz.f27]
 simp only [go_sem, simprocAttr]
/-- From the two results, as they lie, to what the reader answers. -/
theorem read_fin {l : List GTok} {en : Int} {g g' : Gh} {H H' : Heap} {w w' : World} {e : List AV} {tmps : Array Value} {o : Own} {fs : List GFunc} {k : Nat} {a : Int} (hi : Inv g H w)
  (hp : Past 0 (g.sub w) w g' H' w') (he : EnvRel g' w' e tmps) (e4 : gget .bad e 4 = .ptr 0 0) (e5 : gget .bad e 5 = .ptr 1 0)
  (b0 : H'.get 0 = some [.sl o (fs.map encFunc)]) (b1 : H'.get 1 = some [.lit (.int .i64 (k : Nat)), .lit (.int .i64 a)]) (hr : readP l en = (fs, k, a)) :
  ∃ v, (results Tryz.f27 tmps).run Tryz.prog w' = .ok v w' ∧ ∃ u g1, Ending.returned v = .returned u ∧ Ext g w g1 w' ∧ Inv g1 H w' ∧ g1.box = g.box ∧ g1.own = g.own ∧ Rel g1 w' (encRead (readP l en)) u := by
 have hres : aResults Tryz.prog e H' Tryz.f27.results.toList = some [.agg [.sl o (fs.map encFunc)], .agg [.lit (.int .i64 (k : Nat)), .lit (.int .i64 a)]] := by
  have rs : Tryz.f27.results.toList = [.cell 4 24, .cell 5 27] := rfl
  simp only [go_sem, simprocAttr, rs, e4, e5, b0, b1]
 obtain ⟨u, h1, h2⟩ := results_sound hres hp.inv he
 obtain ⟨hx, hv⟩ := own_back hi hp
 refine ⟨u, h1, u, _, rfl, hx, hv, rfl, rfl, ?_⟩
 have h3 := h2.san (g' := { g with vis := g'.vis }) (fun _ => Nat.le_refl _)
 rw [hr]
 have h4 : san (oneOr [.agg [.sl o (fs.map encFunc)], .agg [.lit (.int .i64 (k : Nat)), .lit (.int .i64 a)]]) = encRead (fs, k, a) := by
  simp only [go_sem, simprocAttr, encRead]
 rw [← h4]
 exact h3
end Go.Proofs.YtghhkbigmmjanaaGreatDoor.VA

/-! Pg4 -/
namespace Go.Proofs.YtghhkbigmmjanaaGreatDoor.VA
open Go Go.RowKit
set_option linter.unusedSimpArgs false
set_option maxRecDepth 100000

theorem read_func : Tryz.prog.funcs[(27 : Nat)]? = some Tryz.f27 := rfl
theorem getD_init (vs : Array Value) (m : Nat) (h : vs.size = 2) : (vs ++ Array.replicate m undef).size = m + 2 := by simp [h]; omega
set_option maxHeartbeats 1000000 in
theorem read_calls (hcfg : CfgOk Tryz.prog CC cfg) {l : List GTok} {en : Int} (hlen : l.length ≤ LM) {o : Own} {g : Gh} {H : Heap} {w : World} {vs : Array Value} (hC : g.cond = CC) (hi : Inv g H w) (hr : RelL g w [.sl o (l.map encG), .lit (.int .i64 en)] vs.toList) :
  Calls Tryz.prog 27 vs w fun en' w' => ∃ u g', en' = .returned u ∧ Ext g w g' w' ∧ Inv g' H w' ∧ g'.box = g.box ∧ g'.own = g.own ∧ Rel g' w' (encRead (readP l en)) u := by
 have hvs : vs.size = 2 := by have := hr.1; simpa using this.symm
 have hr0 : RelL (g.sub w) w [.sl .sh (l.map encG), .lit (.int .i64 en)] vs.toList := by
  have := hr.san (g' := (g.sub w)) (fun _ => Nat.le_refl _)
  simpa only [sanL, san, sanLL_encG] using this
 refine calls_of_wp_defers read_func read_body ?_
 apply wp_seq
 have hsz : (vs ++ Array.replicate (Tryz.f27.ntmps - vs.size) undef).size = 28 := by rw [hvs]; exact getD_init vs 26 hvs
 refine W_wp hcfg (read0_run l en) (n := 28) (by kernel_rfl) (g := g.sub w) hC (inv_empty hi) (env_init hr0 _) hsz (fun _ _ => ⟨rfl, rfl⟩) _ ?_
 intro x1 e1 H1 g1 x1' a1 w1 hq1 hp1 hk1 hs1 hx1
 cases x1 with
 | ret => exact hq1.elim
 | exit j => exact hq1.elim
 | pan v => exact hq1.elim
 | nrm =>
 obtain ⟨rfl, hen1⟩ := hx1
 obtain ⟨q0, q1, q4, q5, b0, b1, hnx⟩ := hq1
 have r4 : Rel g1 w1 (.ptr 0 0) (a1.tmps.getD 4 undef) := by have := hen1 4; rwa [q4] at this
 have r5 : Rel g1 w1 (.ptr 1 0) (a1.tmps.getD 5 undef) := by have := hen1 5; rwa [q5] at this
 show (Code.seq read1 read2).wp _ _ _ _
 apply wp_seq
 unfold read1
 simp only [Tryz.f27]
 apply wp_region
 show wpOps _ _ _ [0, 1] _ _
 refine wpOps_step rfl rfl (v := .func (.func 52) #[] #[a1.tmps.getD 4 undef, a1.tmps.getD 5 undef]) (by simp [execOp, Act.eval, Instr.makeFunc]) ?_
 refine wpOps_defer rfl rfl (d := { target := .fn (.func 52) #[a1.tmps.getD 4 undef, a1.tmps.getD 5 undef], args := #[] }) ?_ ?_
 ·simp [execOp, resolve, Deferred.ofValue, Act.eval, Act.put, hs1]
 show Code.wp _ read2 _ _ _
 have hd1 : a1.defers = [] := hk1.1
 generalize hp4 : a1.tmps.getD 4 undef = p4 at r4 r5
 generalize hp5 : a1.tmps.getD 5 undef = p5 at r5
 have hen2 : EnvRel g1 w1 (aput e1 (some 7) .bad) (a1.put (some 7) (.func (.func 52) #[] #[p4, p5])).tmps := hen1.put (by intro d hd; simp only [Option.some.injEq] at hd; subst hd; rw [hs1]; decide) (.bad _)
 have hinv : ∀ w : World, (invoke (.fn (.func 52) #[p4, p5]) #[]).run Tryz.prog w = .ok (.enter 52 #[p4, p5]) w := fun w => by
  simp only [invoke, Array.empty_append, List.nil_append]
  exact callFunc_enter catch_func (by decide) rfl _ _
 show Code.wp _ read2 _ { tmps := (a1.put (some 7) (.func (.func 52) #[] #[p4, p5])).tmps, defers := { target := .fn (.func 52) #[p4, p5], args := #[] } :: a1.defers } w1
 refine W_wp hcfg (rest_run (l := l) (en := en) (e := aput e1 (some 7) .bad) hlen (by simp only [aput, gget_gset]; exact q0) (by simp only [aput, gget_gset]; exact q1) (by simp only [aput, gget_gset]; exact q4) (by simp only [aput, gget_gset]; exact q5) b0 b1 (by omega)) (n := 28) (by kernel_rfl) (hp1.ext.cond.trans hC) hp1.inv ?_ ?_ hp1.top _ ?_
 ·exact hen2
 ·show (a1.put (some 7) _).tmps.size = 28
  rw [size_put, hs1]
 intro x3 e3 H3 g3 x3' a3 w3 hq3 hp3 hk3 hs3 hx3
 have hd3 : a3.defers = [{ target := .fn (.func 52) #[p4, p5], args := #[] }] := by
  rw [hk3.1]; simp [hd1]
 have hpp := hp1.trans hp3 hp1.next
 have r4' := r4.ext hp3.ext
 have r5' := r5.ext hp3.ext
 cases x3 with
 | nrm => exact hq3.elim
 | exit j => exact hq3.elim
 | ret =>
  obtain ⟨hf, c4, c5, ⟨o3, d0⟩, d1⟩ := hq3
  obtain ⟨rfl, hen3⟩ := hx3
  show Leaves _ _ _ _ a3.defers .returning w3
  rw [hd3]
  refine leaves_cons (by simp) (hinv w3) ?_
  refine (catch_idle p4 p5 w3).mono ?_
  rintro en' u' w4 ⟨⟨v, rfl⟩, rfl, rfl⟩
  have hrd : readP l en = ((progF l en FN ⟨0, 0, none⟩ []).2, 0, 0) := by simp only [readP, hf]
  exact read_fin (k := 0) hi hpp hen3 c4 c5 d0 d1 hrd
 | pan v =>
  obtain ⟨q, hf, rfl, ⟨x, d0⟩, y, z, d1⟩ := hq3
  obtain ⟨u, rfl, hu⟩ := hx3
  show Leaves _ _ _ _ a3.defers (.panicking (oneEntry u)) w3
  rw [hd3]
  refine leaves_cons (by simp) (hinv w3) ?_
  refine (catch_pan hcfg (hpp.ext.cond.trans hC) hp3.inv hp3.top r4' r5' hu d0 d1 (by have := hp3.next; omega)).mono ?_
  rintro en' u' w4 ⟨⟨v, rfl⟩, rfl, g4, H4, hp6, c0, c1⟩
  have hrd : readP l en = ([], q.1 + 20, q.2) := by simp only [readP, hf]
  have k4 : a3.tmps.getD 4 undef = p4 := by rw [hk3.2 4 (by kernel_rfl), ← hp4]; simp [Act.put, Array.getD_eq_getD_getElem?]
  have k5 : a3.tmps.getD 5 undef = p5 := by rw [hk3.2 5 (by kernel_rfl), ← hp5]; simp [Act.put, Array.getD_eq_getD_getElem?]
  have hen4 : EnvRel g4 w4 [.bad, .bad, .bad, .bad, .ptr 0 0, .ptr 1 0] a3.tmps := by
   intro i
   match i with
   | 0 => exact .bad _
   | 1 => exact .bad _
   | 2 => exact .bad _
   | 3 => exact .bad _
   | 4 => rw [k4]; exact r4'.ext hp6.ext
   | 5 => rw [k5]; exact r5'.ext hp6.ext
   | n + 6 => exact .bad _
  exact read_fin (fs := []) hi (hpp.trans hp6 hpp.next) hen4 rfl rfl c0 c1 hrd
theorem read_told (hcfg : CfgOk Tryz.prog CC cfg) : ToldOk Tryz.prog CC 27 tRead := by
 refine ⟨fun vs w => callFunc_enter read_func (by decide) read_body vs w, fun args v h g H w vs hC hi hr => ?_⟩
 obtain ⟨o, l, en, rfl, hlen, rfl⟩ := tRead_inv h
 exact read_calls hcfg hlen hC hi hr
end Go.Proofs.YtghhkbigmmjanaaGreatDoor.VA

/-! Qp1 -/
namespace Go.Proofs.YtghhkbigmmjanaaGreatDoor.VA
open Go Go.RowKit
set_option linter.unusedSimpArgs false

/-! ### what a text is -/
def num1 (w : Wd) : Bool := match w with | [] => false | b :: _ => cls b.toNat == 4
def let1 (w : Wd) : Bool := match w with | [] => false | b :: _ => cls b.toNat == 3
theorem fit_kind {x : GTok} (h : rightG x = true) : decide (x.kind = 1) = num1 x.text ∧ decide (x.kind = 0) = let1 x.text := by
 obtain ⟨k, hk, ht, _⟩ := right_tok (K := x.kind) (t := x.text) h
 rcases ht with ⟨rfl, b, l, ht, hc, _⟩ | ⟨rfl, b, l, ht, hc, _⟩ | ⟨rfl, b, ht, hc⟩ <;> rw [hk, ht] <;> simp [num1, let1, hc]
def nameW (w : Wd) : Bool := rightB 0 w && !keyword w
theorem name_let {w : Wd} (h : nameW w = true) : let1 w = true ∧ keyword w = false ∧ num1 w = false := by
 simp only [nameW, Bool.and_eq_true, Bool.not_eq_true'] at h
 have hx := fit_kind (x := ⟨0, w, 0⟩) h.1
 simp only [decide_true, show decide ((0 : Int) = 1) = false from rfl] at hx
 exact ⟨hx.2.symm, h.2, hx.1.symm⟩
theorem key_ne {w t : Wd} (h : keyword w = false) (ht : keyword t = true) : decide (w = t) = false := by
 rw [decide_eq_false_iff_not]
 rintro rfl
 rw [h] at ht; cases ht
theorem let_ne {w t : Wd} (h : let1 w = true) (ht : let1 t = false) : decide (w = t) = false := by
 rw [decide_eq_false_iff_not]
 rintro rfl
 rw [h] at ht; cases ht
theorem num_ne {w t : Wd} (h : num1 w = true) (ht : num1 t = false) : decide (w = t) = false := by
 rw [decide_eq_false_iff_not]
 rintro rfl
 rw [h] at ht; cases ht

/-! ### words that stand next -/
section
variable {l : List GTok} {en : Int}
def At (l : List GTok) : Nat → List Wd → Prop
 | _, [] => True
 | a, w :: ws => (∃ x, l[a]? = some x ∧ rightG x = true ∧ x.text = w) ∧ At l (a + 1) ws
theorem At_app : ∀ (u v : List Wd) (a : Nat), At l a (u ++ v) ↔ At l a u ∧ At l (a + u.length) v
 | [], v, a => by simp [At]
 | w :: u, v, a => by
  have h := At_app u v (a + 1)
  have h2 : a + (w :: u).length = a + 1 + u.length := by simp; omega
  rw [h2, List.cons_append]
  show _ ∧ At l (a + 1) (u ++ v) ↔ (_ ∧ At l (a + 1) u) ∧ _
  rw [h, and_assoc]
/-- A state, so many tokens on. -/
def PS.go (s : PS) (n : Nat) : PS := { s with at_ := s.at_ + n }
theorem adv_go (s : PS) : s.adv = s.go 1 := rfl
theorem go_go (s : PS) (a b : Nat) : (s.go a).go b = s.go (a + b) := by simp [PS.go, Nat.add_assoc]
theorem go_f (s : PS) (n : Nat) : (s.go n).f = s.f := rfl
theorem go_cnt (s : PS) (n : Nat) : (s.go n).cnt = s.cnt := rfl
theorem go_at (s : PS) (n : Nat) : (s.go n).at_ = s.at_ + n := rfl
theorem go_zero (s : PS) : s.go 0 = s := rfl
/-- Words stand next, and there is no fault. -/
def Nx (l : List GTok) (s : PS) (ws : List Wd) : Prop := s.f = none ∧ At l s.at_ ws
variable {s : PS} {w : Wd} {ws u v : List Wd}
theorem Nx.tk (h : Nx l s (w :: ws)) : ∃ x, tk l s = some x ∧ rightG x = true ∧ x.text = w := by
 obtain ⟨hf, ⟨x, h1, h2, h3⟩, _⟩ := h
 exact ⟨x, by simp only [VA.tk, hf]; exact h1, h2, h3⟩
theorem Nx.isT (h : Nx l s (w :: ws)) (t : Wd) : isT l s t = (decide (w = t) && !num1 w) := by
 obtain ⟨x, h1, h2, h3⟩ := h.tk
 simp only [VA.isT, h1, h2, h3, (fit_kind h2).1, Bool.true_and]
theorem Nx.isName (h : Nx l s (w :: ws)) : isName l s = (let1 w && !keyword w) := by
 obtain ⟨x, h1, h2, h3⟩ := h.tk
 simp only [VA.isName, h1, h2, h3, (fit_kind h2).2, Bool.true_and]
theorem Nx.isNum (h : Nx l s (w :: ws)) : isNum l s = num1 w := by
 obtain ⟨x, h1, h2, h3⟩ := h.tk
 simp only [VA.isNum, h1, h2, h3, (fit_kind h2).1, Bool.true_and]
theorem Nx.text (h : Nx l s (w :: ws)) : text l s = w := by
 obtain ⟨_, ⟨x, h1, _, h3⟩, _⟩ := h
 simp only [VA.text, List.getD_eq_getElem?_getD, h1, Option.getD_some, h3]
theorem Nx.adv (h : Nx l s (w :: ws)) : Nx l (s.go 1) ws := ⟨h.1, h.2.2⟩
theorem Nx.fst (h : Nx l s (u ++ v)) : Nx l s u := ⟨h.1, ((At_app u v s.at_).1 h.2).1⟩
theorem Nx.snd (h : Nx l s (u ++ v)) : Nx l (s.go u.length) v := ⟨h.1, ((At_app u v s.at_).1 h.2).2⟩
theorem Nx.yes (h : Nx l s (w :: ws)) (hn : num1 w = false) : VA.isT l s w = true := by rw [h.isT, hn]; simp
theorem Nx.need (h : Nx l s (w :: ws)) (hn : num1 w = false) : need l en s w = s.go 1 := by simp only [VA.need, h.yes hn, adv_go]
theorem Nx.name (h : Nx l s (w :: ws)) (hw : nameW w = true) : nameP l en s = (s.go 1, w) := by
 obtain ⟨h1, h2, _⟩ := name_let hw
 simp only [nameP, h.isName, h1, h2, Bool.not_false, Bool.and_self, h.text, adv_go]

/-! ### operands -/
def rightO (o : Opd) : Bool :=
 (decide (o.kind = 0) && (decide (o.n = 0) && decide (o.name = []))) || ((decide (o.kind = 1) && ((decide (o.n = 0) || decide (o.n = 1)) && decide (o.name = []))) ||
 ((decide (o.kind = 2) && (decide (0 ≤ o.n) && (decide (o.n ≤ 999999999) && decide (o.name = [])))) || ((decide (o.kind = 3) || decide (o.kind = 4)) && (decide (o.n = 0) && nameW o.name))))
/-- How a right operand may be. -/
theorem right_opd {o : Opd} (h : rightO o = true) : o = ⟨0, 0, []⟩ ∨ o = ⟨1, 0, []⟩ ∨ o = ⟨1, 1, []⟩ ∨ (∃ n : Nat, n ≤ 999999999 ∧ o = ⟨2, n, []⟩) ∨ (nameW o.name = true ∧ o = ⟨3, 0, o.name⟩) ∨ (nameW o.name = true ∧ o = ⟨4, 0, o.name⟩) := by
 obtain ⟨k, n, nm⟩ := o
 simp only [rightO, Bool.or_eq_true, Bool.and_eq_true, decide_eq_true_eq] at h
 rcases h with ⟨rfl, rfl, rfl⟩ | ⟨rfl, h, rfl⟩ | ⟨rfl, h1, h2, rfl⟩ | ⟨h, rfl, h3⟩
 ·exact .inl rfl
 ·rcases h with rfl | rfl
  ·exact .inr (.inl rfl)
  ·exact .inr (.inr (.inl rfl))
 ·refine .inr (.inr (.inr (.inl ⟨n.toNat, by omega, ?_⟩)))
  rw [Int.toNat_of_nonneg h1]
 ·rcases h with rfl | rfl
  ·exact .inr (.inr (.inr (.inr (.inl ⟨h3, rfl⟩))))
  ·exact .inr (.inr (.inr (.inr (.inr ⟨h3, rfl⟩))))
end
/-! ### numerals -/
theorem digit_cls {n : Nat} (h : n < 10) : cls (UInt8.ofNat (48 + n)).toNat = 4 ∧ isDigit (UInt8.ofNat (48 + n)).toNat = true ∧ (UInt8.ofNat (48 + n)).toNat - 48 = n := by
 have : n = 0 ∨ n = 1 ∨ n = 2 ∨ n = 3 ∨ n = 4 ∨ n = 5 ∨ n = 6 ∨ n = 7 ∨ n = 8 ∨ n = 9 := by omega
 rcases this with rfl | rfl | rfl | rfl | rfl | rfl | rfl | rfl | rfl | rfl <;> decide
theorem dec_spec (u : Nat) : (∃ b l, Lib.decDigits u = b :: l ∧ cls b.toNat = 4) ∧ (Lib.decDigits u).all (fun b => isDigit b.toNat) = true ∧ numOf (Lib.decDigits u) = u := by
 induction u using Nat.strongRecOn with
 | ind u ih =>
  rw [Lib.decDigits]
  by_cases h : u < 10
  ·rw [dif_pos h]
   obtain ⟨h1, h2, h3⟩ := digit_cls h
   exact ⟨⟨_, _, rfl, h1⟩, by simp only [List.all_cons, List.all_nil, h2, Bool.and_self], by simp only [numOf, List.foldl_cons, List.foldl_nil, h3]; omega⟩
  ·rw [dif_neg h]
   obtain ⟨⟨b, l, h1, h2⟩, h3, h4⟩ := ih (u / 10) (by omega)
   obtain ⟨g1, g2, g3⟩ := digit_cls (show u % 10 < 10 by omega)
   refine ⟨⟨b, l ++ [UInt8.ofNat (48 + u % 10)], by rw [h1]; rfl, h2⟩, by rw [List.all_append, h3]; simp only [List.all_cons, List.all_nil, g2, Bool.and_self], ?_⟩
   simp only [numOf] at h4 ⊢
   rw [List.foldl_append, h4]
   simp only [List.foldl_cons, List.foldl_nil, g3]
   omega
theorem dec_len : ∀ (k u : Nat), u < 10 ^ (k + 1) → (Lib.decDigits u).length ≤ k + 1
 | 0, u, h => by rw [Lib.decDigits, dif_pos (by simpa using h)]; simp
 | k + 1, u, h => by
  rw [Lib.decDigits]
  by_cases h1 : u < 10
  ·rw [dif_pos h1]; simp
  ·rw [dif_neg h1]
   have := dec_len k (u / 10) (by rw [Nat.pow_succ] at h; omega)
   simp; omega
theorem qspan_all {p : Nat → Bool} : ∀ {l : Wd}, l.all (fun b => p b.toNat) = true → span p l = l.length
 | [], _ => rfl
 | b :: l, h => by
  rw [List.all_cons, Bool.and_eq_true] at h
  rw [span_pos h.1, qspan_all h.2]; rfl
theorem itoa_nat (n : Nat) : Lib.itoa (n : Int) = Lib.decDigits n := by unfold Lib.itoa; rw [if_neg (by omega)]; simp
theorem num_word {n : Nat} (h : n ≤ 999999999) : tokOk 1 (Lib.itoa (n : Int)) ∧ num1 (Lib.itoa (n : Int)) = true ∧ numOf (Lib.itoa (n : Int)) = n := by
 rw [itoa_nat]
 obtain ⟨⟨b, l, h1, h2⟩, h3, h4⟩ := dec_spec n
 have hl := dec_len 8 n (by omega)
 have hs := qspan_all h3
 refine ⟨.inr (.inl ⟨rfl, b, l, h1, h2, hs, hl⟩), ?_, h4⟩
 rw [h1]; simp [num1, h2]
section
variable {l : List GTok} {en : Int} {s : PS} {ws : List Wd}
theorem operand_at {o : Opd} (ho : rightO o = true) (h : Nx l s (wOpd o ++ ws)) : operand l en s = (s.go (wOpd o).length, o) := by
 rcases right_opd ho with rfl | rfl | rfl | ⟨n, hn, rfl⟩ | ⟨hw, ho'⟩ | ⟨hw, ho'⟩
 ·have h' : Nx l s (tNull :: ws) := h
  simp only [operand, h'.isT]
  rfl
 ·have h' : Nx l s (tFalse :: ws) := h
  simp only [operand, h'.isT]
  rfl
 ·have h' : Nx l s (tTrue :: ws) := h
  simp only [operand, h'.isT]
  rfl
 ·have h' : Nx l s (Lib.itoa (n : Int) :: ws) := h
  obtain ⟨_, h2, h3⟩ := num_word hn
  simp only [operand, h'.isT, h2, Bool.not_true, Bool.and_false, h'.isNum, h'.text, h3]
  rfl
 ·rw [ho'] at h ⊢
  have h' : Nx l s ([38] :: o.name :: ws) := h
  simp only [operand, h'.isT, adv_go, h'.adv.name hw]
  rfl
 ·rw [ho'] at h ⊢
  have h' : Nx l s (o.name :: ws) := h
  obtain ⟨h1, h2, h3⟩ := name_let hw
  simp only [operand, h'.isT, h'.isNum, h3, key_ne h2 (show keyword tNull = true from rfl), key_ne h2 (show keyword tTrue = true from rfl), key_ne h2 (show keyword tFalse = true from rfl), let_ne h1 (show let1 [38] = false from rfl),
   Bool.false_and, h'.name hw]
  rfl
end
end Go.Proofs.YtghhkbigmmjanaaGreatDoor.VA

/-! Qp2 -/
namespace Go.Proofs.YtghhkbigmmjanaaGreatDoor.VA
open Go Go.RowKit
set_option linter.unusedSimpArgs false

/-! ### words, parted by commas -/
def wSep : List (List Wd) → List Wd
 | [] => []
 | [a] => a
 | a :: b :: l => a ++ [44] :: wSep (b :: l)
theorem wSep_snoc : ∀ (l : List (List Wd)) (a : List Wd), wSep (l ++ [a]) = wSep l ++ ((if 0 < l.length then [[44]] else []) ++ a)
 | [], a => rfl
 | [b], a => by simp [wSep]
 | b :: c :: l, a => by
  have := wSep_snoc (c :: l) a
  simp only [List.cons_append, wSep] at this ⊢
  rw [this]
  simp
theorem wList_sep (one : Nat → List Wd) : ∀ n, wList one n = wSep ((List.range n).map one)
 | 0 => rfl
 | n + 1 => by
  rw [wList, wList_sep one n, List.range_succ, List.map_append, List.map_cons, List.map_nil, wSep_snoc]
  simp
theorem range_map {T U : Type} (l : List T) (d : T) (f : T → U) : (List.range l.length).map (fun i => f (l.getD i d)) = l.map f := by
 apply List.ext_getElem
 ·simp
 ·intro i h1 h2
  simp at h1
  simp [List.getD_eq_getElem?_getD, List.getElem?_eq_getElem h1]
theorem wArgs_eq (a : List Opd) : wArgs a = [40] :: (wSep (a.map wOpd) ++ [[41]]) := by
 unfold wArgs
 rw [wList_sep]
 have : (List.range a.length).map (wArg a) = a.map wOpd := range_map a ⟨0, 0, []⟩ wOpd
 rw [this]
 rfl
def wPair (q : Wd × Opd) : List Wd := q.1 :: [58] :: wOpd q.2
theorem wProps_eq (ps : List Wd) (a : List Opd) : wList (wProp ps a) (min ps.length a.length) = wSep ((ps.zip a).map wPair) := by
 rw [wList_sep]
 congr 1
 apply List.ext_getElem
 ·simp
 ·intro i h1 h2
  simp at h1
  simp only [List.getElem_map, List.getElem_range, List.getElem_zip, wProp, wArg, wPair]
  rw [List.getD_eq_getElem?_getD, List.getElem?_eq_getElem (by omega), List.getD_eq_getElem?_getD, List.getElem?_eq_getElem (by omega)]
  rfl
theorem wPars_eq (ps : List Wd) : wList (wPar ps) ps.length = wSep (ps.map fun w => [w]) := by
 rw [wList_sep]
 congr 1
 exact range_map ps [] fun w => [w]
section
variable {l : List GTok} {en : Int} {s : PS} {ws : List Wd}
theorem Nx.ok {ws : List Wd} (h : Nx l s ws) : s.ok = true := by simp [PS.ok, h.1]
/-- A word that does not end a list. -/
def Begins (end_ : Wd) (u : List Wd) : Prop := ∃ a r, u = a :: r ∧ (decide (a = end_) && !num1 a) = false
theorem listF_at {X T : Type} {one : PS → X → PS × X} {w : T → List Wd} {upd : X → T → X} {end_ : Wd} (he : num1 end_ = false) (hc : decide ([44] = end_) = false) :
  ∀ (items : List T), items ≠ [] → (∀ t ∈ items, ∀ s x ws, Nx l s (w t ++ ws) → one s x = (s.go (w t).length, upd x t)) → ∀ (n : Nat) (s : PS) (x : X) (ws : List Wd), items.length ≤ n → Nx l s (wSep (items.map w) ++ end_ :: ws) →
   listF l en one end_ n s x = (s.go ((wSep (items.map w)).length + 1), items.foldl upd x)
 | [], h, _, _, _, _, _, _, _ => absurd rfl h
 | [t], _, hone, n, s, x, ws, hn, h => by
  obtain ⟨n, rfl⟩ : ∃ k, n = k + 1 := ⟨n - 1, by simp at hn; omega⟩
  have h' : Nx l s (w t ++ end_ :: ws) := h
  have h1 := hone t (by simp) s x _ h'
  simp only [listF, h.ok, h1, h'.snd.isT, decide_true, he, Bool.not_false, Bool.and_self, List.foldl_cons, List.foldl_nil, adv_go, go_go]
  rfl
 | t :: u :: items, _, hone, n, s, x, ws, hn, h => by
  obtain ⟨n, rfl⟩ : ∃ k, n = k + 1 := ⟨n - 1, by simp at hn; omega⟩
  have h' : Nx l s (w t ++ ([44] :: (wSep ((u :: items).map w) ++ end_ :: ws))) := by simpa [wSep] using h
  have h1 := hone t (by simp) s x _ h'
  have ih := listF_at he hc (u :: items) (by simp) (fun t ht => hone t (by simp [ht])) n (s.go ((w t).length + 1)) (upd x t) ws (by simp at hn ⊢; omega) (by rw [← go_go]; exact h'.snd.adv)
  simp only [listF, h.ok, h1, h'.snd.isT, hc, Bool.false_and, h'.snd.need (show num1 [44] = false from rfl), go_go]
  rw [ih, go_go]
  simp only [List.map_cons, wSep, List.length_append, List.length_cons, List.foldl_cons]
  congr 2
  omega
theorem listP_at {X T : Type} {one : PS → X → PS × X} {w : T → List Wd} {upd : X → T → X} {end_ : Wd} (he : num1 end_ = false) (hc : decide ([44] = end_) = false) (items : List T)
  (hone : ∀ t ∈ items, ∀ s x ws, Nx l s (w t ++ ws) → one s x = (s.go (w t).length, upd x t)) (hb : ∀ t ∈ items, Begins end_ (w t)) (hlen : items.length ≤ FN) (x : X) (h : Nx l s (wSep (items.map w) ++ end_ :: ws)) :
  listP l en one end_ s x = (s.go ((wSep (items.map w)).length + 1), items.foldl upd x) := by
 cases items with
 | nil =>
  have h' : Nx l s (end_ :: ws) := h
  simp only [listP, h'.isT, decide_true, he, Bool.not_false, Bool.and_self, List.foldl_nil, adv_go]
  rfl
 | cons t items =>
  obtain ⟨a, r, h1, h2⟩ := hb t (by simp)
  have h' : ∃ q, Nx l s (a :: q) := by
   cases items with
   | nil => exact ⟨_, by simp only [List.map_cons, List.map_nil, wSep, h1, List.cons_append] at h; exact h⟩
   | cons u items => exact ⟨_, by simp only [List.map_cons, wSep, h1, List.cons_append] at h; exact h⟩
  obtain ⟨q, h'⟩ := h'
  simp only [listP, h'.isT, h2]
  exact listF_at he hc (t :: items) (by simp) hone FN s x ws hlen h
theorem opd_begins {o : Opd} (ho : rightO o = true) {end_ : Wd} (hk : keyword end_ = false) (hl : let1 end_ = false) (h38 : decide ([38] = end_) = false) : Begins end_ (wOpd o) := by
 have kn : ∀ {t : Wd}, keyword t = true → decide (t = end_) = false := fun {t} ht => by
  rw [decide_eq_false_iff_not]; rintro rfl; rw [hk] at ht; cases ht
 rcases right_opd ho with rfl | rfl | rfl | ⟨n, hn, rfl⟩ | ⟨hw, ho'⟩ | ⟨hw, ho'⟩
 ·exact ⟨tNull, [], rfl, by rw [kn (t := tNull) rfl]; rfl⟩
 ·exact ⟨tFalse, [], rfl, by rw [kn (t := tFalse) rfl]; rfl⟩
 ·exact ⟨tTrue, [], rfl, by rw [kn (t := tTrue) rfl]; rfl⟩
 ·exact ⟨Lib.itoa (n : Int), [], rfl, by rw [(num_word hn).2.1]; simp⟩
 ·exact ⟨[38], [o.name], by rw [ho']; rfl, by rw [h38]; rfl⟩
 ·exact ⟨o.name, [], by rw [ho']; rfl, by rw [let_ne (name_let hw).1 hl]; rfl⟩
theorem foldl_snoc {T : Type} : ∀ (l : List T) (acc : List T), l.foldl (fun acc t => acc ++ [t]) acc = acc ++ l
 | [], acc => by simp
 | t :: l, acc => by rw [List.foldl_cons, foldl_snoc l]; simp
theorem args_at {a : List Opd} (ha : a.all rightO = true) (hlen : a.length ≤ FN) (h : Nx l s (wArgs a ++ ws)) : args l en s = (s.go (wArgs a).length, a) := by
 rw [wArgs_eq] at h ⊢
 rw [List.all_eq_true] at ha
 have h' : Nx l s ([40] :: (wSep (a.map wOpd) ++ [41] :: ws)) := by simpa using h
 unfold args
 rw [h'.need rfl]
 rw [listP_at (T := Opd) (w := wOpd) (upd := fun acc t => acc ++ [t]) rfl rfl a (fun t ht s x ws hs => by rw [oneArg, operand_at (ha t ht) hs]) (fun t ht => opd_begins (ha t ht) rfl rfl rfl) hlen [] h'.adv, go_go, foldl_snoc]
 simp; congr 1; omega
theorem names_at {ps : List Wd} (hp : ps.all nameW = true) (hlen : ps.length ≤ FN) (h : Nx l s ([40] :: (wSep (ps.map fun w => [w]) ++ [41] :: ws))) : names l en s = (s.go ((wSep (ps.map fun w => [w])).length + 2), ps) := by
 rw [List.all_eq_true] at hp
 unfold names
 rw [h.need rfl]
 rw [listP_at (T := Wd) (w := fun w => [w]) (upd := fun acc t => acc ++ [t]) rfl rfl ps (fun t ht s x ws hs => by rw [oneName, Nx.name (ws := ws) hs (hp t ht)]; rfl)
  (fun t ht => ⟨t, [], rfl, by rw [let_ne (name_let (hp t ht)).1 rfl]; rfl⟩) hlen [] h.adv, go_go, foldl_snoc]
 simp; congr 1; omega
end
end Go.Proofs.YtghhkbigmmjanaaGreatDoor.VA

/-! Qp3 -/
namespace Go.Proofs.YtghhkbigmmjanaaGreatDoor.VA
open Go Go.RowKit
set_option linter.unusedSimpArgs false

/-! ### what may be -/
def isArith (p : Wd) : Bool := decide (p = [43]) || (decide (p = [45]) || (decide (p = [42]) || (decide (p = [60]) || decide (p = [61]))))
mutual
/-- May a statement be, in so many blocks more? -/
def rightS : GStmt → Nat → Bool
 | .mk op x y p a ps th el, d =>
  a.all rightO && (ps.all nameW && (!((!decide (op = 4) && decide (0 < ps.length)) || ((!decide (op = 9) && (!decide (op = 10) && decide (0 < th.length))) || (!decide (op = 9) && decide (0 < el.length)))) &&
  (if op = 0 then nameW x && (decide (y = []) && (decide (p = []) && decide (a.length = 1)))
  else if op = 1 then nameW x && (decide (y = []) && (isArith p && decide (a.length = 2)))
  else if op = 2 then nameW x && (nameW y && (nameW p && decide (a.length = 0)))
  else if op = 3 then nameW x && (decide (y = []) && (nameW p && decide (a.length = 1)))
  else if op = 4 then nameW x && (decide (y = []) && (decide (p = []) && decide (a.length = ps.length + 1)))
  else if op = 5 then nameW x && (decide (y = []) && nameW p)
  else if op = 6 then nameW x && (nameW y && decide (p = []))
  else if op = 7 then nameW x && (decide (y = []) && (decide (p = []) && decide (a.length = 0)))
  else (decide (x = []) && (decide (y = []) && (decide (p = []) && decide (a.length = 1)))) &&
   (if op = 9 ∨ op = 10 then decide (0 < d) && (rightL th (d - 1) && (decide (el.length = 0) || rightL el (d - 1))) else decide (op = 8) || decide (op = 11)))))
def rightL : List GStmt → Nat → Bool
 | [], _ => true
 | s :: l, d => rightS s d && rightL l d
end
/-- How a right statement may be. -/
inductive Shape (d : Nat) : GStmt → Prop where
 | move (x : Wd) (o : Opd) : nameW x = true → rightO o = true → Shape d (.mk 0 x [] [] [o] [] [] [])
 | arith (x p : Wd) (o q : Opd) : nameW x = true → isArith p = true → rightO o = true → rightO q = true → Shape d (.mk 1 x [] p [o, q] [] [] [])
 | get (x y p : Wd) : nameW x = true → nameW y = true → nameW p = true → Shape d (.mk 2 x y p [] [] [] [])
 | set (x p : Wd) (o : Opd) : nameW x = true → nameW p = true → rightO o = true → Shape d (.mk 3 x [] p [o] [] [] [])
 | new (x : Wd) (ps : List Wd) (a : List Opd) (o : Opd) : nameW x = true → ps.all nameW = true → a.all rightO = true → rightO o = true → a.length = ps.length → Shape d (.mk 4 x [] [] (a ++ [o]) ps [] [])
 | call (x p : Wd) (a : List Opd) : nameW x = true → nameW p = true → a.all rightO = true → Shape d (.mk 5 x [] p a [] [] [])
 | apply (x y : Wd) (a : List Opd) : nameW x = true → nameW y = true → a.all rightO = true → Shape d (.mk 6 x y [] a [] [] [])
 | in_ (x : Wd) : nameW x = true → Shape d (.mk 7 x [] [] [] [] [] [])
 | out (o : Opd) : rightO o = true → Shape d (.mk 8 [] [] [] [o] [] [] [])
 | ret (o : Opd) : rightO o = true → Shape d (.mk 11 [] [] [] [o] [] [] [])
 | if_ (o : Opd) (th el : List GStmt) : rightO o = true → 0 < d → rightL th (d - 1) = true → rightL el (d - 1) = true → Shape d (.mk 9 [] [] [] [o] [] th el)
 | while_ (o : Opd) (th : List GStmt) : rightO o = true → 0 < d → rightL th (d - 1) = true → Shape d (.mk 10 [] [] [] [o] [] th [])
theorem len0 {T : Type} {l : List T} (h : l.length = 0) : l = [] := List.eq_nil_of_length_eq_zero h
theorem len1 {T : Type} {l : List T} (h : l.length = 1) : ∃ a, l = [a] := by
 match l, h with
 | [a], _ => exact ⟨a, rfl⟩
theorem len2 {T : Type} {l : List T} (h : l.length = 2) : ∃ a b, l = [a, b] := by
 match l, h with
 | [a, b], _ => exact ⟨a, b, rfl⟩
theorem lenS {T : Type} {l : List T} {n : Nat} (h : l.length = n + 1) : ∃ k a, l = k ++ [a] ∧ k.length = n := by
 refine ⟨l.dropLast, l.getLast (by intro h0; rw [h0] at h; simp at h), (List.dropLast_concat_getLast _).symm, by simp [h]⟩
theorem shape_of {s : GStmt} {d : Nat} (h : rightS s d = true) : Shape d s := by
 obtain ⟨op, x, y, p, a, ps, th, el⟩ := s
 rw [rightS] at h
 simp only [Bool.and_eq_true, Bool.not_eq_true', Bool.or_eq_false_iff, Bool.and_eq_false_iff, Bool.not_eq_false', decide_eq_true_eq, decide_eq_false_iff_not, Nat.not_lt, Nat.le_zero_eq] at h
 obtain ⟨ha, hp, ⟨n1, n2, n3⟩, h⟩ := h
 have noPs : op ≠ 4 → ps = [] := fun hne => len0 (n1.resolve_left hne)
 have noTh : op ≠ 9 → op ≠ 10 → th = [] := fun h1 h2 => len0 ((n2.resolve_left h1).resolve_left h2)
 have noEl : op ≠ 9 → el = [] := fun h1 => len0 (n3.resolve_left h1)
 by_cases h0 : op = 0
 ·subst h0
  rw [if_pos rfl] at h
  simp only [Bool.and_eq_true, decide_eq_true_eq] at h
  obtain ⟨hx, rfl, rfl, hl⟩ := h
  obtain ⟨o, rfl⟩ := len1 hl
  rw [noPs (by decide), noTh (by decide) (by decide), noEl (by decide)]
  exact .move x o hx (by simpa using ha)
 rw [if_neg h0] at h
 by_cases h1 : op = 1
 ·subst h1
  rw [if_pos rfl] at h
  simp only [Bool.and_eq_true, decide_eq_true_eq] at h
  obtain ⟨hx, rfl, hpp, hl⟩ := h
  obtain ⟨o, q, rfl⟩ := len2 hl
  rw [noPs (by decide), noTh (by decide) (by decide), noEl (by decide)]
  simp only [List.all_cons, List.all_nil, Bool.and_true, Bool.and_eq_true] at ha
  exact .arith x p o q hx hpp ha.1 ha.2
 rw [if_neg h1] at h
 by_cases h2 : op = 2
 ·subst h2
  rw [if_pos rfl] at h
  simp only [Bool.and_eq_true, decide_eq_true_eq] at h
  obtain ⟨hx, hy, hpp, hl⟩ := h
  rw [len0 hl, noPs (by decide), noTh (by decide) (by decide), noEl (by decide)]
  exact .get x y p hx hy hpp
 rw [if_neg h2] at h
 by_cases h3 : op = 3
 ·subst h3
  rw [if_pos rfl] at h
  simp only [Bool.and_eq_true, decide_eq_true_eq] at h
  obtain ⟨hx, rfl, hpp, hl⟩ := h
  obtain ⟨o, rfl⟩ := len1 hl
  rw [noPs (by decide), noTh (by decide) (by decide), noEl (by decide)]
  exact .set x p o hx hpp (by simpa using ha)
 rw [if_neg h3] at h
 by_cases h4 : op = 4
 ·subst h4
  rw [if_pos rfl] at h
  simp only [Bool.and_eq_true, decide_eq_true_eq] at h
  obtain ⟨hx, rfl, rfl, hl⟩ := h
  obtain ⟨k, o, rfl, hk⟩ := lenS hl
  rw [noTh (by decide) (by decide), noEl (by decide)]
  simp only [List.all_append, List.all_cons, List.all_nil, Bool.and_true, Bool.and_eq_true] at ha
  exact .new x ps k o hx hp ha.1 ha.2 hk
 rw [if_neg h4] at h
 by_cases h5 : op = 5
 ·subst h5
  rw [if_pos rfl] at h
  simp only [Bool.and_eq_true, decide_eq_true_eq] at h
  obtain ⟨hx, rfl, hpp⟩ := h
  rw [noPs (by decide), noTh (by decide) (by decide), noEl (by decide)]
  exact .call x p a hx hpp ha
 rw [if_neg h5] at h
 by_cases h6 : op = 6
 ·subst h6
  rw [if_pos rfl] at h
  simp only [Bool.and_eq_true, decide_eq_true_eq] at h
  obtain ⟨hx, hy, rfl⟩ := h
  rw [noPs (by decide), noTh (by decide) (by decide), noEl (by decide)]
  exact .apply x y a hx hy ha
 rw [if_neg h6] at h
 by_cases h7 : op = 7
 ·subst h7
  rw [if_pos rfl] at h
  simp only [Bool.and_eq_true, decide_eq_true_eq] at h
  obtain ⟨hx, rfl, rfl, hl⟩ := h
  rw [len0 hl, noPs (by decide), noTh (by decide) (by decide), noEl (by decide)]
  exact .in_ x hx
 rw [if_neg h7] at h
 simp only [Bool.and_eq_true, decide_eq_true_eq] at h
 obtain ⟨⟨rfl, rfl, rfl, hl⟩, h⟩ := h
 obtain ⟨o, rfl⟩ := len1 hl
 have ho : rightO o = true := by simpa using ha
 rw [noPs h4]
 by_cases h9 : op = 9
 ·subst h9
  rw [if_pos (.inl rfl)] at h
  simp only [Bool.and_eq_true, decide_eq_true_eq, Bool.or_eq_true] at h
  obtain ⟨hd, ht, he⟩ := h
  refine .if_ o th el ho hd ht ?_
  rcases he with he | he
  ·rw [len0 he]; rfl
  ·exact he
 by_cases h10 : op = 10
 ·subst h10
  rw [if_pos (.inr rfl)] at h
  simp only [Bool.and_eq_true, decide_eq_true_eq] at h
  rw [noEl h9]
  exact .while_ o th ho h.1 h.2.1
 rw [if_neg (by simp [h9, h10])] at h
 simp only [Bool.or_eq_true, decide_eq_true_eq] at h
 rw [noTh h9 h10, noEl h9]
 rcases h with rfl | rfl
 ·exact .out o ho
 ·exact .ret o ho
theorem of_shape {s : GStmt} {d : Nat} (h : Shape d s) : rightS s d = true := by
 cases h with
 | move x o h1 h2 => simp [rightS, h1, h2]
 | arith x p o q h1 h2 h3 h4 => simp [rightS, h1, h2, h3, h4]
 | get x y p h1 h2 h3 => simp [rightS, h1, h2, h3]
 | set x p o h1 h2 h3 => simp [rightS, h1, h2, h3]
 | new x ps a o h1 h2 h3 h4 h5 => have h2' := List.all_eq_true.1 h2; have h3' := List.all_eq_true.1 h3; simp [rightS, h1, h4, h5]; first | exact ⟨h3', h2'⟩ | exact ⟨h2', h3'⟩ | exact ⟨fun x hx => h3' x hx, fun x hx => h2' x hx⟩
 | call x p a h1 h2 h3 => have h3' := List.all_eq_true.1 h3; simp [rightS, h1, h2]; exact h3'
 | apply x y a h1 h2 h3 => have h3' := List.all_eq_true.1 h3; simp [rightS, h1, h2]; exact h3'
 | in_ x h1 => simp [rightS, h1]
 | out o h1 => simp [rightS, h1]
 | ret o h1 => simp [rightS, h1]
 | if_ o th el h1 h2 h3 h4 => simp [rightS, h1, h2, h3, h4]
 | while_ o th h1 h2 h3 => simp [rightS, h1, h2, h3]
mutual
/-- How many statements there are. -/
def cntS : GStmt → Nat
 | .mk _ _ _ _ _ _ th el => 1 + (cntL th + cntL el)
def cntL : List GStmt → Nat
 | [] => 0
 | s :: l => cntS s + cntL l
end
end Go.Proofs.YtghhkbigmmjanaaGreatDoor.VA

/-! Qp9 -/
namespace Go.Proofs.YtghhkbigmmjanaaGreatDoor.VA
open Go Go.RowKit
set_option linter.unusedSimpArgs false

section
variable {l : List GTok} {en : Int}
/-! ### how many statements there are does not change -/
theorem pfail_cnt (s : PS) (code : Nat) : (pfail l en s code).cnt = s.cnt := by unfold pfail; cases s.f <;> rfl
theorem need_cnt (s : PS) (t : Wd) : (need l en s t).cnt = s.cnt := by unfold need; cases isT l s t with | true => rfl | false => exact pfail_cnt _ _
theorem nameP_cnt (s : PS) : (nameP l en s).1.cnt = s.cnt := by unfold nameP; cases isName l s with | true => rfl | false => exact pfail_cnt _ _
theorem operand_cnt (s : PS) : (operand l en s).1.cnt = s.cnt := by
 unfold operand
 cases isT l s tNull with
 | true => rfl
 | false =>
 cases isT l s tTrue with
 | true => rfl
 | false =>
 cases isT l s tFalse with
 | true => rfl
 | false =>
 cases isT l s [38] with
 | true => exact nameP_cnt _
 | false =>
 cases isNum l s with
 | true => rfl
 | false => exact nameP_cnt _
theorem listF_cnt {X : Type} {one : PS → X → PS × X} (h1 : ∀ s x, (one s x).1.cnt = s.cnt) (end_ : Wd) : ∀ (n : Nat) (s : PS) (x : X), (listF l en one end_ n s x).1.cnt = s.cnt
 | 0, s, x => rfl
 | n + 1, s, x => by
  unfold listF
  cases s.ok with
  | false => rfl
  | true =>
   simp only
   cases isT l (one s x).1 end_ with
   | true => exact h1 s x
   | false => exact (listF_cnt h1 end_ n _ _).trans ((need_cnt _ _).trans (h1 s x))
theorem listP_cnt {X : Type} {one : PS → X → PS × X} (h1 : ∀ s x, (one s x).1.cnt = s.cnt) (end_ : Wd) (s : PS) (x : X) : (listP l en one end_ s x).1.cnt = s.cnt := by
 unfold listP
 cases isT l s end_ with
 | true => rfl
 | false => exact listF_cnt h1 _ _ _ _
theorem oneArg_cnt (s : PS) (x : List Opd) : (oneArg l en s x).1.cnt = s.cnt := operand_cnt s
theorem oneName_cnt (s : PS) (x : List Wd) : (oneName l en s x).1.cnt = s.cnt := nameP_cnt s
theorem oneProp_cnt (s : PS) (x : List Wd × List Opd) : (oneProp l en s x).1.cnt = s.cnt := (operand_cnt _).trans ((need_cnt _ _).trans (nameP_cnt s))
theorem args_cnt (s : PS) : (args l en s).1.cnt = s.cnt := (listP_cnt oneArg_cnt _ _ _).trans (need_cnt _ _)
theorem names_cnt (s : PS) : (names l en s).1.cnt = s.cnt := (listP_cnt oneName_cnt _ _ _).trans (need_cnt _ _)
theorem propsP_cnt (s : PS) : (propsP l en s).1.cnt = s.cnt := (listP_cnt oneProp_cnt _ _ _).trans (need_cnt _ _)
theorem object_cnt (s : PS) : (object l en s).1.cnt = s.cnt := (operand_cnt _).trans ((need_cnt _ _).trans (propsP_cnt s))
theorem rest_cnt (s : PS) (o : Opd) : (rest l en s o).1.cnt = s.cnt := by
 unfold rest
 cases signOf l s arith with
 | some t => exact operand_cnt _
 | none =>
  simp only
  cases decide (o.kind = 4) && isT l s [40] with
  | true => exact args_cnt s
  | false =>
   simp only
   cases decide (o.kind = 4) && isT l s [46] with
   | true => exact nameP_cnt _
   | false => rfl
theorem value_cnt (s : PS) : (value l en s).1.cnt = s.cnt := by
 unfold value
 cases isT l s tIn with
 | true => rfl
 | false =>
 cases isT l s tCall with
 | true => exact (args_cnt _).trans (nameP_cnt _)
 | false =>
 cases isT l s tNew with
 | true => exact object_cnt _
 | false => exact (rest_cnt _ _).trans (operand_cnt _)
theorem assign_cnt (s : PS) : (assign l en s).1.cnt = s.cnt := by
 unfold assign
 cases isT l (nameP l en s).1 [46] with
 | true => exact (operand_cnt _).trans ((need_cnt _ _).trans ((nameP_cnt _).trans (nameP_cnt s)))
 | false => exact (value_cnt _).trans ((need_cnt _ _).trans (nameP_cnt s))
theorem simple_cnt (s : PS) : (simple l en s).1.cnt = s.cnt := by
 unfold simple
 cases isT l s tOut with
 | true => exact operand_cnt _
 | false =>
 cases isT l s tReturn with
 | true => exact operand_cnt _
 | false => exact assign_cnt s

/-! ### what is answered is right -/
variable {s : PS}
theorem text_tk {x : GTok} (h : tk l s = some x) : text l s = x.text := by
 obtain ⟨_, _, _, h4⟩ := tk_some h
 rw [text, h4]
theorem nameP_right (h : (nameP l en s).1.ok = true) : nameW (nameP l en s).2 = true := by
 unfold nameP at h ⊢
 cases hn : isName l s with
 | false => rw [hn] at h; simp only at h; rw [pfail_bad] at h; cases h
 | true =>
  obtain ⟨x, h1, h2, h3, h4⟩ := isName_some hn
  simp only [text_tk h1, nameW, h4, Bool.not_false, Bool.and_true]
  rw [rightG, h3] at h2
  exact h2
theorem num_bound : ∀ (t : Wd) (acc k : Nat), t.all (fun b => isDigit b.toNat) = true → acc < 10 ^ k → t.foldl (fun n b => 10 * n + (b.toNat - 48)) acc < 10 ^ (k + t.length)
 | [], acc, k, _, h => h
 | b :: t, acc, k, hd, h => by
  rw [List.all_cons, Bool.and_eq_true] at hd
  have hb : b.toNat - 48 ≤ 9 := by
   have := hd.1
   simp only [isDigit, Bool.and_eq_true, decide_eq_true_eq] at this
   omega
  have := num_bound t (10 * acc + (b.toNat - 48)) (k + 1) hd.2 (by rw [Nat.pow_succ]; omega)
  rw [List.foldl_cons]
  rw [show k + (b :: t).length = k + 1 + t.length by simp; omega]
  exact this
theorem span_full {p : Nat → Bool} : ∀ {t : Wd}, span p t = t.length → t.all (fun b => p b.toNat) = true
 | [], _ => rfl
 | b :: t, h => by
  rw [span_cons] at h
  split at h
  ·rename_i hp
   rw [List.all_cons, hp, span_full (by simpa using h)]
   rfl
  ·simp at h
theorem num_right {x : GTok} (h : rightG x = true) (hk : x.kind = 1) : numOf x.text ≤ 999999999 := by
 obtain ⟨k, h1, h2, _⟩ := right_tok (K := x.kind) (t := x.text) h
 rcases h2 with ⟨rfl, _⟩ | ⟨rfl, b, t, ht, _, hs, hl⟩ | ⟨rfl, _⟩
 ·rw [hk] at h1; simp at h1
 ·have h3 := num_bound x.text 0 0 (span_full hs) (by simp)
  have h4 : 10 ^ (0 + x.text.length) ≤ 10 ^ 9 := Nat.pow_le_pow_right (by omega) (by omega)
  simp only [numOf]
  omega
 ·rw [hk] at h1; simp at h1
theorem operand_right (h : (operand l en s).1.ok = true) : rightO (operand l en s).2 = true := by
 unfold operand at h ⊢
 cases h1 : isT l s tNull with
 | true => rfl
 | false =>
 cases h2 : isT l s tTrue with
 | true => rfl
 | false =>
 cases h3 : isT l s tFalse with
 | true => rfl
 | false =>
 cases h4 : isT l s [38] with
 | true =>
  simp only [h1, h2, h3, h4] at h ⊢
  simp [rightO, nameP_right h]
 | false =>
 cases h5 : isNum l s with
 | true =>
  obtain ⟨x, k1, k2, k3⟩ := isNum_some h5
  have := num_right k2 k3
  simp only [text_tk k1]
  simp [rightO]
  omega
 | false =>
  simp only [h1, h2, h3, h4, h5] at h ⊢
  simp [rightO, nameP_right h]
theorem ok_need {s : PS} {t : Wd} (h : (need l en s t).ok = true) : s.ok = true := (need_lt (l := l) (en := en) s t h).1
theorem listF_inv {X : Type} {one : PS → X → PS × X} (hlt : ∀ s x, Lt1 l s (one s x).1) (P : X → Prop) (h1 : ∀ s x, P x → (one s x).1.ok = true → P (one s x).2) (end_ : Wd) :
  ∀ (n : Nat) (s : PS) (x : X), P x → (listF l en one end_ n s x).1.ok = true → P (listF l en one end_ n s x).2
 | 0, s, x, hp, h => hp
 | n + 1, s, x, hp, h => by
  unfold listF at h ⊢
  cases hs : s.ok with
  | false => exact hp
  | true =>
   rw [hs] at h
   simp only at h ⊢
   cases he : isT l (one s x).1 end_ with
   | true =>
    rw [he] at h
    exact h1 s x hp h
   | false =>
    rw [he] at h
    simp only at h ⊢
    exact listF_inv hlt P h1 end_ n _ _ (h1 s x hp (ok_need (listF_le hlt end_ n _ _ h).1)) h
theorem listP_inv {X : Type} {one : PS → X → PS × X} (hlt : ∀ s x, Lt1 l s (one s x).1) (P : X → Prop) (h1 : ∀ s x, P x → (one s x).1.ok = true → P (one s x).2) (end_ : Wd) (s : PS) (x : X) (hp : P x) (h : (listP l en one end_ s x).1.ok = true) : P (listP l en one end_ s x).2 := by
 unfold listP at h ⊢
 cases he : isT l s end_ with
 | true => exact hp
 | false =>
  rw [he] at h
  exact listF_inv hlt P h1 end_ _ _ _ hp h
theorem args_right (h : (args l en s).1.ok = true) : (args l en s).2.all rightO = true :=
 listP_inv oneArg_lt (fun a => a.all rightO = true) (fun s x hx ho => by simp only [oneArg] at ho ⊢; rw [List.all_append, hx]; simp [operand_right ho]) _ _ _ rfl h
theorem names_right (h : (names l en s).1.ok = true) : (names l en s).2.all nameW = true :=
 listP_inv oneName_lt (fun a => a.all nameW = true) (fun s x hx ho => by simp only [oneName] at ho ⊢; rw [List.all_append, hx]; simp [nameP_right ho]) _ _ _ rfl h
theorem props_right (h : (propsP l en s).1.ok = true) : (propsP l en s).2.1.all nameW = true ∧ (propsP l en s).2.2.all rightO = true ∧ (propsP l en s).2.2.length = (propsP l en s).2.1.length :=
 listP_inv oneProp_lt (fun a => a.1.all nameW = true ∧ a.2.all rightO = true ∧ a.2.length = a.1.length) (fun s x hx ho => by
  simp only [oneProp] at ho ⊢
  have k1 := ok_need (operand_lt (l := l) (en := en) _ ho).1
  refine ⟨by rw [List.all_append, hx.1]; simp [nameP_right k1], by rw [List.all_append, hx.2.1]; simp [operand_right ho], by simp [hx.2.2]⟩) _ _ _ ⟨rfl, rfl, rfl⟩ h
end
end Go.Proofs.YtghhkbigmmjanaaGreatDoor.VA

/-! Qp4 -/
namespace Go.Proofs.YtghhkbigmmjanaaGreatDoor.VA
open Go Go.RowKit
set_option linter.unusedSimpArgs false

section
variable {l : List GTok} {en : Int} {s : PS} {ws : List Wd}
theorem Nx.isT_begins {end_ : Wd} {u : List Wd} (h : Nx l s (u ++ ws)) (hb : Begins end_ u) : VA.isT l s end_ = false := by
 obtain ⟨a, r, rfl, h2⟩ := hb
 rw [List.cons_append] at h
 rw [h.isT, h2]
theorem opd_begins_key {o : Opd} (ho : rightO o = true) {end_ : Wd} (hk : keyword end_ = true) (h1 : decide (tNull = end_) = false) (h2 : decide (tTrue = end_) = false) (h3 : decide (tFalse = end_) = false) (h38 : decide ([38] = end_) = false) : Begins end_ (wOpd o) := by
 rcases right_opd ho with rfl | rfl | rfl | ⟨n, hn, rfl⟩ | ⟨hw, ho'⟩ | ⟨hw, ho'⟩
 ·exact ⟨tNull, [], rfl, by rw [h1]; rfl⟩
 ·exact ⟨tFalse, [], rfl, by rw [h3]; rfl⟩
 ·exact ⟨tTrue, [], rfl, by rw [h2]; rfl⟩
 ·exact ⟨Lib.itoa (n : Int), [], rfl, by rw [(num_word hn).2.1]; simp⟩
 ·exact ⟨[38], [o.name], by rw [ho']; rfl, by rw [h38]; rfl⟩
 ·exact ⟨o.name, [], by rw [ho']; rfl, by rw [key_ne (name_let hw).2.1 hk]; rfl⟩
theorem rest_semi (h : Nx l s ([59] :: ws)) (o : Opd) : rest l en s o = (s, .mk 0 [] [] [] [o] [] [] []) := by
 have h1 : signOf l s arith = none := by simp only [signOf, arith, h.isT]; rfl
 have h2 : VA.isT l s [40] = false := by rw [h.isT]; rfl
 have h3 : VA.isT l s [46] = false := by rw [h.isT]; rfl
 simp only [rest, h1, h2, h3, Bool.and_false]
theorem value_opd {o : Opd} (ho : rightO o = true) (h : Nx l s (wOpd o ++ ws)) : value l en s = rest l en (s.go (wOpd o).length) o := by
 simp only [value, h.isT_begins (opd_begins_key ho (end_ := tIn) rfl rfl rfl rfl rfl), h.isT_begins (opd_begins_key ho (end_ := tCall) rfl rfl rfl rfl rfl), h.isT_begins (opd_begins_key ho (end_ := tNew) rfl rfl rfl rfl rfl), operand_at ho h]
/-- What a statement that sets a name begins with. -/
theorem simple_set {x : Wd} (hx : nameW x = true) (h : Nx l s (x :: [61] :: ws)) {v : PS × GStmt} (hv : value l en (s.go 2) = v) : simple l en s = (v.1, v.2.setX x) := by
 obtain ⟨k1, k2, k3⟩ := name_let hx
 have h1 : VA.isT l s tOut = false := by rw [h.isT, key_ne k2 (show keyword tOut = true from rfl), Bool.false_and]
 have h2 : VA.isT l s tReturn = false := by rw [h.isT, key_ne k2 (show keyword tReturn = true from rfl), Bool.false_and]
 have h3 : VA.isT l (s.go 1) [46] = false := by rw [h.adv.isT]; rfl
 simp only [simple, h1, h2, assign, h.name hx, h3, h.adv.need (show num1 [61] = false from rfl), go_go, hv]
theorem semi_of {q : PS × GStmt} {st : PS} {g : GStmt} (hq : q = (st, g)) (h : Nx l st ([59] :: ws)) : semi l en q = (st.go 1, g) := by
 subst hq
 simp only [semi, h.need (show num1 [59] = false from rfl)]
theorem signOf_arith {p : Wd} (hp : isArith p = true) (h : Nx l s (p :: ws)) : signOf l s arith = some p := by
 simp only [isArith, Bool.or_eq_true, decide_eq_true_eq] at hp
 rcases hp with rfl | rfl | rfl | rfl | rfl <;> simp only [signOf, arith, h.isT] <;> rfl
theorem foldl_pairs : ∀ (qs : List (Wd × Opd)) (acc : List Wd × List Opd), qs.foldl (fun acc q => (acc.1 ++ [q.1], acc.2 ++ [q.2])) acc = (acc.1 ++ qs.map (·.1), acc.2 ++ qs.map (·.2))
 | [], acc => by simp
 | q :: qs, acc => by rw [List.foldl_cons, foldl_pairs qs]; simp
theorem props_at {ps : List Wd} {a : List Opd} (hp : ps.all nameW = true) (ha : a.all rightO = true) (hl : a.length = ps.length) (hlen : ps.length ≤ FN) (h : Nx l s ([123] :: (wSep ((ps.zip a).map wPair) ++ [125] :: ws))) :
  propsP l en s = (s.go ((wSep ((ps.zip a).map wPair)).length + 2), ps, a) := by
 rw [List.all_eq_true] at hp ha
 have hz : ∀ t ∈ ps.zip a, nameW t.1 = true ∧ rightO t.2 = true := fun t ht => ⟨hp _ (List.of_mem_zip (a := t.1) (b := t.2) ht).1, ha _ (List.of_mem_zip (a := t.1) (b := t.2) ht).2⟩
 unfold propsP
 rw [h.need rfl]
 rw [listP_at (T := Wd × Opd) (w := wPair) (upd := fun acc q => (acc.1 ++ [q.1], acc.2 ++ [q.2])) rfl rfl (ps.zip a) (fun t ht s x ws hs => by
   obtain ⟨k1, k2⟩ := hz t ht
   have hs' : Nx l s (t.1 :: [58] :: (wOpd t.2 ++ ws)) := hs
   rw [oneProp, hs'.name k1]
   simp only
   rw [hs'.adv.need rfl, operand_at k2 hs'.adv.adv, go_go, go_go]
   simp only [wPair, List.length_cons]
   congr 2
   omega)
  (fun t ht => ⟨t.1, _, rfl, by rw [let_ne (name_let (hz t ht).1).1 rfl]; rfl⟩) (by simp; omega) ([], []) h.adv, go_go, foldl_pairs]
 have e1 : (ps.zip a).map (·.1) = ps := List.map_fst_zip (by omega)
 have e2 : (ps.zip a).map (·.2) = a := List.map_snd_zip (by omega)
 rw [e1, e2]
 simp; congr 1; omega
end
/-- A statement without blocks. -/
def GStmt.flat : GStmt → Bool | .mk op _ _ _ _ _ _ _ => !decide (op = 9) && !decide (op = 10)
section
variable {l : List GTok} {en : Int} {s : PS} {ws : List Wd}
theorem go_eq {s : PS} {g : GStmt} {a b : Nat} (h : a = b) : (s.go a, g) = (s.go b, g) := by rw [h]
theorem simple_at {g : GStmt} {d : Nat} (hg : Shape d g) (hf : g.flat = true) (hlen : ∀ op x y p a ps th el, g = .mk op x y p a ps th el → a.length ≤ FN ∧ ps.length ≤ FN) (h : Nx l s (wStmt g ++ ws)) :
  semi l en (simple l en s) = (s.go (wStmt g).length, g) := by
 cases hg with
 | if_ => cases hf
 | while_ => cases hf
 | move x o hx ho =>
  have h' : Nx l s (x :: [61] :: (wOpd o ++ [59] :: ws)) := by simpa [wStmt, wVal, wFirst] using h
  have h2 : Nx l (s.go 2) (wOpd o ++ [59] :: ws) := h'.adv.adv
  have h3 := h2.snd
  have hv : value l en (s.go 2) = ((s.go 2).go (wOpd o).length, .mk 0 [] [] [] [o] [] [] []) := by rw [value_opd ho h2, rest_semi h3]
  rw [semi_of (simple_set hx h' hv) h3, go_go, go_go]
  exact go_eq (by simp [wStmt, wVal, wFirst]; omega)
 | arith x p o q hx hp ho hq =>
  have h' : Nx l s (x :: [61] :: (wOpd o ++ p :: (wOpd q ++ [59] :: ws))) := by simpa [wStmt, wVal, wFirst] using h
  have h2 : Nx l (s.go 2) (wOpd o ++ p :: (wOpd q ++ [59] :: ws)) := h'.adv.adv
  have h3 := h2.snd
  have h4 := h3.adv
  have h5 := h4.snd
  have hv : value l en (s.go 2) = ((((s.go 2).go (wOpd o).length).go 1).go (wOpd q).length, .mk 1 [] [] p [o, q] [] [] []) := by
   rw [value_opd ho h2]
   simp only [rest, signOf_arith hp h3, adv_go, operand_at hq h4]
  rw [semi_of (simple_set hx h' hv) h5, go_go, go_go, go_go, go_go]
  exact go_eq (by simp [wStmt, wVal, wFirst]; omega)
 | get x y p hx hy hp =>
  have h' : Nx l s (x :: [61] :: ([y] ++ [46] :: p :: [59] :: ws)) := by simpa [wStmt, wVal] using h
  have hy4 : rightO ⟨4, 0, y⟩ = true := by simp [rightO, hy]
  have h2 : Nx l (s.go 2) (wOpd ⟨4, 0, y⟩ ++ [46] :: p :: [59] :: ws) := h'.adv.adv
  have h3 : Nx l (s.go 3) ([46] :: p :: [59] :: ws) := h2.snd
  have h4 : Nx l (s.go 4) (p :: [59] :: ws) := h3.adv
  have h5 : Nx l (s.go 5) ([59] :: ws) := h4.adv
  have hs1 : signOf l (s.go 3) arith = none := by simp only [signOf, arith, h3.isT]; rfl
  have hs2 : VA.isT l (s.go 3) [40] = false := by rw [h3.isT]; rfl
  have hs3 : VA.isT l (s.go 3) [46] = true := by rw [h3.isT]; rfl
  have hn : nameP l en (s.go 3).adv = (s.go 5, p) := h4.name hp
  have hv : value l en (s.go 2) = (s.go 5, .mk 2 [] y p [] [] [] []) := by
   rw [value_opd hy4 h2]
   show rest l en (s.go 3) _ = _
   simp only [rest, hs1, hs2, hs3, decide_true, Bool.and_false, Bool.and_self, hn]
  rw [semi_of (simple_set hx h' hv) h5, go_go]
  rfl
 | set x p o hx hp ho =>
  have h' : Nx l s (x :: [46] :: p :: [61] :: (wOpd o ++ [59] :: ws)) := by simpa [wStmt, wFirst] using h
  obtain ⟨k1, k2, k3⟩ := name_let hx
  have h1 : VA.isT l s tOut = false := by rw [h'.isT, key_ne k2 (show keyword tOut = true from rfl), Bool.false_and]
  have h2 : VA.isT l s tReturn = false := by rw [h'.isT, key_ne k2 (show keyword tReturn = true from rfl), Bool.false_and]
  have h3 : VA.isT l (s.go 1) [46] = true := by rw [h'.adv.isT]; rfl
  have q2 : Nx l (s.go 2) (p :: [61] :: (wOpd o ++ [59] :: ws)) := h'.adv.adv
  have q3 : Nx l (s.go 3) ([61] :: (wOpd o ++ [59] :: ws)) := q2.adv
  have q4 : Nx l (s.go 4) (wOpd o ++ [59] :: ws) := q3.adv
  have n1 : nameP l en (s.go 1).adv = (s.go 3, p) := q2.name hp
  have n2 : need l en (s.go 3) [61] = s.go 4 := q3.need rfl
  have hsim : simple l en s = ((s.go 4).go (wOpd o).length, .mk 3 x [] p [o] [] [] []) := by
   simp only [simple, h1, h2, assign, h'.name hx, h3, n1, n2, operand_at ho q4]
  rw [semi_of hsim q4.snd, go_go, go_go]
  exact go_eq (by simp [wStmt, wFirst]; omega)
 | new x ps a o hx hp ha ho hl =>
  have hfs := hlen _ _ _ _ _ _ _ _ rfl
  have hmin : min ps.length (a ++ [o]).length = ps.length := by simp; omega
  have hw : wStmt (.mk 4 x [] [] (a ++ [o]) ps [] []) = x :: [61] :: tNew :: [123] :: (wSep ((ps.zip a).map wPair) ++ [125] :: tProto :: (wOpd o ++ [[59]])) := by
   have e1 := wProps_eq ps (a ++ [o])
   have e2 : ps.zip (a ++ [o]) = ps.zip a := by
    have := List.zip_append (l₁ := ps) (r₁ := []) (l₂ := a) (r₂ := [o]) hl.symm
    simpa using this
   have e3 : (a ++ [o]).drop ps.length = [o] := by rw [← hl]; simp
   show [x, [61]] ++ (wVal 4 [] [] (a ++ [o]) ps ++ [[59]]) = _
   have e4 : wVal 4 [] [] (a ++ [o]) ps = wObj ps (a ++ [o]) := rfl
   rw [e4, wObj, e1, hmin, e2, e3]
   simp [wFirst]
  rw [hw] at h ⊢
  have h' : Nx l s (x :: [61] :: tNew :: [123] :: (wSep ((ps.zip a).map wPair) ++ [125] :: tProto :: (wOpd o ++ [59] :: ws))) := by simpa using h
  have h2 : Nx l (s.go 2) (tNew :: _) := h'.adv.adv
  have h3 : Nx l (s.go 3) ([123] :: (wSep ((ps.zip a).map wPair) ++ [125] :: tProto :: (wOpd o ++ [59] :: ws))) := h'.adv.adv.adv
  have h4 : Nx l ((s.go 4).go (wSep ((ps.zip a).map wPair)).length) ([125] :: tProto :: (wOpd o ++ [59] :: ws)) := h3.adv.snd
  have h5 := h4.adv
  have h6 := h5.adv
  have h7 := h6.snd
  have i1 : VA.isT l (s.go 2) tIn = false := by rw [h2.isT]; rfl
  have i2 : VA.isT l (s.go 2) tCall = false := by rw [h2.isT]; rfl
  have i3 : VA.isT l (s.go 2) tNew = true := by rw [h2.isT]; rfl
  have hpr := props_at (en := en) hp ha hl hfs.2 h3
  rw [go_go, show 3 + ((wSep ((ps.zip a).map wPair)).length + 2) = 4 + (wSep ((ps.zip a).map wPair)).length + 1 by omega, ← go_go, ← go_go] at hpr
  have hpt : protoP l en (((s.go 4).go (wSep ((ps.zip a).map wPair)).length).go 1) = ((((s.go 4).go (wSep ((ps.zip a).map wPair)).length).go 1).go 1 |>.go (wOpd o).length, o) := by
   rw [protoP, h5.need rfl, operand_at ho h6]
  have hv : value l en (s.go 2) = ((((s.go 4).go (wSep ((ps.zip a).map wPair)).length).go 1).go 1 |>.go (wOpd o).length, .mk 4 [] [] [] (a ++ [o]) ps [] []) := by
   simp only [value, i1, i2, i3]
   show object l en (s.go 3) = _
   simp only [object, hpr, hpt]
  rw [semi_of (simple_set hx h' hv) h7, go_go, go_go, go_go, go_go, go_go]
  exact go_eq (by simp; omega)
 | call x p a hx hp ha =>
  have h' : Nx l s (x :: [61] :: tCall :: p :: (wArgs a ++ [59] :: ws)) := by simpa [wStmt, wVal] using h
  have h2 : Nx l (s.go 2) (tCall :: p :: (wArgs a ++ [59] :: ws)) := h'.adv.adv
  have h3 : Nx l (s.go 3) (p :: (wArgs a ++ [59] :: ws)) := h2.adv
  have h4 : Nx l (s.go 4) (wArgs a ++ [59] :: ws) := h3.adv
  have i1 : VA.isT l (s.go 2) tIn = false := by rw [h2.isT]; rfl
  have i2 : VA.isT l (s.go 2) tCall = true := by rw [h2.isT]; rfl
  have n1 : nameP l en (s.go 2).adv = (s.go 4, p) := h3.name hp
  have hv : value l en (s.go 2) = ((s.go 4).go (wArgs a).length, .mk 5 [] [] p a [] [] []) := by
   simp only [value, i1, i2, n1, args_at ha (hlen _ _ _ _ _ _ _ _ rfl).1 h4]
  rw [semi_of (simple_set hx h' hv) h4.snd, go_go, go_go]
  exact go_eq (by simp [wStmt, wVal]; omega)
 | apply x y a hx hy ha =>
  have h' : Nx l s (x :: [61] :: ([y] ++ (wArgs a ++ [59] :: ws))) := by simpa [wStmt, wVal] using h
  have hy4 : rightO ⟨4, 0, y⟩ = true := by simp [rightO, hy]
  have h2 : Nx l (s.go 2) (wOpd ⟨4, 0, y⟩ ++ (wArgs a ++ [59] :: ws)) := h'.adv.adv
  have h3 : Nx l (s.go 3) (wArgs a ++ [59] :: ws) := h2.snd
  have h4 : Nx l (s.go 3) ([40] :: _) := h3
  have hs1 : signOf l (s.go 3) arith = none := by simp only [signOf, arith, h4.isT]; rfl
  have hs2 : VA.isT l (s.go 3) [40] = true := by rw [h4.isT]; rfl
  have hv : value l en (s.go 2) = ((s.go 3).go (wArgs a).length, .mk 6 [] y [] a [] [] []) := by
   rw [value_opd hy4 h2]
   show rest l en (s.go 3) _ = _
   simp only [rest, hs1, hs2, decide_true, Bool.and_self, args_at ha (hlen _ _ _ _ _ _ _ _ rfl).1 h3]
  rw [semi_of (simple_set hx h' hv) h3.snd, go_go, go_go]
  exact go_eq (by simp [wStmt, wVal]; omega)
 | in_ x hx =>
  have h' : Nx l s (x :: [61] :: tIn :: [59] :: ws) := by simpa [wStmt, wVal] using h
  have h2 : Nx l (s.go 2) (tIn :: [59] :: ws) := h'.adv.adv
  have i1 : VA.isT l (s.go 2) tIn = true := by rw [h2.isT]; rfl
  have hv : value l en (s.go 2) = ((s.go 2).go 1, .mk 7 [] [] [] [] [] [] []) := by
   simp only [value, i1, adv_go]
  rw [semi_of (simple_set hx h' hv) h2.adv]
  rfl
 | out o ho =>
  have h' : Nx l s (tOut :: (wOpd o ++ [59] :: ws)) := by simpa [wStmt, wFirst] using h
  have h1 : VA.isT l s tOut = true := by rw [h'.isT]; rfl
  have hsim : simple l en s = ((s.go 1).go (wOpd o).length, .mk 8 [] [] [] [o] [] [] []) := by simp only [simple, h1, adv_go, operand_at ho h'.adv]
  rw [semi_of hsim h'.adv.snd, go_go, go_go]
  exact go_eq (by simp [wStmt, wFirst]; omega)
 | ret o ho =>
  have h' : Nx l s (tReturn :: (wOpd o ++ [59] :: ws)) := by simpa [wStmt, wFirst] using h
  have h0 : VA.isT l s tOut = false := by rw [h'.isT]; rfl
  have h1 : VA.isT l s tReturn = true := by rw [h'.isT]; rfl
  have hsim : simple l en s = ((s.go 1).go (wOpd o).length, .mk 11 [] [] [] [o] [] [] []) := by simp only [simple, h0, h1, adv_go, operand_at ho h'.adv]
  rw [semi_of hsim h'.adv.snd, go_go, go_go]
  exact go_eq (by simp [wStmt, wFirst]; omega)
end
end Go.Proofs.YtghhkbigmmjanaaGreatDoor.VA

/-! Qp5 -/
namespace Go.Proofs.YtghhkbigmmjanaaGreatDoor.VA
open Go Go.RowKit
set_option linter.unusedSimpArgs false

/-- A state, so many tokens and statements on. -/
def PS.by_ (s : PS) (n c : Nat) : PS := { s with at_ := s.at_ + n, cnt := s.cnt + c }
theorem by_eq {s : PS} {X : Type} {x : X} {a b c d : Nat} (h : a = b) (k : c = d) : (s.by_ a c, x) = (s.by_ b d, x) := by rw [h, k]
mutual
def fuS : GStmt → Nat
 | .mk _ _ _ _ _ _ th el => 3 + (fuL th + fuL el)
def fuL : List GStmt → Nat
 | [] => 1
 | s :: l => 1 + (fuS s + fuL l)
end
section
variable {l : List GTok} {en : Int} {s : PS} {ws : List Wd}
theorem first_word {g : GStmt} {d : Nat} (hg : Shape d g) : (∃ x r, wStmt g = x :: r ∧ nameW x = true ∧ g.flat = true) ∨ (∃ r, wStmt g = tOut :: r ∧ g.flat = true) ∨ (∃ r, wStmt g = tReturn :: r ∧ g.flat = true) ∨ (∃ r, wStmt g = tIf :: r) ∨ (∃ r, wStmt g = tWhile :: r) := by
 cases hg with
 | if_ => exact .inr (.inr (.inr (.inl ⟨_, wStmt_if ..⟩)))
 | while_ => exact .inr (.inr (.inr (.inr ⟨_, rfl⟩)))
 | out => exact .inr (.inl ⟨_, rfl, rfl⟩)
 | ret => exact .inr (.inr (.inl ⟨_, rfl, rfl⟩))
 | move x o h => exact .inl ⟨x, _, rfl, h, rfl⟩
 | arith x p o q h => exact .inl ⟨x, _, rfl, h, rfl⟩
 | get x y p h => exact .inl ⟨x, _, rfl, h, rfl⟩
 | set x p o h => exact .inl ⟨x, _, rfl, h, rfl⟩
 | new x ps a o h => exact .inl ⟨x, _, rfl, h, rfl⟩
 | call x p a h => exact .inl ⟨x, _, rfl, h, rfl⟩
 | apply x y a h => exact .inl ⟨x, _, rfl, h, rfl⟩
 | in_ x h => exact .inl ⟨x, _, rfl, h, rfl⟩
theorem starts_at {g : GStmt} {d : Nat} (hg : Shape d g) (h : Nx l s (wStmt g ++ ws)) : starts l s = true ∧ isT l s [125] = false := by
 rcases first_word hg with ⟨x, r, hw, hx, _⟩ | ⟨r, hw, _⟩ | ⟨r, hw, _⟩ | ⟨r, hw⟩ | ⟨r, hw⟩ <;> rw [hw, List.cons_append] at h
 ·obtain ⟨k1, k2, k3⟩ := name_let hx
  refine ⟨by simp only [starts, h.isName, k1, k2, Bool.not_false, Bool.and_self, Bool.true_or], by rw [h.isT, let_ne k1 rfl, Bool.false_and]⟩
 all_goals
  refine ⟨?_, by rw [h.isT]; rfl⟩
  simp only [starts, h.isName, h.isT]
  rfl
theorem flat_at {g : GStmt} {d : Nat} (hg : Shape d g) (hf : g.flat = true) (h : Nx l s (wStmt g ++ ws)) : isT l s tIf = false ∧ isT l s tWhile = false := by
 rcases first_word hg with ⟨x, r, hw, hx, _⟩ | ⟨r, hw, _⟩ | ⟨r, hw, _⟩ | ⟨r, hw⟩ | ⟨r, hw⟩
 ·rw [hw, List.cons_append] at h
  obtain ⟨k1, k2, k3⟩ := name_let hx
  exact ⟨by rw [h.isT, key_ne k2 (show keyword tIf = true from rfl), Bool.false_and], by rw [h.isT, key_ne k2 (show keyword tWhile = true from rfl), Bool.false_and]⟩
 ·rw [hw, List.cons_append] at h
  exact ⟨by rw [h.isT]; rfl, by rw [h.isT]; rfl⟩
 ·rw [hw, List.cons_append] at h
  exact ⟨by rw [h.isT]; rfl, by rw [h.isT]; rfl⟩
 ·cases hg with
  | if_ => cases hf
  | while_ => cases hf
  | _ => first | (exact absurd (List.cons.inj hw).1 (by decide)) | (rename_i hx _; have := (List.cons.inj hw).1; subst this; cases hx) | (rename_i hx _ _; have := (List.cons.inj hw).1; subst this; cases hx) | (rename_i hx _ _ _; have := (List.cons.inj hw).1; subst this; cases hx) | (rename_i hx _ _ _ _; have := (List.cons.inj hw).1; subst this; cases hx) | (rename_i hx; have := (List.cons.inj hw).1; subst this; cases hx)
 ·cases hg with
  | if_ => cases hf
  | while_ => cases hf
  | _ => first | (exact absurd (List.cons.inj hw).1 (by decide)) | (rename_i hx _; have := (List.cons.inj hw).1; subst this; cases hx) | (rename_i hx _ _; have := (List.cons.inj hw).1; subst this; cases hx) | (rename_i hx _ _ _; have := (List.cons.inj hw).1; subst this; cases hx) | (rename_i hx _ _ _ _; have := (List.cons.inj hw).1; subst this; cases hx) | (rename_i hx; have := (List.cons.inj hw).1; subst this; cases hx)
end
end Go.Proofs.YtghhkbigmmjanaaGreatDoor.VA

/-! Qp6 -/
namespace Go.Proofs.YtghhkbigmmjanaaGreatDoor.VA
open Go Go.RowKit
set_option linter.unusedSimpArgs false

section
variable {l : List GTok} {en : Int}
theorem fit_lens {g : GStmt} (h : fitS g = true) : ∀ op x y p a ps th el, g = .mk op x y p a ps th el → a.length ≤ FN ∧ ps.length ≤ FN := by
 rintro op x y p a ps th el rfl
 simp only [fitS, Bool.and_eq_true, decide_eq_true_eq] at h
 have h1 := h.1
 have h2 := h.2.1
 unfold BIG at h1 h2
 unfold FN
 omega
/-- What is said of a block's statements. -/
def BodyAt (l : List GTok) (en : Int) (L : List GStmt) : Prop := ∀ (d : Nat), rightL L d = true → ∀ (n : Nat) (s : PS) (deep : Nat) (acc : List GStmt) (ws : List Wd), fuL L ≤ n → deep + 1 + d ≤ 32 → s.cnt + cntL L ≤ 2000 →
 Nx l s (wStmts L ++ [125] :: ws) → bodyF l en n s deep acc = (s.by_ ((wStmts L).length + 1) (cntL L), acc ++ L)
def StmtAt (l : List GTok) (en : Int) (g : GStmt) : Prop := ∀ (d : Nat), rightS g d = true → ∀ (n : Nat) (s : PS) (deep : Nat) (ws : List Wd), fuS g ≤ n → deep + d ≤ 32 → s.cnt + cntS g ≤ 2000 →
 Begins tElse ws → Nx l s (wStmt g ++ ws) → stmtF l en n s deep = (s.by_ (wStmt g).length (cntS g), g)
theorem begins_stmts {L : List GStmt} {d : Nat} (hr : rightL L d = true) (ws : List Wd) : Begins tElse (wStmts L ++ [125] :: ws) := by
 cases L with
 | nil => exact ⟨[125], ws, rfl, rfl⟩
 | cons g L =>
  simp only [rightL, Bool.and_eq_true] at hr
  rcases first_word (shape_of hr.1) with ⟨x, r, hw, hx, _⟩ | ⟨r, hw, _⟩ | ⟨r, hw, _⟩ | ⟨r, hw⟩ | ⟨r, hw⟩ <;> refine ⟨_, r ++ (wStmts L ++ [125] :: ws), by rw [wStmts, hw]; simp only [List.cons_append, List.append_assoc]; rfl, ?_⟩
  ·rw [key_ne (name_let hx).2.1 (show keyword tElse = true from rfl), Bool.false_and]
  all_goals rfl
theorem block_at {L : List GStmt} (hb : BodyAt l en L) {d : Nat} (hr : rightL L d = true) {n : Nat} {s : PS} {deep : Nat} {ws : List Wd} (hn : fuL L + 1 ≤ n) (hd : deep + 1 + d ≤ 32) (hc : s.cnt + cntL L ≤ 2000) (h : Nx l s (wBlk L ++ ws)) :
  blockF l en n s deep = (s.by_ (wBlk L).length (cntL L), L) := by
 obtain ⟨n, rfl⟩ : ∃ k, n = k + 1 := ⟨n - 1, by omega⟩
 have h' : Nx l s ([123] :: (wStmts L ++ [125] :: ws)) := by simpa [wBlk] using h
 have d1 : decide (32 ≤ deep) = false := by rw [decide_eq_false_iff_not]; omega
 have hb' := hb d hr n (s.go 1) deep [] ws (by omega) hd hc h'.adv
 unfold blockF
 rw [d1, Bool.and_false]
 simp only
 rw [h'.need rfl, hb', List.nil_append]
 simp only [PS.by_, PS.go, wBlk, List.length_append, List.length_cons, List.length_nil]
 congr 2
 omega
theorem body_of {g : GStmt} {L : List GStmt} (hg : StmtAt l en g) (hL : BodyAt l en L) : BodyAt l en (g :: L) := by
 intro d hr n s deep acc ws hn hd hc h
 simp only [rightL, Bool.and_eq_true] at hr
 simp only [fuL] at hn
 simp only [cntL] at hc
 obtain ⟨n, rfl⟩ : ∃ k, n = k + 1 := ⟨n - 1, by omega⟩
 have h' : Nx l s (wStmt g ++ (wStmts L ++ [125] :: ws)) := by simpa [wStmts] using h
 obtain ⟨k1, k2⟩ := starts_at (shape_of hr.1) h'
 have h1 := hg d hr.1 n s (deep + 1) _ (by omega) (by omega) (by omega) (begins_stmts hr.2 ws) h'
 have h2 := hL d hr.2 n (s.by_ (wStmt g).length (cntS g)) deep (acc ++ [g]) ws (by omega) hd (by simp only [PS.by_]; omega) h'.snd
 unfold bodyF
 rw [k2, h'.ok]
 simp only [Bool.not_false, Bool.and_self]
 rw [h1]
 simp only
 rw [h2]
 simp only [PS.by_, wStmts, cntL, List.length_append, List.append_assoc, List.cons_append, List.nil_append, Nat.add_assoc]
theorem body_nil : BodyAt l en [] := by
 intro d hr n s deep acc ws hn hd hc h
 simp only [fuL] at hn
 obtain ⟨n, rfl⟩ : ∃ k, n = k + 1 := ⟨n - 1, by omega⟩
 have h' : Nx l s ([125] :: ws) := h
 have h1 : isT l s [125] = true := by rw [h'.isT]; rfl
 unfold bodyF
 rw [h1]
 simp only [Bool.not_true, Bool.and_false]
 rw [h'.need rfl, List.append_nil]
 rfl
theorem stmt_of {op : Int} {x y p : Wd} {a : List Opd} {ps : List Wd} {th el : List GStmt} (hf : fitS (.mk op x y p a ps th el) = true) (hth : BodyAt l en th) (hel : BodyAt l en el) : StmtAt l en (.mk op x y p a ps th el) := by
 intro d hr n s deep ws hn hd hc hbe h
 have hs := shape_of hr
 simp only [fuS] at hn
 obtain ⟨n, rfl⟩ : ∃ k, n = k + 1 := ⟨n - 1, by omega⟩
 obtain ⟨k1, _⟩ := starts_at hs h
 have c1 : decide (2000 ≤ s.cnt) = false := by rw [decide_eq_false_iff_not]; simp only [cntS] at hc; omega
 by_cases hfl : (GStmt.mk op x y p a ps th el).flat = true
 ·obtain ⟨k2, k3⟩ := flat_at hs hfl h
  have hsim := simple_at (en := en) hs hfl (fit_lens hf) (s := s.count) h
  have hcn : cntS (.mk op x y p a ps th el) = 1 := by
   cases hs <;> first | rfl | (cases hfl)
  unfold stmtF
  rw [k1, c1, k2, k3]
  simp only
  rw [hsim, hcn]
  rfl
 ·cases hs with
  | if_ o th el ho hd0 ht he =>
   rw [wStmt_if] at h ⊢
   have h' : Nx l s (tIf :: (wOpd o ++ (wBlk th ++ (wElse el ++ ws)))) := by simpa [wFirst] using h
   have k2 : isT l s tIf = true := by rw [h'.isT]; rfl
   have ho' : operand l en s.count.adv = ((s.count.go 1).go (wOpd o).length, o) := operand_at (s := s.count.go 1) ho h'.adv
   have h2 : Nx l ((s.count.go 1).go (wOpd o).length) (wBlk th ++ (wElse el ++ ws)) := h'.adv.snd
   simp only [cntS] at hc
   have hb1 := block_at hth ht (n := n) (deep := deep) (by omega) (by omega) (by simp only [PS.go, PS.count]; omega) h2
   have h3 : Nx l (((s.count.go 1).go (wOpd o).length).by_ (wBlk th).length (cntL th)) (wElse el ++ ws) := h2.snd
   unfold stmtF
   rw [k1, c1, k2]
   simp only
   rw [ho']
   simp only
   rw [hb1]
   simp only
   cases el with
   | nil =>
    obtain ⟨a, r, rfl, hbe⟩ := hbe
    have h4 : Nx l (((s.count.go 1).go (wOpd o).length).by_ (wBlk th).length (cntL th)) (a :: r) := h3
    have k4 : isT l (((s.count.go 1).go (wOpd o).length).by_ (wBlk th).length (cntL th)) tElse = false := by rw [h4.isT, hbe]
    rw [k4]
    simp only [PS.by_, PS.go, PS.count, cntS, cntL, wFirst, wElse, List.length_append, List.length_cons, List.length_nil]
    congr 2 <;> omega
   | cons e r =>
    have h4 : Nx l (((s.count.go 1).go (wOpd o).length).by_ (wBlk th).length (cntL th)) (tElse :: (wBlk (e :: r) ++ ws)) := h3
    have k4 : isT l (((s.count.go 1).go (wOpd o).length).by_ (wBlk th).length (cntL th)) tElse = true := by rw [h4.isT]; rfl
    have hb2 := block_at hel he (n := n) (deep := deep) (by omega) (by omega) (by simp only [PS.go, PS.count, PS.by_]; omega) h4.adv
    rw [k4]
    simp only
    rw [adv_go, hb2]
    simp only [PS.by_, PS.go, PS.count, cntS, wFirst, wElse, List.length_append, List.length_cons, List.length_nil]
    congr 2 <;> omega
  | while_ o th ho hd0 ht =>
   rw [wStmt_while] at h ⊢
   have h' : Nx l s (tWhile :: (wOpd o ++ (wBlk th ++ ws))) := by simpa [wFirst] using h
   have k2 : isT l s tIf = false := by rw [h'.isT]; rfl
   have k3 : isT l s tWhile = true := by rw [h'.isT]; rfl
   have ho' : operand l en s.count.adv = ((s.count.go 1).go (wOpd o).length, o) := operand_at (s := s.count.go 1) ho h'.adv
   have h2 : Nx l ((s.count.go 1).go (wOpd o).length) (wBlk th ++ ws) := h'.adv.snd
   simp only [cntS] at hc
   have hb1 := block_at hth ht (n := n) (deep := deep) (by omega) (by omega) (by simp only [PS.go, PS.count]; omega) h2
   unfold stmtF
   rw [k1, c1, k2, k3]
   simp only
   rw [ho']
   simp only
   rw [hb1]
   simp only [PS.by_, PS.go, PS.count, cntS, cntL, wFirst, List.length_append, List.length_cons, List.length_nil]
   congr 2 <;> omega
  | _ => exact absurd rfl hfl
mutual
theorem stmt_at : ∀ (g : GStmt), fitS g = true → StmtAt l en g
 | .mk op x y p a ps th el, hf => by
  have hf' := hf
  simp only [fitS, Bool.and_eq_true] at hf'
  exact stmt_of hf (body_at th hf'.2.2.2.2.1) (body_at el hf'.2.2.2.2.2)
theorem body_at : ∀ (L : List GStmt), fitSs L = true → BodyAt l en L
 | [], _ => body_nil
 | g :: L, hf => by
  simp only [fitSs, Bool.and_eq_true] at hf
  exact body_of (stmt_at g hf.1) (body_at L hf.2)
end
end
end Go.Proofs.YtghhkbigmmjanaaGreatDoor.VA

/-! Lp2 -/
namespace Go.Proofs.YtghhkbigmmjanaaGreatDoor.VA
open Go Go.RowKit
set_option linter.unusedSimpArgs false

def Tok.up (d : Nat) (t : Tok) : Tok := ⟨t.kind, t.text, t.at_ + d⟩
def LexR.up (d : Nat) : LexR → LexR
 | .ok l => .ok (l.map (Tok.up d))
 | .err a => .err (a + d)
theorem LexR.up_pre (d : Nat) (l : List Tok) (r : LexR) : LexR.up d (LexR.pre l r) = LexR.pre (l.map (Tok.up d)) (LexR.up d r) := by cases r <;> simp [LexR.up, LexR.pre]
theorem lexF_up (d : Nat) : ∀ (n : Nat) (l : List UInt8) (a : Nat), lexF n l (a + d) = LexR.up d (lexF n l a) := by
 intro n
 induction n with
 | zero => intro l a; rfl
 | succ n ih =>
  intro l a
  cases l with
  | nil => rfl
  | cons b l =>
   have sw : ∀ k, a + d + k = a + k + d := fun k => by omega
   simp only [lexF]
   split
   ·rw [sw, ih]
   ·rw [sw, ih]
   ·rw [sw, ih, LexR.up_pre]; rfl
   ·split
    ·rw [sw, ih, LexR.up_pre]; rfl
    ·rfl
   ·rw [sw, ih, LexR.up_pre]; rfl
   ·rfl
theorem lexL_up (d : Nat) (l : List UInt8) (a : Nat) : lexL l (a + d) = LexR.up d (lexL l a) := lexF_up d _ l a
/-- One answer, and then another one's. -/
def LexR.andThen (r : LexR) (q : LexR) : LexR :=
 match r with
 | .ok ts => LexR.pre ts q
 | .err a => .err a
theorem LexR.pre_andThen (l : List Tok) (r q : LexR) : LexR.andThen (LexR.pre l r) q = LexR.pre l (LexR.andThen r q) := by
 cases r with
 | ok ts => exact (LexR.pre_pre l ts q).symm
 | err a => rfl
theorem lexL_parts (t : List UInt8) : ∀ (n : Nat) (s : List UInt8) (a : Nat), s.length < n → lexL (s ++ 10 :: t) a = LexR.andThen (lexL s a) (lexL t (a + s.length + 1)) := by
 intro n
 induction n with
 | zero => intro s a h; omega
 | succ n ih =>
  intro s a hn
  cases s with
  | nil =>
   rw [List.nil_append, lexL_blank (by rfl), lexL_nil]
   simp only [LexR.andThen, LexR.pre_nil]; rfl
  | cons b l =>
   have hc := cls_lt b.toNat
   have hs : ∀ p, p 10 = false → span p ((b :: l) ++ 10 :: t) = span p (b :: l) := fun p hp => span_app (show stops p (10 :: t) from hp) _
   have hle : ∀ p, span p (b :: l) ≤ (b :: l).length := fun p => span_le p _
   have hd : ∀ p, ((b :: l) ++ 10 :: t).drop (span p (b :: l)) = (b :: l).drop (span p (b :: l)) ++ 10 :: t := fun p => List.drop_append_of_le_length (hle p)
   have ht : ∀ p, ((b :: l) ++ 10 :: t).take (span p (b :: l)) = (b :: l).take (span p (b :: l)) := fun p => List.take_append_of_le_length (hle p)
   have step : ∀ p, 0 < span p (b :: l) → lexL ((b :: l).drop (span p (b :: l)) ++ 10 :: t) (a + span p (b :: l)) =
     LexR.andThen (lexL ((b :: l).drop (span p (b :: l))) (a + span p (b :: l))) (lexL t (a + (b :: l).length + 1)) := fun p hp => by
    rw [ih _ _ (by simp only [List.length_drop, List.length_cons] at hn ⊢; omega)]
    congr 2
    have := hle p
    simp only [List.length_drop]; omega
   rw [List.cons_append] at hs hd ht ⊢
   by_cases c1 : cls b.toNat = 1
   ·rw [lexL_blank c1, lexL_blank c1, ih l _ (by simp at hn; omega)]
    congr 2; simp; omega
   by_cases c2 : cls b.toNat = 2
   ·rw [lexL_remark c2, lexL_remark c2, hs notNl rfl, hd notNl, step notNl (by rw [span_pos (cls2 c2)]; omega)]
   by_cases c3 : cls b.toNat = 3
   ·rw [lexL_word c3, lexL_word c3, hs inWord rfl, hd inWord, ht inWord, step inWord (by rw [span_pos (cls3 c3)]; omega), LexR.pre_andThen]
   by_cases c4 : cls b.toNat = 4
   ·have he : endsNum ((b :: l).drop (span isDigit (b :: l)) ++ 10 :: t) = endsNum ((b :: l).drop (span isDigit (b :: l))) := by
     cases (b :: l).drop (span isDigit (b :: l)) with
     | nil => rfl
     | cons c r => rfl
    by_cases hnn : span isDigit (b :: l) ≤ 9 ∧ endsNum ((b :: l).drop (span isDigit (b :: l))) = true
    ·rw [lexL_num c4 (by rw [hs isDigit rfl]; exact hnn.1) (by rw [hs isDigit rfl, hd isDigit, he]; exact hnn.2), lexL_num c4 hnn.1 hnn.2, hs isDigit rfl, hd isDigit, ht isDigit,
      step isDigit (by rw [span_pos (cls4 c4)]; omega), LexR.pre_andThen]
    ·rw [lexL_notnum c4 (by rw [hs isDigit rfl, hd isDigit, he]; exact hnn), lexL_notnum c4 hnn]; rfl
   by_cases c5 : cls b.toNat = 5
   ·rw [lexL_sign c5, lexL_sign c5, ih l _ (by simp at hn; omega), LexR.pre_andThen]
    congr 3; simp; omega
   ·rw [lexL_other (by omega), lexL_other (by omega)]; rfl
theorem parts_lex (s t : List UInt8) : lexL (s ++ [10] ++ t) 0 = LexR.andThen (lexL s 0) (LexR.up (s.length + 1) (lexL t 0)) := by
 have h1 := lexL_parts t (s.length + 1) s 0 (by omega)
 have h2 := lexL_up (s.length + 1) t 0
 rw [List.append_assoc]
 simp only [Nat.zero_add] at h1 h2
 rw [h2] at h1
 exact h1
end Go.Proofs.YtghhkbigmmjanaaGreatDoor.VA

/-! Qp7 -/
namespace Go.Proofs.YtghhkbigmmjanaaGreatDoor.VA
open Go Go.RowKit
set_option linter.unusedSimpArgs false

/-! ### functions and programs -/
def rightF (f : GFunc) : Bool := nameW f.name && (rightL f.body 31 && f.params.all nameW)
def rightP (fs : List GFunc) : Bool := fs.all rightF
def cntP : List GFunc → Nat
 | [] => 0
 | f :: fs => cntL f.body + cntP fs
def wProg : List GFunc → List Wd
 | [] => []
 | f :: fs => wFunc f ++ wProg fs
mutual
theorem fuS_le : ∀ (g : GStmt), fuS g + 5 ≤ 10 * cntS g
 | .mk op x y p a ps th el => by
  have h1 := fuL_le th
  have h2 := fuL_le el
  simp only [fuS, cntS]; omega
theorem fuL_le : ∀ (L : List GStmt), fuL L ≤ 10 * cntL L + 1
 | [] => by simp [fuL, cntL]
 | g :: L => by
  have h1 := fuS_le g
  have h2 := fuL_le L
  simp only [fuL, cntL]; omega
end
section
variable {l : List GTok} {en : Int}
theorem func_at {f : GFunc} (hr : rightF f = true) (hf : fitF f = true) {s : PS} {ws : List Wd} (hc : s.cnt + cntL f.body ≤ 2000) (h : Nx l s (wFunc f ++ ws)) : funcP l en s = (s.by_ (wFunc f).length (cntL f.body), f) := by
 obtain ⟨nm, ps, bd⟩ := f
 simp only [rightF, Bool.and_eq_true] at hr
 simp only [fitF, Bool.and_eq_true, decide_eq_true_eq] at hf
 have e : wFunc ⟨nm, ps, bd⟩ = tFun :: nm :: [40] :: (wSep (ps.map fun w => [w]) ++ [41] :: wBlk bd) := by
  simp only [wFunc, wPars_eq]; simp
 rw [e] at h ⊢
 have h' : Nx l s (tFun :: nm :: [40] :: (wSep (ps.map fun w => [w]) ++ [41] :: (wBlk bd ++ ws))) := by simpa using h
 have h2 : Nx l (s.go 2) ([40] :: (wSep (ps.map fun w => [w]) ++ [41] :: (wBlk bd ++ ws))) := h'.adv.adv
 have hfn : ps.length ≤ FN := by have := hf.1; unfold BIG at this; unfold FN; omega
 have n1 : nameP l en (s.go 1) = (s.go 2, nm) := h'.adv.name hr.1
 have n2 := names_at (en := en) hr.2.2 hfn h2
 have h3 : Nx l ((s.go 2).go ((wSep (ps.map fun w => [w])).length + 2)) (wBlk bd ++ ws) := by
  have := h2.adv.snd.adv
  rw [go_go, go_go] at this
  rw [show (wSep (ps.map fun w => [w])).length + 2 = 1 + ((wSep (ps.map fun w => [w])).length + 1) by omega]
  exact this
 have h4 := block_at (body_at (en := en) bd hf.2.2) hr.2.1 (n := FN) (deep := 0) (by have := fuL_le bd; simp only [] at hc; unfold FN; omega) (by omega) (by simp only [PS.go]; exact hc) h3
 simp only [funcP, h'.need (show num1 tFun = false from rfl), n1, n2, h4]
 simp only [PS.by_, PS.go, List.length_append, List.length_cons]
 congr 2
 omega
theorem prog_at : ∀ (fs : List GFunc), rightP fs = true → fs.all fitF = true → ∀ (n : Nat) (s : PS) (acc : List GFunc), fs.length < n → s.cnt + cntP fs ≤ 2000 → Nx l s (wProg fs) → l.length = s.at_ + (wProg fs).length →
  ∃ s', progF l en n s acc = (s', acc ++ fs) ∧ s'.f = none
 | [], _, _, n, s, acc, hn, hc, h, hl => by
  obtain ⟨n, rfl⟩ : ∃ k, n = k + 1 := ⟨n - 1, by omega⟩
  simp only [wProg, List.length_nil, Nat.add_zero] at hl
  refine ⟨s, ?_, h.1⟩
  have d1 : decide (s.at_ < l.length) = false := by rw [decide_eq_false_iff_not]; omega
  simp only [progF, d1, Bool.and_false, List.append_nil]
 | f :: fs, hr, hf, n, s, acc, hn, hc, h, hl => by
  obtain ⟨n, rfl⟩ : ∃ k, n = k + 1 := ⟨n - 1, by omega⟩
  simp only [rightP, List.all_cons, Bool.and_eq_true] at hr
  simp only [List.all_cons, Bool.and_eq_true] at hf
  simp only [cntP] at hc
  simp only [wProg, List.length_append] at hl
  have hp : 0 < (wFunc f).length := by simp [wFunc]
  have d1 : decide (s.at_ < l.length) = true := by rw [decide_eq_true_eq]; omega
  have h1 := func_at (en := en) hr.1 hf.1 (s := s) (by omega) h
  obtain ⟨s', h2, h3⟩ := prog_at fs hr.2 hf.2 n (s.by_ (wFunc f).length (cntL f.body)) (acc ++ [f]) (by simp at hn; omega) (by simp only [PS.by_]; omega) h.snd (by simp only [PS.by_]; omega)
  refine ⟨s', ?_, h3⟩
  simp only [progF, h.ok, d1, Bool.and_self, h1, h2]
  simp
theorem read_at {fs : List GFunc} (hr : rightP fs = true) (hf : fitP fs = true) (hc : cntP fs ≤ 2000) (h : At l 0 (wProg fs)) (hl : l.length = (wProg fs).length) : readP l en = (fs, 0, 0) := by
 simp only [fitP, Bool.and_eq_true, decide_eq_true_eq] at hf
 obtain ⟨s', h1, h2⟩ := prog_at (en := en) fs hr hf.2 FN ⟨0, 0, none⟩ [] (by have := hf.1; unfold BIG at this; unfold FN; omega) (by simpa using hc) ⟨rfl, h⟩ (by simpa using hl)
 simp only [readP, h1, h2, List.nil_append]
end
/-! ### the print is read -/
def wordOk (w : Wd) : Prop := ∃ k, tokOk k w ∧ w.length ≤ 65536
theorem wordOk_of {K : Int} {w : Wd} (h : rightB K w = true) : wordOk w := by
 obtain ⟨k, _, h1, h2⟩ := right_tok h
 exact ⟨k, h1, h2⟩
theorem words_tail : ∀ (ws : List Wd) (a : Nat), (∀ w ∈ ws, wordOk w) → ∃ ts, lexL (Lib.joinTail [32] ws) a = .ok ts ∧ ts.map (·.text) = ws ∧ (ts.map Tok.g).all rightG = true
 | [], a, _ => ⟨[], rfl, rfl, rfl⟩
 | w :: ws, a, h => by
  obtain ⟨k, h1, hl⟩ := h w (by simp)
  obtain ⟨ts, h2, h3, h4⟩ := words_tail ws (a + 1 + w.length) (fun v hv => h v (by simp [hv]))
  have e : Lib.joinTail [32] (w :: ws) = 32 :: (w ++ Lib.joinTail [32] ws) := by simp [Lib.joinTail]
  have hst : stops inWord (Lib.joinTail [32] ws) := by
   cases ws with
   | nil => trivial
   | cons y l => rfl
  refine ⟨⟨k, w, a + 1⟩ :: ts, ?_, ?_, ?_⟩
  ·rw [e, lexL_blank (by rfl), lexL_tok h1 hst, h2]; rfl
  ·simp only [List.map_cons, h3]
  ·simp only [List.map_cons, List.all_cons, h4, Bool.and_true]
   exact tok_right h1 hl
theorem words_lex1 (ws : List Wd) (a : Nat) (h : ∀ w ∈ ws, wordOk w) : ∃ ts, lexL (joined [32] ws) a = .ok ts ∧ ts.map (·.text) = ws ∧ (ts.map Tok.g).all rightG = true := by
 cases ws with
 | nil => exact ⟨[], rfl, rfl, rfl⟩
 | cons w ws =>
  obtain ⟨k, h1, hl⟩ := h w (by simp)
  obtain ⟨ts, h2, h3, h4⟩ := words_tail ws (a + w.length) (fun v hv => h v (by simp [hv]))
  have e : joined [32] (w :: ws) = w ++ Lib.joinTail [32] ws := Lib.join_cons _ _ _
  have hst : stops inWord (Lib.joinTail [32] ws) := by
   cases ws with
   | nil => trivial
   | cons y l => rfl
  refine ⟨⟨k, w, a⟩ :: ts, ?_, ?_, ?_⟩
  ·rw [e, lexL_tok h1 hst, h2]; rfl
  ·simp only [List.map_cons, h3]
  ·simp only [List.map_cons, List.all_cons, h4, Bool.and_true]
   exact tok_right h1 hl
theorem spelt_lex : ∀ (fs : List GFunc) (a : Nat), (∀ f ∈ fs, ∀ w ∈ wFunc f, wordOk w) → ∃ ts, lexL (spelt fs) a = .ok ts ∧ ts.map (·.text) = wProg fs ∧ (ts.map Tok.g).all rightG = true
 | [], a, _ => ⟨[], rfl, rfl, rfl⟩
 | f :: fs, a, h => by
  obtain ⟨t1, k1, k2, k3⟩ := words_lex1 (wFunc f) a (h f (by simp))
  obtain ⟨t2, q1, q2, q3⟩ := spelt_lex fs (a + (joined [32] (wFunc f)).length + 1) (fun g hg => h g (by simp [hg]))
  refine ⟨t1 ++ t2, ?_, ?_, ?_⟩
  ·have e : spelt (f :: fs) = joined [32] (wFunc f) ++ 10 :: spelt fs := by simp [spelt, speltF]
   rw [e, lexL_parts (spelt fs) _ _ a (Nat.lt_succ_self _), k1, q1]
   rfl
  ·simp only [List.map_append, k2, q2, wProg]
  ·simp only [List.map_append, List.all_append, k3, q3, Bool.and_self]
theorem At_of : ∀ (ts : List Tok) (pre : List GTok), (ts.map Tok.g).all rightG = true → At (pre ++ ts.map Tok.g) pre.length (ts.map (·.text))
 | [], pre, _ => trivial
 | t :: ts, pre, h => by
  simp only [List.map_cons, List.all_cons, Bool.and_eq_true] at h
  refine ⟨⟨t.g, by simp, h.1, rfl⟩, ?_⟩
  have := At_of ts (pre ++ [t.g]) h.2
  simpa using this
end Go.Proofs.YtghhkbigmmjanaaGreatDoor.VA

/-! Qp10 -/
namespace Go.Proofs.YtghhkbigmmjanaaGreatDoor.VA
open Go Go.RowKit
set_option linter.unusedSimpArgs false

section
variable {l : List GTok} {en : Int} {s : PS}
theorem right_name {o : Opd} (h : rightO o = true) (hk : o.kind = 4) : nameW o.name = true := by
 rcases right_opd h with rfl | rfl | rfl | ⟨n, _, rfl⟩ | ⟨h1, h2⟩ | ⟨h1, h2⟩
 ·cases hk
 ·cases hk
 ·cases hk
 ·cases hk
 ·exact h1
 ·exact h1
theorem sign_arith {t : Wd} (h : signOf l s arith = some t) : isArith t = true := by
 have := (signOf_some h).2
 simp only [arith, List.mem_cons, List.not_mem_nil, or_false] at this
 rcases this with rfl | rfl | rfl | rfl | rfl <;> rfl
theorem rest_right {o : Opd} (ho : rightO o = true) (h : (rest l en s o).1.ok = true) (d : Nat) {x : Wd} (hx : nameW x = true) : Shape d ((rest l en s o).2.setX x) := by
 unfold rest at h ⊢
 cases h1 : signOf l s arith with
 | some t =>
  rw [h1] at h
  exact .arith x t o _ hx (sign_arith h1) ho (operand_right h)
 | none =>
  rw [h1] at h
  simp only at h ⊢
  cases h2 : decide (o.kind = 4) && isT l s [40] with
  | true =>
   rw [h2] at h
   simp only [Bool.and_eq_true, decide_eq_true_eq] at h2
   exact .apply x o.name _ hx (right_name ho h2.1) (args_right h)
  | false =>
   rw [h2] at h
   simp only at h ⊢
   cases h3 : decide (o.kind = 4) && isT l s [46] with
   | true =>
    rw [h3] at h
    simp only [Bool.and_eq_true, decide_eq_true_eq] at h3
    exact .get x o.name _ hx (right_name ho h3.1) (nameP_right h)
   | false => exact .move x o hx ho
theorem value_right (h : (value l en s).1.ok = true) (d : Nat) {x : Wd} (hx : nameW x = true) : Shape d ((value l en s).2.setX x) := by
 unfold value at h ⊢
 cases h1 : isT l s tIn with
 | true => exact .in_ x hx
 | false =>
 cases h2 : isT l s tCall with
 | true =>
  simp only [h1, h2] at h ⊢
  exact .call x _ _ hx (nameP_right (args_lt _ h).1) (args_right h)
 | false =>
 cases h3 : isT l s tNew with
 | true =>
  simp only [h1, h2, h3] at h ⊢
  have hp : (propsP l en s.adv).1.ok = true := (protoP_lt (l := l) (en := en) _ h).1
  obtain ⟨k1, k2, k3⟩ := props_right hp
  exact .new x _ _ _ hx k1 k2 (operand_right h) k3
 | false =>
  simp only [h1, h2, h3] at h ⊢
  exact rest_right (operand_right (rest_le (l := l) (en := en) _ _ h).1) h d hx
theorem assign_right (h : (assign l en s).1.ok = true) (d : Nat) : Shape d (assign l en s).2 := by
 unfold assign at h ⊢
 cases h1 : isT l (nameP l en s).1 [46] with
 | true =>
  simp only [h1] at h ⊢
  have k1 := ok_need (operand_lt (l := l) (en := en) _ h).1
  have k2 : (nameP l en s).1.ok = true := (nameP_lt (l := l) (en := en) _ k1).1
  exact .set _ _ _ (nameP_right k2) (nameP_right k1) (operand_right h)
 | false =>
  simp only [h1] at h ⊢
  have k1 := ok_need (value_lt (l := l) (en := en) _ h).1
  exact value_right h d (nameP_right k1)
theorem simple_right (h : (simple l en s).1.ok = true) (d : Nat) : Shape d (simple l en s).2 := by
 unfold simple at h ⊢
 cases h1 : isT l s tOut with
 | true => simp only [h1] at h ⊢; exact .out _ (operand_right h)
 | false =>
 cases h2 : isT l s tReturn with
 | true => simp only [h1, h2] at h ⊢; exact .ret _ (operand_right h)
 | false => simp only [h1, h2] at h ⊢; exact assign_right h d
theorem setX_flat (g : GStmt) (x : Wd) : cntS (g.setX x) = cntS g := by cases g; rfl
theorem rest_one (o : Opd) : cntS (rest l en s o).2 = 1 := by
 unfold rest
 cases signOf l s arith with
 | some t => rfl
 | none =>
  simp only
  cases decide (o.kind = 4) && isT l s [40] with
  | true => rfl
  | false =>
   simp only
   cases decide (o.kind = 4) && isT l s [46] with
   | true => rfl
   | false => rfl
theorem simple_one : cntS (simple l en s).2 = 1 := by
 unfold simple
 cases isT l s tOut with
 | true => rfl
 | false =>
 cases isT l s tReturn with
 | true => rfl
 | false =>
  simp only
  unfold assign
  cases isT l (nameP l en s).1 [46] with
  | true => rfl
  | false =>
   simp only
   rw [setX_flat]
   unfold value
   cases isT l (need l en (nameP l en s).1 [61]) tIn with
   | true => rfl
   | false =>
   cases isT l (need l en (nameP l en s).1 [61]) tCall with
   | true => rfl
   | false =>
   cases isT l (need l en (nameP l en s).1 [61]) tNew with
   | true => rfl
   | false => exact rest_one _
theorem rightL_app (d : Nat) : ∀ (a b : List GStmt), rightL (a ++ b) d = (rightL a d && rightL b d)
 | [], b => by simp [rightL]
 | g :: a, b => by simp only [List.cons_append, rightL, rightL_app d a b, Bool.and_assoc]
theorem cntL_app : ∀ (a b : List GStmt), cntL (a ++ b) = cntL a + cntL b
 | [], b => by simp [cntL]
 | g :: a, b => by simp only [List.cons_append, cntL, cntL_app a b, Nat.add_assoc]
theorem blocks_right : ∀ (n : Nat),
  (∀ s deep, deep ≤ 32 → s.cnt ≤ 2000 → (stmtF l en n s deep).1.ok = true → rightS (stmtF l en n s deep).2 (32 - deep) = true ∧ (stmtF l en n s deep).1.cnt = s.cnt + cntS (stmtF l en n s deep).2 ∧ (stmtF l en n s deep).1.cnt ≤ 2000) ∧
  (∀ s deep, s.cnt ≤ 2000 → (blockF l en n s deep).1.ok = true → deep < 32 ∧ rightL (blockF l en n s deep).2 (31 - deep) = true ∧ (blockF l en n s deep).1.cnt = s.cnt + cntL (blockF l en n s deep).2 ∧ (blockF l en n s deep).1.cnt ≤ 2000) ∧
  (∀ s deep acc, deep < 32 → s.cnt ≤ 2000 → rightL acc (31 - deep) = true → (bodyF l en n s deep acc).1.ok = true → rightL (bodyF l en n s deep acc).2 (31 - deep) = true ∧ (bodyF l en n s deep acc).1.cnt + cntL acc = s.cnt + cntL (bodyF l en n s deep acc).2 ∧ (bodyF l en n s deep acc).1.cnt ≤ 2000) := by
 intro n
 induction n with
 | zero =>
  refine ⟨fun s deep _ _ h => ?_, fun s deep _ h => ?_, fun s deep acc _ _ _ h => ?_⟩
  ·unfold stmtF at h; rw [pfail_bad] at h; cases h
  ·unfold blockF at h; rw [pfail_bad] at h; cases h
  ·unfold bodyF at h; rw [pfail_bad] at h; cases h
 | succ n ih =>
  obtain ⟨ih1, ih2, ih3⟩ := ih
  refine ⟨fun s deep hd hc h => ?_, fun s deep hc h => ?_, fun s deep acc hd hc hr h => ?_⟩
  ·unfold stmtF at h ⊢
   cases h0 : starts l s with
   | false => rw [h0] at h; simp only at h; rw [pfail_bad] at h; cases h
   | true =>
   cases h1 : decide (2000 ≤ s.cnt) with
   | true => rw [h0, h1] at h; simp only at h; rw [pfail_bad] at h; cases h
   | false =>
   have hc' : s.cnt < 2000 := by rw [decide_eq_false_iff_not] at h1; omega
   have hoc : (operand l en s.count.adv).1.cnt = s.cnt + 1 := operand_cnt _
   cases h2 : isT l s tIf with
   | true =>
    simp only [h0, h1, h2] at h ⊢
    cases h3 : isT l (blockF l en n (operand l en s.count.adv).1 deep).1 tElse with
    | true =>
     simp only [h3] at h ⊢
     have hb1 : (blockF l en n (operand l en s.count.adv).1 deep).1.ok = true := (blockF_lt (l := l) (en := en) n _ deep h).1
     obtain ⟨k1, k2, k3, k4⟩ := ih2 _ deep (by omega) hb1
     obtain ⟨q1, q2, q3, q4⟩ := ih2 (blockF l en n (operand l en s.count.adv).1 deep).1.adv deep (by exact k4) h
     have ho := operand_right (blockF_lt (l := l) (en := en) n _ deep hb1).1
     have q3' : (blockF l en n (blockF l en n (operand l en s.count.adv).1 deep).1.adv deep).1.cnt = (blockF l en n (operand l en s.count.adv).1 deep).1.cnt + cntL (blockF l en n (blockF l en n (operand l en s.count.adv).1 deep).1.adv deep).2 := q3
     refine ⟨of_shape (.if_ _ _ _ ho (by omega) (by rw [show 32 - deep - 1 = 31 - deep by omega]; exact k2) (by rw [show 32 - deep - 1 = 31 - deep by omega]; exact q2)), ?_, q4⟩
     simp only [cntS]
     omega
    | false =>
     simp only [h3] at h ⊢
     obtain ⟨k1, k2, k3, k4⟩ := ih2 _ deep (by omega) h
     have ho := operand_right (blockF_lt (l := l) (en := en) n _ deep h).1
     refine ⟨of_shape (.if_ _ _ _ ho (by omega) (by rw [show 32 - deep - 1 = 31 - deep by omega]; exact k2) rfl), ?_, k4⟩
     simp only [cntS, cntL]
     omega
   | false =>
   cases h3 : isT l s tWhile with
   | true =>
    simp only [h0, h1, h2, h3] at h ⊢
    obtain ⟨k1, k2, k3, k4⟩ := ih2 _ deep (by omega) h
    have ho := operand_right (blockF_lt (l := l) (en := en) n _ deep h).1
    refine ⟨of_shape (.while_ _ _ ho (by omega) (by rw [show 32 - deep - 1 = 31 - deep by omega]; exact k2)), ?_, k4⟩
    simp only [cntS, cntL]
    omega
   | false =>
    simp only [h0, h1, h2, h3, semi] at h ⊢
    have hs := ok_need h
    have e1 : (simple l en s.count).1.cnt = s.cnt + 1 := simple_cnt _
    refine ⟨of_shape (simple_right hs _), ?_, ?_⟩
    ·rw [need_cnt, simple_one, e1]
    ·rw [need_cnt, e1]; omega
  ·unfold blockF at h ⊢
   cases h1 : isT l s [123] && decide (32 ≤ deep) with
   | true => rw [h1] at h; simp only at h; rw [pfail_bad] at h; cases h
   | false =>
    rw [h1] at h
    simp only at h ⊢
    have hn : (need l en s [123]).ok = true := (bodyF_lt (l := l) (en := en) n _ deep [] h).1
    have ht : isT l s [123] = true := by
     unfold need at hn
     cases ht : isT l s [123] with
     | true => rfl
     | false => rw [ht] at hn; simp only at hn; rw [pfail_bad] at hn; cases hn
    have hd : deep < 32 := by
     rw [ht, Bool.true_and, decide_eq_false_iff_not] at h1
     omega
    obtain ⟨k1, k2, k3⟩ := ih3 (need l en s [123]) deep [] hd (by rw [need_cnt]; exact hc) rfl h
    rw [need_cnt] at k2
    exact ⟨hd, k1, by simpa [cntL] using k2, k3⟩
  ·unfold bodyF at h ⊢
   cases h1 : s.ok && !isT l s [125] with
   | true =>
    rw [h1] at h
    simp only at h ⊢
    have hst : (stmtF l en n s (deep + 1)).1.ok = true := (bodyF_lt (l := l) (en := en) n _ deep _ h).1
    obtain ⟨k1, k2, k3⟩ := ih1 s (deep + 1) (by omega) hc hst
    rw [show 32 - (deep + 1) = 31 - deep by omega] at k1
    obtain ⟨q1, q2, q3⟩ := ih3 _ deep (acc ++ [(stmtF l en n s (deep + 1)).2]) hd k3 (by rw [rightL_app, hr]; simp [rightL, k1]) h
    refine ⟨q1, ?_, q3⟩
    rw [cntL_app] at q2
    simp only [cntL] at q2
    omega
   | false =>
    rw [h1] at h
    simp only at h ⊢
    exact ⟨hr, by rw [need_cnt], by rw [need_cnt]; exact hc⟩
end
end Go.Proofs.YtghhkbigmmjanaaGreatDoor.VA

/-! Qp8 -/
namespace Go.Proofs.YtghhkbigmmjanaaGreatDoor.VA
open Go Go.RowKit
set_option linter.unusedSimpArgs false

def allOk (ws : List Wd) : Prop := ∀ w ∈ ws, wordOk w
theorem ok_nil : allOk [] := fun _ h => by cases h
theorem ok_cons {w : Wd} {ws : List Wd} (h : wordOk w) (k : allOk ws) : allOk (w :: ws) := fun v hv => by
 rcases List.mem_cons.1 hv with rfl | hv
 ·exact h
 ·exact k v hv
theorem ok_app {u v : List Wd} (h : allOk u) (k : allOk v) : allOk (u ++ v) := fun w hw => by
 rcases List.mem_append.1 hw with hw | hw
 ·exact h w hw
 ·exact k w hw
theorem ok_name {w : Wd} (h : nameW w = true) : wordOk w := by
 simp only [nameW, Bool.and_eq_true] at h
 exact wordOk_of h.1
theorem opd_ok {o : Opd} (ho : rightO o = true) : allOk (wOpd o) := by
 rcases right_opd ho with rfl | rfl | rfl | ⟨n, hn, rfl⟩ | ⟨hw, ho'⟩ | ⟨hw, ho'⟩
 ·exact ok_cons (w := tNull) (by (first | exact wordOk_of (K := 2) (by rfl) | exact wordOk_of (K := 0) (by rfl))) ok_nil
 ·exact ok_cons (w := tFalse) (by (first | exact wordOk_of (K := 2) (by rfl) | exact wordOk_of (K := 0) (by rfl))) ok_nil
 ·exact ok_cons (w := tTrue) (by (first | exact wordOk_of (K := 2) (by rfl) | exact wordOk_of (K := 0) (by rfl))) ok_nil
 ·obtain ⟨h1, _⟩ := num_word hn
  refine ok_cons (w := Lib.itoa (n : Int)) ⟨1, h1, ?_⟩ ok_nil
  rw [itoa_nat]
  have := dec_len 8 n (by omega)
  omega
 ·rw [ho']; exact ok_cons (w := [38]) (by (first | exact wordOk_of (K := 2) (by rfl) | exact wordOk_of (K := 0) (by rfl))) (ok_cons (ok_name hw) ok_nil)
 ·rw [ho']; exact ok_cons (ok_name hw) ok_nil
theorem sep_ok : ∀ (us : List (List Wd)), (∀ u ∈ us, allOk u) → allOk (wSep us)
 | [], _ => ok_nil
 | [u], h => h u (by simp)
 | u :: v :: us, h => ok_app (h u (by simp)) (ok_cons (by (first | exact wordOk_of (K := 2) (by rfl) | exact wordOk_of (K := 0) (by rfl))) (sep_ok (v :: us) (fun x hx => h x (by simp [hx]))))
theorem args_ok {a : List Opd} (ha : a.all rightO = true) : allOk (wArgs a) := by
 rw [wArgs_eq]
 rw [List.all_eq_true] at ha
 refine ok_cons (by (first | exact wordOk_of (K := 2) (by rfl) | exact wordOk_of (K := 0) (by rfl))) (ok_app (sep_ok _ fun u hu => ?_) (ok_cons (by (first | exact wordOk_of (K := 2) (by rfl) | exact wordOk_of (K := 0) (by rfl))) ok_nil))
 obtain ⟨o, ho, rfl⟩ := List.mem_map.1 hu
 exact opd_ok (ha o ho)
theorem arith_ok {p : Wd} (h : isArith p = true) : wordOk p := by
 simp only [isArith, Bool.or_eq_true, decide_eq_true_eq] at h
 rcases h with rfl | rfl | rfl | rfl | rfl <;> (first | exact wordOk_of (K := 2) (by rfl) | exact wordOk_of (K := 0) (by rfl))
theorem blk_ok {L : List GStmt} (h : allOk (wStmts L)) : allOk (wBlk L) := by
 show allOk ([123] :: (wStmts L ++ [[125]]))
 exact ok_cons (by (first | exact wordOk_of (K := 2) (by rfl) | exact wordOk_of (K := 0) (by rfl))) (ok_app h (ok_cons (by (first | exact wordOk_of (K := 2) (by rfl) | exact wordOk_of (K := 0) (by rfl))) ok_nil))
theorem words_new {x : Wd} {ps : List Wd} {a : List Opd} {o : Opd} (hl : a.length = ps.length) :
  wStmt (.mk 4 x [] [] (a ++ [o]) ps [] []) = x :: [61] :: tNew :: [123] :: (wSep ((ps.zip a).map wPair) ++ [125] :: tProto :: (wOpd o ++ [[59]])) := by
 have e1 := wProps_eq ps (a ++ [o])
 have hmin : min ps.length (a ++ [o]).length = ps.length := by simp; omega
 have e2 : ps.zip (a ++ [o]) = ps.zip a := by
  have := List.zip_append (l₁ := ps) (r₁ := []) (l₂ := a) (r₂ := [o]) hl.symm
  simpa using this
 have e3 : (a ++ [o]).drop ps.length = [o] := by rw [← hl]; simp
 show [x, [61]] ++ (wVal 4 [] [] (a ++ [o]) ps ++ [[59]]) = _
 have e4 : wVal 4 [] [] (a ++ [o]) ps = wObj ps (a ++ [o]) := rfl
 rw [e4, wObj, e1, hmin, e2, e3]
 simp [wFirst]
mutual
theorem stm_ok : ∀ (g : GStmt) (d : Nat), rightS g d = true → allOk (wStmt g)
 | .mk op x y p a ps th el, d, h => by
  have hT : ∀ d, rightL th d = true → allOk (wStmts th) := fun d h => stms_ok th d h
  have hE : ∀ d, rightL el d = true → allOk (wStmts el) := fun d h => stms_ok el d h
  have semi : allOk [[59]] := ok_cons (by (first | exact wordOk_of (K := 2) (by rfl) | exact wordOk_of (K := 0) (by rfl))) ok_nil
  cases shape_of h with
  | if_ o _ _ ho h0 ht he =>
   rw [wStmt_if]
   show allOk (tIf :: (wOpd o ++ (wBlk th ++ wElse el)))
   refine ok_cons (by (first | exact wordOk_of (K := 2) (by rfl) | exact wordOk_of (K := 0) (by rfl))) (ok_app (opd_ok ho) (ok_app (blk_ok (hT _ ht)) ?_))
   cases el with
   | nil => exact ok_nil
   | cons e r =>
    show allOk (tElse :: wBlk (e :: r))
    exact ok_cons (by (first | exact wordOk_of (K := 2) (by rfl) | exact wordOk_of (K := 0) (by rfl))) (blk_ok (hE _ he))
  | while_ o _ ho h0 ht =>
   show allOk (tWhile :: (wOpd o ++ wBlk th))
   exact ok_cons (by (first | exact wordOk_of (K := 2) (by rfl) | exact wordOk_of (K := 0) (by rfl))) (ok_app (opd_ok ho) (blk_ok (hT _ ht)))
  | move _ o h1 h2 =>
   show allOk (x :: [61] :: (wOpd o ++ [[59]]))
   exact ok_cons (ok_name h1) (ok_cons (by (first | exact wordOk_of (K := 2) (by rfl) | exact wordOk_of (K := 0) (by rfl))) (ok_app (opd_ok h2) semi))
  | arith _ _ o q h1 h2 h3 h4 =>
   show allOk (x :: [61] :: ((wOpd o ++ p :: wOpd q) ++ [[59]]))
   exact ok_cons (ok_name h1) (ok_cons (by (first | exact wordOk_of (K := 2) (by rfl) | exact wordOk_of (K := 0) (by rfl))) (ok_app (ok_app (opd_ok h3) (ok_cons (arith_ok h2) (opd_ok h4))) semi))
  | get _ _ _ h1 h2 h3 =>
   show allOk (x :: [61] :: y :: [46] :: p :: [[59]])
   exact ok_cons (ok_name h1) (ok_cons (by (first | exact wordOk_of (K := 2) (by rfl) | exact wordOk_of (K := 0) (by rfl))) (ok_cons (ok_name h2) (ok_cons (by (first | exact wordOk_of (K := 2) (by rfl) | exact wordOk_of (K := 0) (by rfl))) (ok_cons (ok_name h3) semi))))
  | set _ _ o h1 h2 h3 =>
   show allOk (x :: [46] :: p :: [61] :: (wOpd o ++ [[59]]))
   exact ok_cons (ok_name h1) (ok_cons (by (first | exact wordOk_of (K := 2) (by rfl) | exact wordOk_of (K := 0) (by rfl))) (ok_cons (ok_name h2) (ok_cons (by (first | exact wordOk_of (K := 2) (by rfl) | exact wordOk_of (K := 0) (by rfl))) (ok_app (opd_ok h3) semi))))
  | new _ _ a o h1 h2 h3 h4 h5 =>
   rw [words_new h5]
   rw [List.all_eq_true] at h2 h3
   refine ok_cons (ok_name h1) (ok_cons (by (first | exact wordOk_of (K := 2) (by rfl) | exact wordOk_of (K := 0) (by rfl))) (ok_cons (by (first | exact wordOk_of (K := 2) (by rfl) | exact wordOk_of (K := 0) (by rfl))) (ok_cons (by (first | exact wordOk_of (K := 2) (by rfl) | exact wordOk_of (K := 0) (by rfl))) (ok_app (sep_ok _ fun u hu => ?_) (ok_cons (by (first | exact wordOk_of (K := 2) (by rfl) | exact wordOk_of (K := 0) (by rfl))) (ok_cons (by (first | exact wordOk_of (K := 2) (by rfl) | exact wordOk_of (K := 0) (by rfl))) (ok_app (opd_ok h4) semi)))))))
   obtain ⟨t, ht, rfl⟩ := List.mem_map.1 hu
   exact ok_cons (ok_name (h2 _ (List.of_mem_zip (a := t.1) (b := t.2) ht).1)) (ok_cons (by (first | exact wordOk_of (K := 2) (by rfl) | exact wordOk_of (K := 0) (by rfl))) (opd_ok (h3 _ (List.of_mem_zip (a := t.1) (b := t.2) ht).2)))
  | call _ _ _ h1 h2 h3 =>
   show allOk (x :: [61] :: ((tCall :: p :: wArgs a) ++ [[59]]))
   exact ok_cons (ok_name h1) (ok_cons (by (first | exact wordOk_of (K := 2) (by rfl) | exact wordOk_of (K := 0) (by rfl))) (ok_app (ok_cons (w := tCall) (by (first | exact wordOk_of (K := 2) (by rfl) | exact wordOk_of (K := 0) (by rfl))) (ok_cons (ok_name h2) (args_ok h3))) semi))
  | apply _ _ _ h1 h2 h3 =>
   show allOk (x :: [61] :: ((y :: wArgs a) ++ [[59]]))
   exact ok_cons (ok_name h1) (ok_cons (by (first | exact wordOk_of (K := 2) (by rfl) | exact wordOk_of (K := 0) (by rfl))) (ok_app (ok_cons (ok_name h2) (args_ok h3)) semi))
  | in_ _ h1 =>
   show allOk (x :: [61] :: tIn :: [[59]])
   exact ok_cons (ok_name h1) (ok_cons (by (first | exact wordOk_of (K := 2) (by rfl) | exact wordOk_of (K := 0) (by rfl))) (ok_cons (w := tIn) (by (first | exact wordOk_of (K := 2) (by rfl) | exact wordOk_of (K := 0) (by rfl))) semi))
  | out o h1 =>
   show allOk (tOut :: (wOpd o ++ [[59]]))
   exact ok_cons (by (first | exact wordOk_of (K := 2) (by rfl) | exact wordOk_of (K := 0) (by rfl))) (ok_app (opd_ok h1) semi)
  | ret o h1 =>
   show allOk (tReturn :: (wOpd o ++ [[59]]))
   exact ok_cons (by (first | exact wordOk_of (K := 2) (by rfl) | exact wordOk_of (K := 0) (by rfl))) (ok_app (opd_ok h1) semi)
theorem stms_ok : ∀ (L : List GStmt) (d : Nat), rightL L d = true → allOk (wStmts L)
 | [], _, _ => ok_nil
 | g :: L, d, h => by
  simp only [rightL, Bool.and_eq_true] at h
  exact ok_app (stm_ok g d h.1) (stms_ok L d h.2)
end
theorem func_ok {f : GFunc} (hr : rightF f = true) : allOk (wFunc f) := by
 obtain ⟨nm, ps, bd⟩ := f
 simp only [rightF, Bool.and_eq_true] at hr
 have e : wFunc ⟨nm, ps, bd⟩ = tFun :: nm :: [40] :: (wSep (ps.map fun w => [w]) ++ [41] :: wBlk bd) := by
  simp only [wFunc, wPars_eq]; simp
 rw [e]
 have hp := List.all_eq_true.1 hr.2.2
 refine ok_cons (by (first | exact wordOk_of (K := 2) (by rfl) | exact wordOk_of (K := 0) (by rfl))) (ok_cons (ok_name hr.1) (ok_cons (by (first | exact wordOk_of (K := 2) (by rfl) | exact wordOk_of (K := 0) (by rfl))) (ok_app (sep_ok _ fun u hu => ?_) (ok_cons (by (first | exact wordOk_of (K := 2) (by rfl) | exact wordOk_of (K := 0) (by rfl))) (blk_ok (stms_ok bd 31 hr.2.1))))))
 obtain ⟨w, hw, rfl⟩ := List.mem_map.1 hu
 exact ok_cons (ok_name (hp w hw)) ok_nil
/-- What may be is parsed from its print as it was. -/
theorem parse_spelt {fs : List GFunc} (hr : rightP fs = true) (hf : fitP fs = true) (hc : cntP fs ≤ 2000) (hl : (spelt fs).length ≤ 65536) : parseP (spelt fs) = (fs, 0, 0) := by
 have hall := List.all_eq_true.1 hr
 obtain ⟨ts, h1, h2, h3⟩ := spelt_lex fs 0 (fun f hm => func_ok (hall f hm))
 have hlex : lexAns (spelt fs) = (ts, 0, 0) := by
  unfold lexAns
  rw [if_neg (by omega), h1]
 have hA := At_of ts [] h3
 rw [h2] at hA
 have := read_at (en := ((spelt fs).length : Int)) hr hf hc (l := ts.map Tok.g) hA (by rw [← h2]; simp)
 unfold parseP
 rw [hlex]
 exact this
end Go.Proofs.YtghhkbigmmjanaaGreatDoor.VA

/-! Qp11 -/
namespace Go.Proofs.YtghhkbigmmjanaaGreatDoor.VA
open Go Go.RowKit
set_option linter.unusedSimpArgs false

section
variable {l : List GTok} {en : Int}
theorem func_right {s : PS} (hc : s.cnt ≤ 2000) (h : (funcP l en s).1.ok = true) : rightF (funcP l en s).2 = true ∧ (funcP l en s).1.cnt = s.cnt + cntL (funcP l en s).2.body ∧ (funcP l en s).1.cnt ≤ 2000 := by
 simp only [funcP] at h ⊢
 have h2 : (names l en (nameP l en (need l en s tFun)).1).1.ok = true := (blockF_lt (l := l) (en := en) FN _ 0 h).1
 have h1 : (nameP l en (need l en s tFun)).1.ok = true := (names_lt (l := l) (en := en) _ h2).1
 have hcn : (names l en (nameP l en (need l en s tFun)).1).1.cnt = s.cnt := (names_cnt _).trans ((nameP_cnt _).trans (need_cnt _ _))
 obtain ⟨_, k2, k3, k4⟩ := (blocks_right (l := l) (en := en) FN).2.1 _ 0 (by omega) h
 refine ⟨?_, by omega, k4⟩
 simp only [rightF, nameP_right h1, names_right h2, Bool.true_and, Bool.and_true]
 exact k2
theorem prog_ok : ∀ (n : Nat) (s : PS) (acc : List GFunc), (progF l en n s acc).1.ok = true → s.ok = true
 | 0, s, acc, h => h
 | n + 1, s, acc, h => by
  unfold progF at h
  cases h1 : s.ok && decide (s.at_ < l.length) with
  | false => rw [h1] at h; exact h
  | true => rw [Bool.and_eq_true] at h1; exact h1.1
theorem cntP_app : ∀ (a b : List GFunc), cntP (a ++ b) = cntP a + cntP b
 | [], b => by simp [cntP]
 | g :: a, b => by simp only [List.cons_append, cntP, cntP_app a b, Nat.add_assoc]
theorem prog_right : ∀ (n : Nat) (s : PS) (acc : List GFunc), s.cnt ≤ 2000 → s.cnt = cntP acc → rightP acc = true → (progF l en n s acc).1.ok = true → rightP (progF l en n s acc).2 = true ∧ cntP (progF l en n s acc).2 ≤ 2000
 | 0, s, acc, hc, he, hr, h => ⟨hr, by show cntP acc ≤ 2000; omega⟩
 | n + 1, s, acc, hc, he, hr, h => by
  unfold progF at h ⊢
  cases h1 : s.ok && decide (s.at_ < l.length) with
  | false => exact ⟨hr, by show cntP acc ≤ 2000; omega⟩
  | true =>
   rw [h1] at h
   simp only at h ⊢
   obtain ⟨k1, k2, k3⟩ := func_right hc (prog_ok n _ _ h)
   refine prog_right n _ _ k3 ?_ ?_ h
   ·rw [cntP_app]; simp only [cntP]; omega
   ·simp only [rightP, List.all_append] at hr ⊢
    rw [hr]; simp [k1]
theorem read_right (h : (readP l en).2.1 = 0) : rightP (readP l en).1 = true ∧ cntP (readP l en).1 ≤ 2000 := by
 unfold readP at h ⊢
 cases hf : (progF l en FN ⟨0, 0, none⟩ []).1.f with
 | some q =>
  obtain ⟨c, a⟩ := q
  rw [hf] at h
  simp at h
 | none => exact prog_right FN ⟨0, 0, none⟩ [] (by simp) rfl rfl (by simp [PS.ok, hf])
end
theorem parse_right {s : List UInt8} (h : (parseP s).2.1 = 0) : rightP (parseP s).1 = true ∧ cntP (parseP s).1 ≤ 2000 ∧ s.length ≤ 65536 := by
 have hl : s.length ≤ 65536 ∨ 65536 < s.length := by omega
 rcases hl with hl | hl
 ·unfold parseP at h ⊢
  generalize lexAns s = q at h ⊢
  obtain ⟨ts, c, a⟩ := q
  cases c with
  | zero =>
   obtain ⟨k1, k2⟩ := read_right h
   exact ⟨k1, k2, hl⟩
  | succ c => cases h
 ·exfalso
  unfold parseP lexAns at h
  rw [if_pos hl] at h
  cases h
theorem foldl_max_le (f : GStmt → Nat) (B : Nat) : ∀ (L : List GStmt) (d : Nat), d ≤ B → (∀ g ∈ L, f g ≤ B) → L.foldl (fun d s => max d (f s)) d ≤ B
 | [], d, h, _ => h
 | g :: L, d, h, k => foldl_max_le f B L _ (Nat.max_le.2 ⟨h, k g (by simp)⟩) (fun x hx => k x (by simp [hx]))
theorem rightL_all {L : List GStmt} {d : Nat} (h : rightL L d = true) : ∀ g ∈ L, rightS g d = true := by
 induction L with
 | nil => intro g hg; cases hg
 | cons x L ih =>
  simp only [rightL, Bool.and_eq_true] at h
  intro g hg
  rcases List.mem_cons.1 hg with rfl | hg
  ·exact h.1
  ·exact ih h.2 g hg
theorem dep_nil : ∀ m, dep m [] = 0
 | 0 => rfl
 | _ + 1 => rfl
theorem dep_right : ∀ (m : Nat) (L : List GStmt) (d : Nat), rightL L d = true → dep m L ≤ d + 1
 | 0, _, _, _ => Nat.zero_le _
 | m + 1, L, d, h => by
  unfold dep
  refine foldl_max_le (fun s => max (1 + dep m s.th) (1 + dep m s.el)) (d + 1) L 0 (by omega) fun g hg => ?_
  have hs := shape_of (rightL_all h g hg)
  have z := dep_nil m
  cases hs with
  | if_ o th el ho h0 ht he =>
   have h1 := dep_right m th (d - 1) ht
   have h2 := dep_right m el (d - 1) he
   simp only [GStmt.th, GStmt.el]
   omega
  | while_ o th ho h0 ht =>
   have h1 := dep_right m th (d - 1) ht
   simp only [GStmt.th, GStmt.el, z]
   omega
  | _ => simp only [GStmt.th, GStmt.el, z]; omega
def mayR (fs : List GFunc) : Bool := rightP fs && (decide (cntP fs ≤ 2000) && decide ((spelt fs).length ≤ 65536))
theorem right_shallow {fs : List GFunc} (h : rightP fs = true) : fs.any deepF = false := by
 rw [List.any_eq_false]
 intro f hf
 have := List.all_eq_true.1 h f hf
 simp only [rightF, Bool.and_eq_true] at this
 have := dep_right 34 f.body 31 this.2.1
 simp only [deepF, decide_eq_true_eq]
 omega
theorem may_eq {fs : List GFunc} (hf : fitP fs = true) : mayI fs = mayR fs := by
 rw [Bool.eq_iff_iff]
 constructor
 ·intro h
  simp only [mayI, Bool.and_eq_true, decide_eq_true_eq] at h
  obtain ⟨h1, h2⟩ := h
  have he := eqFs_eq _ _ h2
  obtain ⟨k1, k2, k3⟩ := parse_right h1
  rw [← he] at k1 k2
  have hl : laidP fs = spelt fs := by rw [laidP, right_shallow k1]; rfl
  rw [hl] at k3
  simp only [mayR, k1, k2, k3, decide_true, Bool.and_self]
 ·intro h
  simp only [mayR, Bool.and_eq_true, decide_eq_true_eq] at h
  obtain ⟨h1, h2, h3⟩ := h
  have hl : laidP fs = spelt fs := by rw [laidP, right_shallow h1]; rfl
  simp only [mayI, hl, parse_spelt h1 hf h2 h3, eqFs_refl, decide_true, Bool.and_self]
end Go.Proofs.YtghhkbigmmjanaaGreatDoor.VA
