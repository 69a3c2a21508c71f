/- What is proved: the law LexBack answers true in the abstract interpreter (VA), for tokens that take no more than a mebibyte. Condition: that bound. -/
import Derived.Test.YtiiaajajhkdemaaLg1
import Derived.Test.YtiiaajajhkdemaaLp4
namespace Go.Proofs.Ytiiaajajhkdemaa.VA
open Go Go.RowKit
set_option linter.unusedSimpArgs false

theorem lexAns_cases (s : List UInt8) : (∃ ts, lexAns s = (ts, 0, 0) ∧ lexL s 0 = .ok ts ∧ s.length ≤ 65536) ∨ ∃ cd p, lexAns s = ([], cd, p) ∧ decide (((cd : Nat) : Int) = 0) = false := by
  unfold lexAns
  by_cases h : 65536 < s.length
  · rw [if_pos h]; exact .inr ⟨11, 0, rfl, by simp⟩
  · rw [if_neg h]
    cases hl : lexL s 0 with
    | ok ts => exact .inl ⟨ts, rfl, rfl, by omega⟩
    | err a => exact .inr ⟨10, a, rfl, by simp⟩
/-- Of tokens: their print, and what is read from it. -/
theorem back_facts (l : List GTok) (h1 : l.length ≤ 1048576) (h2 : textSum l ≤ 1048576) :
    (∀ o H, calls Try.prog cfg 12 [.sl o (l.map encG)] H = some (.ret (.lit (.string (ba (printB l)))) H)) ∧
    (∀ o H, calls Try.prog cfg 13 [.sl o (l.map encG)] H = some (.ret (.lit (.bool (l.all rightG))) H)) ∧
    (∀ o H, calls Try.prog cfg 14 [.sl o (l.map encG)] H = some (.ret (.sl .sh ((l.map plainG).map encG)) H)) ∧
    (l.all rightG = true → (printB l).length ≤ 65536 → ∃ ts, lexAns (printB l) = (ts, 0, 0) ∧ (ts.map Tok.g).map plainG = l.map plainG ∧ ts.length ≤ 65536) := by
  have hj := join_len [32] l
  simp only [List.length_cons, List.length_nil, Nat.zero_add, Nat.one_mul] at hj
  refine ⟨fun o H => c_print l (by omega) (by omega) o H, fun o H => c_may l (by omega) o H, fun o H => c_plain l (by omega) o H, fun hm hle => ?_⟩
  obtain ⟨ts, e1, e2⟩ := lex_back hm
  have hp : printB l = joined [32] (l.map (·.text)) := by simp only [printB, hm, if_true]
  rw [hp] at hle ⊢
  exact ⟨ts, lexAns_ok hle e1, e2, by have := lexL_len e1; omega⟩
set_option maxRecDepth 20000 in
theorem lex_backs (l : List GTok) (s : List UInt8) (h1 : l.length ≤ 1048576) (h2 : textSum l ≤ 1048576) (H : Heap) :
    calls Try.prog cfg 4 [.sl .sh (l.map encG), .lit (.string (ba s))] H = some (.ret (.lit (.bool true)) H) := by
  refine calls_pure (fn := Try.f4) rfl rfl rfl rfl rfl ?_ H
  have rs : Try.f4.results.toList = [.tmp 4] := rfl
  obtain ⟨hpr, hmay, hpl, hback⟩ := back_facts l h1 h2
  have hsm := fun (x : List GTok) (hx : x.length ≤ 2000000) o o' H => c_same x x (by omega) o o' H
  rcases lexAns_cases s with ⟨ts, e1, r1, l1⟩ | ⟨cd, p, e1, dc⟩
  · have lt := lexL_len r1
    obtain ⟨kpr, kmay, kpl, kback⟩ := back_facts (ts.map Tok.g) (by simp; omega) (by have := lexF_sum _ _ _ _ r1; omega)
    rw [lex_right l1 r1] at kmay
    rw [← enc_g] at kpr kmay kpl
    have k1 := hsm ((ts.map Tok.g).map plainG) (by simp; omega)
    by_cases hu : (printB (ts.map Tok.g)).length ≤ 65536
    · have du : decide ((65536 : Int) < ((printB (ts.map Tok.g)).length : Nat)) = false := by simp; omega
      obtain ⟨ts3, e3, q3, l3⟩ := kback (lex_right l1 r1) hu
      have kp3 := fun o H => c_plainT ts3 (by omega) o H
      rw [q3] at kp3
      cases hm : l.all rightG with
      | false =>
        rw [hm] at hmay
        simp only [go_sem, Nat.reduceBEq, Nat.reduceLeDiff, Nat.reduceEqDiff, true_and, and_true, ite_true, if_false, Int.cast_ofNat_Int, eq_self, Nat.add_assoc, Option.some.injEq, Int.reduceEq, Int.reduceLT, Int.reduceLE, Int.reduceAdd, Nat.reduceSub, Nat.reduceAdd, decide_true, decide_false, Bool.not_true, Bool.not_false, List.size_toArray, List.length_cons, List.length_nil, rs, hpr, c_lex, c_fixed, hmay, encLex, encFault, ba_size, e1, kpr, e3, kmay, kpl, kp3, k1, du]
      | true =>
        rw [hm] at hmay
        by_cases hp : (printB l).length ≤ 65536
        · have dt : decide (((printB l).length : Nat) ≤ (65536 : Int)) = true := by simp; omega
          obtain ⟨ts4, a3, q4, l4⟩ := hback hm hp
          have kp4 := fun o H => c_plainT ts4 (by omega) o H
          rw [q4] at kp4
          have k2 := hsm (l.map plainG) (by simp; omega)
          simp only [go_sem, Nat.reduceBEq, Nat.reduceLeDiff, Nat.reduceEqDiff, true_and, and_true, ite_true, if_false, Int.cast_ofNat_Int, eq_self, Nat.add_assoc, Option.some.injEq, Int.reduceEq, Int.reduceLT, Int.reduceLE, Int.reduceAdd, Nat.reduceSub, Nat.reduceAdd, decide_true, decide_false, Bool.not_true, Bool.not_false, List.size_toArray, List.length_cons, List.length_nil, rs, hpr, c_lex, c_fixed, hmay, encLex, encFault, ba_size, dt, a3, kp4, hpl, k2, e1, kpr, e3, kmay, kpl, kp3, k1, du]
        · have dt : decide (((printB l).length : Nat) ≤ (65536 : Int)) = false := by simp; omega
          simp only [go_sem, Nat.reduceBEq, Nat.reduceLeDiff, Nat.reduceEqDiff, true_and, and_true, ite_true, if_false, Int.cast_ofNat_Int, eq_self, Nat.add_assoc, Option.some.injEq, Int.reduceEq, Int.reduceLT, Int.reduceLE, Int.reduceAdd, Nat.reduceSub, Nat.reduceAdd, decide_true, decide_false, Bool.not_true, Bool.not_false, List.size_toArray, List.length_cons, List.length_nil, rs, hpr, c_lex, c_fixed, hmay, encLex, encFault, ba_size, dt, e1, kpr, e3, kmay, kpl, kp3, k1, du]
    · have du : decide ((65536 : Int) < ((printB (ts.map Tok.g)).length : Nat)) = true := by simp; omega
      cases hm : l.all rightG with
      | false =>
        rw [hm] at hmay
        simp only [go_sem, Nat.reduceBEq, Nat.reduceLeDiff, Nat.reduceEqDiff, true_and, and_true, ite_true, if_false, Int.cast_ofNat_Int, eq_self, Nat.add_assoc, Option.some.injEq, Int.reduceEq, Int.reduceLT, Int.reduceLE, Int.reduceAdd, Nat.reduceSub, Nat.reduceAdd, decide_true, decide_false, Bool.not_true, Bool.not_false, List.size_toArray, List.length_cons, List.length_nil, rs, hpr, c_lex, c_fixed, hmay, encLex, encFault, ba_size, e1, kpr, kmay, du]
      | true =>
        rw [hm] at hmay
        by_cases hp : (printB l).length ≤ 65536
        · have dt : decide (((printB l).length : Nat) ≤ (65536 : Int)) = true := by simp; omega
          obtain ⟨ts4, a3, q4, l4⟩ := hback hm hp
          have kp4 := fun o H => c_plainT ts4 (by omega) o H
          rw [q4] at kp4
          have k2 := hsm (l.map plainG) (by simp; omega)
          simp only [go_sem, Nat.reduceBEq, Nat.reduceLeDiff, Nat.reduceEqDiff, true_and, and_true, ite_true, if_false, Int.cast_ofNat_Int, eq_self, Nat.add_assoc, Option.some.injEq, Int.reduceEq, Int.reduceLT, Int.reduceLE, Int.reduceAdd, Nat.reduceSub, Nat.reduceAdd, decide_true, decide_false, Bool.not_true, Bool.not_false, List.size_toArray, List.length_cons, List.length_nil, rs, hpr, c_lex, c_fixed, hmay, encLex, encFault, ba_size, dt, a3, kp4, hpl, k2, e1, kpr, kmay, du]
        · have dt : decide (((printB l).length : Nat) ≤ (65536 : Int)) = false := by simp; omega
          simp only [go_sem, Nat.reduceBEq, Nat.reduceLeDiff, Nat.reduceEqDiff, true_and, and_true, ite_true, if_false, Int.cast_ofNat_Int, eq_self, Nat.add_assoc, Option.some.injEq, Int.reduceEq, Int.reduceLT, Int.reduceLE, Int.reduceAdd, Nat.reduceSub, Nat.reduceAdd, decide_true, decide_false, Bool.not_true, Bool.not_false, List.size_toArray, List.length_cons, List.length_nil, rs, hpr, c_lex, c_fixed, hmay, encLex, encFault, ba_size, dt, e1, kpr, kmay, du]
  · have dn : ((0 : Nat) : Int) = 0 := rfl
    cases hm : l.all rightG with
    | false =>
      rw [hm] at hmay
      simp only [go_sem, Nat.reduceBEq, Nat.reduceLeDiff, Nat.reduceEqDiff, true_and, and_true, ite_true, if_false, Int.cast_ofNat_Int, eq_self, Nat.add_assoc, Option.some.injEq, Int.reduceEq, Int.reduceLT, Int.reduceLE, Int.reduceAdd, Nat.reduceSub, Nat.reduceAdd, decide_true, decide_false, Bool.not_true, Bool.not_false, List.size_toArray, List.length_cons, List.length_nil, rs, hpr, c_lex, c_fixed, hmay, encLex, encFault, ba_size, e1, dc, List.map_nil]
    | true =>
      rw [hm] at hmay
      by_cases hp : (printB l).length ≤ 65536
      · have dt : decide (((printB l).length : Nat) ≤ (65536 : Int)) = true := by simp; omega
        obtain ⟨ts4, a3, q4, l4⟩ := hback hm hp
        have kp4 := fun o H => c_plainT ts4 (by omega) o H
        rw [q4] at kp4
        have k2 := hsm (l.map plainG) (by simp; omega)
        simp only [go_sem, Nat.reduceBEq, Nat.reduceLeDiff, Nat.reduceEqDiff, true_and, and_true, ite_true, if_false, Int.cast_ofNat_Int, eq_self, Nat.add_assoc, Option.some.injEq, Int.reduceEq, Int.reduceLT, Int.reduceLE, Int.reduceAdd, Nat.reduceSub, Nat.reduceAdd, decide_true, decide_false, Bool.not_true, Bool.not_false, List.size_toArray, List.length_cons, List.length_nil, rs, hpr, c_lex, c_fixed, hmay, encLex, encFault, ba_size, dt, a3, kp4, hpl, k2, e1, dc, List.map_nil]
      · have dt : decide (((printB l).length : Nat) ≤ (65536 : Int)) = false := by simp; omega
        simp only [go_sem, Nat.reduceBEq, Nat.reduceLeDiff, Nat.reduceEqDiff, true_and, and_true, ite_true, if_false, Int.cast_ofNat_Int, eq_self, Nat.add_assoc, Option.some.injEq, Int.reduceEq, Int.reduceLT, Int.reduceLE, Int.reduceAdd, Nat.reduceSub, Nat.reduceAdd, decide_true, decide_false, Bool.not_true, Bool.not_false, List.size_toArray, List.length_cons, List.length_nil, rs, hpr, c_lex, c_fixed, hmay, encLex, encFault, ba_size, dt, e1, dc, List.map_nil]
end Go.Proofs.Ytiiaajajhkdemaa.VA
