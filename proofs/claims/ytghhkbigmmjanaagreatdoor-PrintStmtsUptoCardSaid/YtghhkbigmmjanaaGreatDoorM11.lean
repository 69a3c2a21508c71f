/- What is proved: what the document's answer on whether statements and blocks may be comes to, in the abstract interpreter (VA). Condition: lengths are a machine's.
What is proved: what the document's texts of numbers, operands and arguments come to, in the abstract interpreter (VA). Condition: what is right, and no text is too long.
What is proved: what the document's texts of statements and blocks come to, in the abstract interpreter (VA). Condition: what is right, and no text is too long.
What is proved: what the document answers for programs and statements, in the abstract interpreter (VA). Condition: numbers and lengths are a machine's.
What is proved: what the document answers on whether programs and statements may be printed, and for their texts, in the abstract interpreter (VA). Condition: numbers and lengths are a machine's.
What is proved: the laws PrintTells and PrintStmts return true, in the abstract interpreter (VA). Condition: numbers and lengths are a machine's. -/
import Derived.Test.YtghhkbigmmjanaaGreatDoorM10
/-! Qc2 -/
namespace Go.Proofs.YtghhkbigmmjanaaGreatDoor.VA
open Go Go.RowKit
attribute [local go_sem] Nat.add_eq_left Nat.left_eq_add true_and and_true ite_true if_false Int.cast_ofNat_Int eq_self Nat.add_assoc Option.some.injEq decide_true decide_false Bool.not_true Bool.not_false List.size_toArray List.length_cons List.length_nil
set_option linter.unusedSimpArgs false
set_option maxRecDepth 100000

attribute [local go_sem] true_or or_true or_self false_or or_false if_true if_false Bool.and_true Bool.true_and Bool.and_false Bool.false_and Bool.or_true Bool.true_or Bool.or_false Bool.false_or Bool.not_true Bool.not_false Bool.and_self Bool.or_self List.length_map strEq_nil c_rNm
@[local go_sem] theorem rq0 (n : Nat) : decide ((0 : Int) < (n : Nat)) = decide (0 < n) := by rw [Bool.eq_iff_iff]; simp
@[local go_sem] theorem rq1 (n : Nat) : decide (((n : Nat) : Int) = 0) = decide (n = 0) := by rw [Bool.eq_iff_iff]; simp
@[local go_sem] theorem rq2 (n : Nat) : decide (((n : Nat) : Int) = 1) = decide (n = 1) := by rw [Bool.eq_iff_iff]; simp; omega
@[local go_sem] theorem rq3 (n : Nat) : decide (((n : Nat) : Int) = 2) = decide (n = 2) := by rw [Bool.eq_iff_iff]; simp; omega
@[local go_sem] theorem rq4 (n m : Nat) : decide (((n : Nat) : Int) = ((m + 1 : Nat) : Int)) = decide (n = m + 1) := by rw [Bool.eq_iff_iff]; simp; omega
@[local go_sem] theorem rq5 (t : Wd) (b : UInt8) : decide (ba t = ba [b]) = decide (t = [b]) := by simp [ba_inj]
def RSt (s : GStmt) : Prop := ∀ (d : Nat), d ≤ 31 → ∀ H, calls Tryz.prog cfg 68 [.agg (encStmt s), .lit (.int .i64 (d : Nat))] H = some (.ret (.lit (.bool (rightS s d))) H)
def RBl (l : List GStmt) : Prop := ∀ (d : Nat), d ≤ 31 → ∀ o H, calls Tryz.prog cfg 41 [.sl o (l.map encStmt), .lit (.int .i64 (d : Nat))] H = some (.ret (.lit (.bool (rightL l d))) H)
theorem rightL_split (d : Nat) {l : List GStmt} {i : Nat} (h : i < l.length) : rightL (l.drop i) d = (rightS (l.getD i noStmt) d && rightL (l.drop (i + 1)) d) := by
 rw [drop_cons' noStmt h, rightL]
set_option maxRecDepth 20000 in
theorem rbl_of (l : List GStmt) (hlen : l.length ≤ BIG) (hall : ∀ s ∈ l, RSt s) : RBl l := by
 intro d hd o H
 unfold BIG at hlen
 refine calls_pure (fn := Tryz.f41) rfl rfl rfl rfl rfl ?_ H
 have rs : Tryz.f41.results.toList = [.tmp 4] := rfl
 generalize hR : rightL l d = r
 simp only [go_sem, simprocAttr]
 refine W_loop_ind (fun k e H => ∃ i : Nat, k = l.length - i ∧ i ≤ l.length ∧ rightL (l.drop i) d = r ∧ gget .bad e 0 = .sl .sh (l.map encStmt) ∧ gget .bad e 1 = .lit (.int .i64 (d : Nat)) ∧ gget .bad e 5 = .lit (.int .i64 (i : Nat)))
  l.length ⟨0, rfl, by omega, hR, by simp only [go_sem, simprocAttr], by simp only [go_sem, simprocAttr], by simp only [go_sem, simprocAttr] <;> rfl⟩ ?_
 rintro k ihk e H ⟨i, rfl, hle, hr, h0, h1, h5⟩
 by_cases hlt : i < l.length
 ·have hlt' : decide ((i : Int) < (l.length : Nat)) = true := by rw [decide_eq_true_eq]; omega
  have ha := iad_encStmt (t := 40) (bs := 152) (o := .sh) hlt
  have hx : l.getD i noStmt ∈ l := by rw [List.getD_eq_getElem?_getD, List.getElem?_eq_getElem hlt]; exact List.getElem_mem hlt
  have hc := fun H => hall _ hx d hd H
  rw [rightL_split d hlt] at hr
  generalize l.getD i noStmt = s at *
  have hw1 := wrap1 (show i + 1 ≤ 9223372036854775807 by omega)
  cases hs : rightS s d with
  | false =>
   rw [hs] at hc hr
   have hr' : r = false := by rw [← hr]; rfl
   simp only [go_sem, simprocAttr, h0, h1, h5, List.length_map, hlt', ha, hc, rs, hr']
  | true =>
   rw [hs] at hc hr
   simp only [go_sem, simprocAttr, h0, h1, h5, List.length_map, hlt', ha, hc, rs, hw1]
   exact ihk _ (by omega) _ _ ⟨i + 1, rfl, by omega, by rw [← hr, Bool.true_and], by simp only [go_sem, simprocAttr, h0], by simp only [go_sem, simprocAttr, h1], by simp only [go_sem, simprocAttr]⟩
 ·have hlt' : decide ((i : Int) < (l.length : Nat)) = false := by rw [decide_eq_false_iff_not]; omega
  rw [List.drop_of_length_le (by omega)] at hr
  have hr' : r = true := by rw [← hr]; rfl
  simp only [go_sem, simprocAttr, h0, h1, h5, List.length_map, hlt', rs, hr']

set_option maxHeartbeats 4000000 in
set_option maxRecDepth 20000 in
theorem rst_of (op : Int) (x y p : Wd) (a : List Opd) (ps : List Wd) (th el : List GStmt) (hlen : a.length ≤ BIG) (hpl : ps.length ≤ BIG) (hth : RBl th) (hel : RBl el) : RSt (.mk op x y p a ps th el) := by
 intro d hd H
 unfold BIG at hlen hpl
 refine calls_pure (fn := Tryz.f68) rfl rfl rfl rfl rfl ?_ H
 have rs : Tryz.f68.results.toList = [.tmp 4] := rfl
 generalize hR : rightS (.mk op x y p a ps th el) d = r
 simp only [go_sem, simprocAttr, encStmt_mk]
 refine W_loop_ind (fun k e H => ∃ i : Nat, k = a.length - i ∧ i ≤ a.length ∧ (a.drop i).all rightO = a.all rightO ∧ gget .bad e 1 = .lit (.int .i64 (d : Nat)) ∧ gget .bad e 2 = .ptr 0 0 ∧ gget .bad e 5 = .lit (.int .i64 (i : Nat)) ∧
   H.get 0 = some [.lit (.int .i64 op), .lit (.string (ba x)), .lit (.string (ba y)), .lit (.string (ba p)), .sl .sh (a.map encOpd), .sl .sh (ps.map encStr), .sl .sh (th.map encStmt), .sl .sh (el.map encStmt)])
  a.length ⟨0, rfl, by omega, rfl, by simp only [go_sem, simprocAttr], by simp only [go_sem, simprocAttr], by simp only [go_sem, simprocAttr] <;> rfl, by simp only [go_sem, simprocAttr] <;> rfl⟩ ?_
 rintro k ihk e H ⟨i, rfl, hle, hr, h1, h2, h5, g⟩
 by_cases hlt : i < a.length
 ·have hlt' : decide ((i : Int) < (a.length : Nat)) = true := by rw [decide_eq_true_eq]; omega
  have ha := iad_encOpd (t := 50) (bs := 32) (o := .sh) hlt
  rw [drop_cons' ⟨0, 0, []⟩ hlt, List.all_cons] at hr
  generalize a.getD i ⟨0, 0, []⟩ = u at *
  have hc := fun H => c_rRightO u H
  have hw1 := wrap1 (show i + 1 ≤ 9223372036854775807 by omega)
  cases hs : rightO u with
  | false =>
   rw [hs] at hc hr
   have hr' : r = false := by rw [← hR, rightS, ← hr]; rfl
   simp only [go_sem, simprocAttr, h1, h2, h5, g, List.length_map, hlt', ha, hc, rs, hr']
  | true =>
   rw [hs] at hc hr
   simp only [go_sem, simprocAttr, h1, h2, h5, g, List.length_map, hlt', ha, hc, rs, hw1]
   exact ihk _ (by omega) _ _ ⟨i + 1, rfl, by omega, by rw [← hr, Bool.true_and], by simp only [go_sem, simprocAttr, h1], by simp only [go_sem, simprocAttr, h2], by simp only [go_sem, simprocAttr], g⟩
 have hA : a.all rightO = true := by rw [← hr, List.drop_of_length_le (by omega)]; rfl
 have hlt' : decide ((i : Int) < (a.length : Nat)) = false := by rw [decide_eq_false_iff_not]; omega
 simp only [go_sem, simprocAttr, h1, h2, h5, g, List.length_map, hlt']
 clear hr ihk
 refine W_loop_ind (fun k e H => ∃ i : Nat, k = ps.length - i ∧ i ≤ ps.length ∧ (ps.drop i).all nameW = ps.all nameW ∧ gget .bad e 1 = .lit (.int .i64 (d : Nat)) ∧ gget .bad e 2 = .ptr 0 0 ∧ gget .bad e 6 = .lit (.int .i64 (i : Nat)) ∧
   H.get 0 = some [.lit (.int .i64 op), .lit (.string (ba x)), .lit (.string (ba y)), .lit (.string (ba p)), .sl .sh (a.map encOpd), .sl .sh (ps.map encStr), .sl .sh (th.map encStmt), .sl .sh (el.map encStmt)])
  ps.length ⟨0, rfl, by omega, rfl, by simp only [go_sem, simprocAttr, h1], by simp only [go_sem, simprocAttr, h2], by simp only [go_sem, simprocAttr] <;> rfl, g⟩ ?_
 clear g h1 h2 h5 hlt' hle hlt
 clear e H i
 rintro k ihk e H ⟨i, rfl, hle, hr, h1, h2, h6, g⟩
 by_cases hlt : i < ps.length
 ·have hlt' : decide ((i : Int) < (ps.length : Nat)) = true := by rw [decide_eq_true_eq]; omega
  have ha := iad_encStr (t := 9) (bs := 16) (o := .sh) hlt
  rw [drop_cons' [] hlt, List.all_cons] at hr
  generalize ps.getD i [] = u at *
  have hc := fun H => c_rNm u H
  have hw1 := wrap1 (show i + 1 ≤ 9223372036854775807 by omega)
  simp only [encStr] at ha
  cases hs : nameW u with
  | false =>
   rw [hs] at hc hr
   have hr' : r = false := by rw [← hR, rightS, hA, ← hr]; rfl
   simp only [go_sem, simprocAttr, h1, h2, h6, g, List.length_map, hlt', ha, hc, rs, hr']
  | true =>
   rw [hs] at hc hr
   simp only [go_sem, simprocAttr, h1, h2, h6, g, List.length_map, hlt', ha, hc, rs, hw1]
   exact ihk _ (by omega) _ _ ⟨i + 1, rfl, by omega, by rw [← hr, Bool.true_and], by simp only [go_sem, simprocAttr, h1], by simp only [go_sem, simprocAttr, h2], by simp only [go_sem, simprocAttr], g⟩
 have hP : ps.all nameW = true := by rw [← hr, List.drop_of_length_le (by omega)]; rfl
 have hlt' : decide ((i : Int) < (ps.length : Nat)) = false := by rw [decide_eq_false_iff_not]; omega
 rw [rightS, hA, hP] at hR
 clear hr ihk
 have w1 := wrap1 (show ps.length + 1 ≤ 9223372036854775807 by omega)
 simp only [go_sem, simprocAttr, h1, h2, h6, g, List.length_map, hlt']

 by_cases h20 : op = 0
 ·subst h20
  cases gP : decide (0 < ps.length) with
  | true =>
   have hR' : r = false := by rw [← hR]; simp only [go_sem, simprocAttr, gP]
   simp only [go_sem, simprocAttr, h1, h2, g, rs, w1, gP, hR']
  | false =>
  cases gT : decide (0 < th.length) with
  | true =>
   have hR' : r = false := by rw [← hR]; simp only [go_sem, simprocAttr, gP, gT]
   simp only [go_sem, simprocAttr, h1, h2, g, rs, w1, gP, gT, hR']
  | false =>
  cases gE : decide (0 < el.length) with
  | true =>
   have hR' : r = false := by rw [← hR]; simp only [go_sem, simprocAttr, gP, gT, gE]
   simp only [go_sem, simprocAttr, h1, h2, g, rs, w1, gP, gT, gE, hR']
  | false =>
  simp only [go_sem, simprocAttr, h1, h2, g, rs, w1, gP, gT, gE]
  refine W_draw [(1, 4), (2, 4), (1, 7), (2, 7), (4, 7), (1, 10), (2, 10), (4, 10), (7, 10)] (by kernel_rfl) ?_
  cases nX : nameW x with
  | false =>
   have hR' : r = false := by rw [← hR]; simp only [go_sem, simprocAttr, gP, gT, gE, nX]
   simp only [go_sem, simprocAttr, h1, h2, g, rs, w1, gP, gT, gE, nX, hR']
  | true =>
  cases y0 : decide (y = []) with
  | false =>
   have hR' : r = false := by rw [← hR]; simp only [go_sem, simprocAttr, gP, gT, gE, nX, y0]
   simp only [go_sem, simprocAttr, h1, h2, g, rs, w1, gP, gT, gE, nX, y0, hR']
  | true =>
  cases p0 : decide (p = []) with
  | false =>
   have hR' : r = false := by rw [← hR]; simp only [go_sem, simprocAttr, gP, gT, gE, nX, y0, p0]
   simp only [go_sem, simprocAttr, h1, h2, g, rs, w1, gP, gT, gE, nX, y0, p0, hR']
  | true =>
  cases nA : decide (a.length = 1) with
  | false =>
   have hR' : r = false := by rw [← hR]; simp only [go_sem, simprocAttr, gP, gT, gE, nX, y0, p0, nA]
   simp only [go_sem, simprocAttr, h1, h2, g, rs, w1, gP, gT, gE, nX, y0, p0, nA, hR']
  | true =>
  have hR' : r = true := by rw [← hR]; simp only [go_sem, simprocAttr, gP, gT, gE, nX, y0, p0, nA]
  simp only [go_sem, simprocAttr, h1, h2, g, rs, w1, gP, gT, gE, nX, y0, p0, nA, hR']
 have k0 : decide (op = 0) = false := by simp [h20]
 by_cases h21 : op = 1
 ·subst h21
  cases gP : decide (0 < ps.length) with
  | true =>
   have hR' : r = false := by rw [← hR]; simp only [go_sem, simprocAttr, gP]
   simp only [go_sem, simprocAttr, h1, h2, g, rs, w1, gP, hR']
  | false =>
  cases gT : decide (0 < th.length) with
  | true =>
   have hR' : r = false := by rw [← hR]; simp only [go_sem, simprocAttr, gP, gT]
   simp only [go_sem, simprocAttr, h1, h2, g, rs, w1, gP, gT, hR']
  | false =>
  cases gE : decide (0 < el.length) with
  | true =>
   have hR' : r = false := by rw [← hR]; simp only [go_sem, simprocAttr, gP, gT, gE]
   simp only [go_sem, simprocAttr, h1, h2, g, rs, w1, gP, gT, gE, hR']
  | false =>
  simp only [go_sem, simprocAttr, h1, h2, g, rs, w1, gP, gT, gE]
  refine W_draw [(1, 4), (2, 4), (1, 7), (2, 7), (4, 7), (1, 10), (2, 10), (4, 10), (7, 10)] (by kernel_rfl) ?_
  cases nX : nameW x with
  | false =>
   have hR' : r = false := by rw [← hR]; simp only [go_sem, simprocAttr, gP, gT, gE, nX]
   simp only [go_sem, simprocAttr, h1, h2, g, rs, w1, gP, gT, gE, nX, hR']
  | true =>
  cases y0 : decide (y = []) with
  | false =>
   have hR' : r = false := by rw [← hR]; simp only [go_sem, simprocAttr, gP, gT, gE, nX, y0]
   simp only [go_sem, simprocAttr, h1, h2, g, rs, w1, gP, gT, gE, nX, y0, hR']
  | true =>
  cases s43 : decide (p = [43]) with
  | true =>
   cases nA : decide (a.length = 2) with
   | false =>
    have hR' : r = false := by rw [← hR]; simp only [go_sem, simprocAttr, gP, gT, gE, nX, y0, s43, isArith, nA]
    simp only [go_sem, simprocAttr, h1, h2, g, rs, w1, gP, gT, gE, nX, y0, s43, isArith, nA, hR']
   | true =>
   have hR' : r = true := by rw [← hR]; simp only [go_sem, simprocAttr, gP, gT, gE, nX, y0, s43, isArith, nA]
   simp only [go_sem, simprocAttr, h1, h2, g, rs, w1, gP, gT, gE, nX, y0, s43, isArith, nA, hR']
  | false =>
  cases s45 : decide (p = [45]) with
  | true =>
   cases nA : decide (a.length = 2) with
   | false =>
    have hR' : r = false := by rw [← hR]; simp only [go_sem, simprocAttr, gP, gT, gE, nX, y0, s43, s45, isArith, nA]
    simp only [go_sem, simprocAttr, h1, h2, g, rs, w1, gP, gT, gE, nX, y0, s43, s45, isArith, nA, hR']
   | true =>
   have hR' : r = true := by rw [← hR]; simp only [go_sem, simprocAttr, gP, gT, gE, nX, y0, s43, s45, isArith, nA]
   simp only [go_sem, simprocAttr, h1, h2, g, rs, w1, gP, gT, gE, nX, y0, s43, s45, isArith, nA, hR']
  | false =>
  cases s42 : decide (p = [42]) with
  | true =>
   cases nA : decide (a.length = 2) with
   | false =>
    have hR' : r = false := by rw [← hR]; simp only [go_sem, simprocAttr, gP, gT, gE, nX, y0, s43, s45, s42, isArith, nA]
    simp only [go_sem, simprocAttr, h1, h2, g, rs, w1, gP, gT, gE, nX, y0, s43, s45, s42, isArith, nA, hR']
   | true =>
   have hR' : r = true := by rw [← hR]; simp only [go_sem, simprocAttr, gP, gT, gE, nX, y0, s43, s45, s42, isArith, nA]
   simp only [go_sem, simprocAttr, h1, h2, g, rs, w1, gP, gT, gE, nX, y0, s43, s45, s42, isArith, nA, hR']
  | false =>
  cases s60 : decide (p = [60]) with
  | true =>
   cases nA : decide (a.length = 2) with
   | false =>
    have hR' : r = false := by rw [← hR]; simp only [go_sem, simprocAttr, gP, gT, gE, nX, y0, s43, s45, s42, s60, isArith, nA]
    simp only [go_sem, simprocAttr, h1, h2, g, rs, w1, gP, gT, gE, nX, y0, s43, s45, s42, s60, isArith, nA, hR']
   | true =>
   have hR' : r = true := by rw [← hR]; simp only [go_sem, simprocAttr, gP, gT, gE, nX, y0, s43, s45, s42, s60, isArith, nA]
   simp only [go_sem, simprocAttr, h1, h2, g, rs, w1, gP, gT, gE, nX, y0, s43, s45, s42, s60, isArith, nA, hR']
  | false =>
  cases s61 : decide (p = [61]) with
  | true =>
   cases nA : decide (a.length = 2) with
   | false =>
    have hR' : r = false := by rw [← hR]; simp only [go_sem, simprocAttr, gP, gT, gE, nX, y0, s43, s45, s42, s60, s61, isArith, nA]
    simp only [go_sem, simprocAttr, h1, h2, g, rs, w1, gP, gT, gE, nX, y0, s43, s45, s42, s60, s61, isArith, nA, hR']
   | true =>
   have hR' : r = true := by rw [← hR]; simp only [go_sem, simprocAttr, gP, gT, gE, nX, y0, s43, s45, s42, s60, s61, isArith, nA]
   simp only [go_sem, simprocAttr, h1, h2, g, rs, w1, gP, gT, gE, nX, y0, s43, s45, s42, s60, s61, isArith, nA, hR']
  | false =>
  have hR' : r = false := by rw [← hR]; simp only [go_sem, simprocAttr, gP, gT, gE, nX, y0, s43, s45, s42, s60, s61, isArith]
  simp only [go_sem, simprocAttr, h1, h2, g, rs, w1, gP, gT, gE, nX, y0, s43, s45, s42, s60, s61, isArith, hR']
 have k1 : decide (op = 1) = false := by simp [h21]
 by_cases h22 : op = 2
 ·subst h22
  cases gP : decide (0 < ps.length) with
  | true =>
   have hR' : r = false := by rw [← hR]; simp only [go_sem, simprocAttr, gP]
   simp only [go_sem, simprocAttr, h1, h2, g, rs, w1, gP, hR']
  | false =>
  cases gT : decide (0 < th.length) with
  | true =>
   have hR' : r = false := by rw [← hR]; simp only [go_sem, simprocAttr, gP, gT]
   simp only [go_sem, simprocAttr, h1, h2, g, rs, w1, gP, gT, hR']
  | false =>
  cases gE : decide (0 < el.length) with
  | true =>
   have hR' : r = false := by rw [← hR]; simp only [go_sem, simprocAttr, gP, gT, gE]
   simp only [go_sem, simprocAttr, h1, h2, g, rs, w1, gP, gT, gE, hR']
  | false =>
  simp only [go_sem, simprocAttr, h1, h2, g, rs, w1, gP, gT, gE]
  refine W_draw [(1, 4), (2, 4), (1, 7), (2, 7), (4, 7), (1, 10), (2, 10), (4, 10), (7, 10)] (by kernel_rfl) ?_
  cases nX : nameW x with
  | false =>
   have hR' : r = false := by rw [← hR]; simp only [go_sem, simprocAttr, gP, gT, gE, nX]
   simp only [go_sem, simprocAttr, h1, h2, g, rs, w1, gP, gT, gE, nX, hR']
  | true =>
  cases nY : nameW y with
  | false =>
   have hR' : r = false := by rw [← hR]; simp only [go_sem, simprocAttr, gP, gT, gE, nX, nY]
   simp only [go_sem, simprocAttr, h1, h2, g, rs, w1, gP, gT, gE, nX, nY, hR']
  | true =>
  cases nP : nameW p with
  | false =>
   have hR' : r = false := by rw [← hR]; simp only [go_sem, simprocAttr, gP, gT, gE, nX, nY, nP]
   simp only [go_sem, simprocAttr, h1, h2, g, rs, w1, gP, gT, gE, nX, nY, nP, hR']
  | true =>
  cases nA : decide (a.length = 0) with
  | false =>
   have hR' : r = false := by rw [← hR]; simp only [go_sem, simprocAttr, gP, gT, gE, nX, nY, nP, nA]
   simp only [go_sem, simprocAttr, h1, h2, g, rs, w1, gP, gT, gE, nX, nY, nP, nA, hR']
  | true =>
  have hR' : r = true := by rw [← hR]; simp only [go_sem, simprocAttr, gP, gT, gE, nX, nY, nP, nA]
  simp only [go_sem, simprocAttr, h1, h2, g, rs, w1, gP, gT, gE, nX, nY, nP, nA, hR']
 have k2 : decide (op = 2) = false := by simp [h22]
 by_cases h23 : op = 3
 ·subst h23
  cases gP : decide (0 < ps.length) with
  | true =>
   have hR' : r = false := by rw [← hR]; simp only [go_sem, simprocAttr, gP]
   simp only [go_sem, simprocAttr, h1, h2, g, rs, w1, gP, hR']
  | false =>
  cases gT : decide (0 < th.length) with
  | true =>
   have hR' : r = false := by rw [← hR]; simp only [go_sem, simprocAttr, gP, gT]
   simp only [go_sem, simprocAttr, h1, h2, g, rs, w1, gP, gT, hR']
  | false =>
  cases gE : decide (0 < el.length) with
  | true =>
   have hR' : r = false := by rw [← hR]; simp only [go_sem, simprocAttr, gP, gT, gE]
   simp only [go_sem, simprocAttr, h1, h2, g, rs, w1, gP, gT, gE, hR']
  | false =>
  simp only [go_sem, simprocAttr, h1, h2, g, rs, w1, gP, gT, gE]
  refine W_draw [(1, 4), (2, 4), (1, 7), (2, 7), (4, 7), (1, 10), (2, 10), (4, 10), (7, 10)] (by kernel_rfl) ?_
  cases nX : nameW x with
  | false =>
   have hR' : r = false := by rw [← hR]; simp only [go_sem, simprocAttr, gP, gT, gE, nX]
   simp only [go_sem, simprocAttr, h1, h2, g, rs, w1, gP, gT, gE, nX, hR']
  | true =>
  cases y0 : decide (y = []) with
  | false =>
   have hR' : r = false := by rw [← hR]; simp only [go_sem, simprocAttr, gP, gT, gE, nX, y0]
   simp only [go_sem, simprocAttr, h1, h2, g, rs, w1, gP, gT, gE, nX, y0, hR']
  | true =>
  cases nP : nameW p with
  | false =>
   have hR' : r = false := by rw [← hR]; simp only [go_sem, simprocAttr, gP, gT, gE, nX, y0, nP]
   simp only [go_sem, simprocAttr, h1, h2, g, rs, w1, gP, gT, gE, nX, y0, nP, hR']
  | true =>
  cases nA : decide (a.length = 1) with
  | false =>
   have hR' : r = false := by rw [← hR]; simp only [go_sem, simprocAttr, gP, gT, gE, nX, y0, nP, nA]
   simp only [go_sem, simprocAttr, h1, h2, g, rs, w1, gP, gT, gE, nX, y0, nP, nA, hR']
  | true =>
  have hR' : r = true := by rw [← hR]; simp only [go_sem, simprocAttr, gP, gT, gE, nX, y0, nP, nA]
  simp only [go_sem, simprocAttr, h1, h2, g, rs, w1, gP, gT, gE, nX, y0, nP, nA, hR']
 have k3 : decide (op = 3) = false := by simp [h23]
 by_cases h24 : op = 4
 ·subst h24
  cases gT : decide (0 < th.length) with
  | true =>
   have hR' : r = false := by rw [← hR]; simp only [go_sem, simprocAttr, gT]
   simp only [go_sem, simprocAttr, h1, h2, g, rs, w1, gT, hR']
  | false =>
  cases gE : decide (0 < el.length) with
  | true =>
   have hR' : r = false := by rw [← hR]; simp only [go_sem, simprocAttr, gT, gE]
   simp only [go_sem, simprocAttr, h1, h2, g, rs, w1, gT, gE, hR']
  | false =>
  simp only [go_sem, simprocAttr, h1, h2, g, rs, w1, gT, gE]
  refine W_draw [(1, 4), (2, 4), (1, 7), (2, 7), (4, 7), (1, 10), (2, 10), (4, 10), (7, 10)] (by kernel_rfl) ?_
  cases nX : nameW x with
  | false =>
   have hR' : r = false := by rw [← hR]; simp only [go_sem, simprocAttr, gT, gE, nX]
   simp only [go_sem, simprocAttr, h1, h2, g, rs, w1, gT, gE, nX, hR']
  | true =>
  cases y0 : decide (y = []) with
  | false =>
   have hR' : r = false := by rw [← hR]; simp only [go_sem, simprocAttr, gT, gE, nX, y0]
   simp only [go_sem, simprocAttr, h1, h2, g, rs, w1, gT, gE, nX, y0, hR']
  | true =>
  cases p0 : decide (p = []) with
  | false =>
   have hR' : r = false := by rw [← hR]; simp only [go_sem, simprocAttr, gT, gE, nX, y0, p0]
   simp only [go_sem, simprocAttr, h1, h2, g, rs, w1, gT, gE, nX, y0, p0, hR']
  | true =>
  cases nA : decide (a.length = ps.length + 1) with
  | false =>
   have hR' : r = false := by rw [← hR]; simp only [go_sem, simprocAttr, gT, gE, nX, y0, p0, nA]
   simp only [go_sem, simprocAttr, h1, h2, g, rs, w1, gT, gE, nX, y0, p0, nA, hR']
  | true =>
  have hR' : r = true := by rw [← hR]; simp only [go_sem, simprocAttr, gT, gE, nX, y0, p0, nA]
  simp only [go_sem, simprocAttr, h1, h2, g, rs, w1, gT, gE, nX, y0, p0, nA, hR']
 have k4 : decide (op = 4) = false := by simp [h24]
 by_cases h25 : op = 5
 ·subst h25
  cases gP : decide (0 < ps.length) with
  | true =>
   have hR' : r = false := by rw [← hR]; simp only [go_sem, simprocAttr, gP]
   simp only [go_sem, simprocAttr, h1, h2, g, rs, w1, gP, hR']
  | false =>
  cases gT : decide (0 < th.length) with
  | true =>
   have hR' : r = false := by rw [← hR]; simp only [go_sem, simprocAttr, gP, gT]
   simp only [go_sem, simprocAttr, h1, h2, g, rs, w1, gP, gT, hR']
  | false =>
  cases gE : decide (0 < el.length) with
  | true =>
   have hR' : r = false := by rw [← hR]; simp only [go_sem, simprocAttr, gP, gT, gE]
   simp only [go_sem, simprocAttr, h1, h2, g, rs, w1, gP, gT, gE, hR']
  | false =>
  simp only [go_sem, simprocAttr, h1, h2, g, rs, w1, gP, gT, gE]
  refine W_draw [(1, 4), (2, 4), (1, 7), (2, 7), (4, 7), (1, 10), (2, 10), (4, 10), (7, 10)] (by kernel_rfl) ?_
  cases nX : nameW x with
  | false =>
   have hR' : r = false := by rw [← hR]; simp only [go_sem, simprocAttr, gP, gT, gE, nX]
   simp only [go_sem, simprocAttr, h1, h2, g, rs, w1, gP, gT, gE, nX, hR']
  | true =>
  cases y0 : decide (y = []) with
  | false =>
   have hR' : r = false := by rw [← hR]; simp only [go_sem, simprocAttr, gP, gT, gE, nX, y0]
   simp only [go_sem, simprocAttr, h1, h2, g, rs, w1, gP, gT, gE, nX, y0, hR']
  | true =>
  cases nP : nameW p with
  | false =>
   have hR' : r = false := by rw [← hR]; simp only [go_sem, simprocAttr, gP, gT, gE, nX, y0, nP]
   simp only [go_sem, simprocAttr, h1, h2, g, rs, w1, gP, gT, gE, nX, y0, nP, hR']
  | true =>
  have hR' : r = true := by rw [← hR]; simp only [go_sem, simprocAttr, gP, gT, gE, nX, y0, nP]
  simp only [go_sem, simprocAttr, h1, h2, g, rs, w1, gP, gT, gE, nX, y0, nP, hR']
 have k5 : decide (op = 5) = false := by simp [h25]
 by_cases h26 : op = 6
 ·subst h26
  cases gP : decide (0 < ps.length) with
  | true =>
   have hR' : r = false := by rw [← hR]; simp only [go_sem, simprocAttr, gP]
   simp only [go_sem, simprocAttr, h1, h2, g, rs, w1, gP, hR']
  | false =>
  cases gT : decide (0 < th.length) with
  | true =>
   have hR' : r = false := by rw [← hR]; simp only [go_sem, simprocAttr, gP, gT]
   simp only [go_sem, simprocAttr, h1, h2, g, rs, w1, gP, gT, hR']
  | false =>
  cases gE : decide (0 < el.length) with
  | true =>
   have hR' : r = false := by rw [← hR]; simp only [go_sem, simprocAttr, gP, gT, gE]
   simp only [go_sem, simprocAttr, h1, h2, g, rs, w1, gP, gT, gE, hR']
  | false =>
  simp only [go_sem, simprocAttr, h1, h2, g, rs, w1, gP, gT, gE]
  refine W_draw [(1, 4), (2, 4), (1, 7), (2, 7), (4, 7), (1, 10), (2, 10), (4, 10), (7, 10)] (by kernel_rfl) ?_
  cases nX : nameW x with
  | false =>
   have hR' : r = false := by rw [← hR]; simp only [go_sem, simprocAttr, gP, gT, gE, nX]
   simp only [go_sem, simprocAttr, h1, h2, g, rs, w1, gP, gT, gE, nX, hR']
  | true =>
  cases nY : nameW y with
  | false =>
   have hR' : r = false := by rw [← hR]; simp only [go_sem, simprocAttr, gP, gT, gE, nX, nY]
   simp only [go_sem, simprocAttr, h1, h2, g, rs, w1, gP, gT, gE, nX, nY, hR']
  | true =>
  cases p0 : decide (p = []) with
  | false =>
   have hR' : r = false := by rw [← hR]; simp only [go_sem, simprocAttr, gP, gT, gE, nX, nY, p0]
   simp only [go_sem, simprocAttr, h1, h2, g, rs, w1, gP, gT, gE, nX, nY, p0, hR']
  | true =>
  have hR' : r = true := by rw [← hR]; simp only [go_sem, simprocAttr, gP, gT, gE, nX, nY, p0]
  simp only [go_sem, simprocAttr, h1, h2, g, rs, w1, gP, gT, gE, nX, nY, p0, hR']
 have k6 : decide (op = 6) = false := by simp [h26]
 by_cases h27 : op = 7
 ·subst h27
  cases gP : decide (0 < ps.length) with
  | true =>
   have hR' : r = false := by rw [← hR]; simp only [go_sem, simprocAttr, gP]
   simp only [go_sem, simprocAttr, h1, h2, g, rs, w1, gP, hR']
  | false =>
  cases gT : decide (0 < th.length) with
  | true =>
   have hR' : r = false := by rw [← hR]; simp only [go_sem, simprocAttr, gP, gT]
   simp only [go_sem, simprocAttr, h1, h2, g, rs, w1, gP, gT, hR']
  | false =>
  cases gE : decide (0 < el.length) with
  | true =>
   have hR' : r = false := by rw [← hR]; simp only [go_sem, simprocAttr, gP, gT, gE]
   simp only [go_sem, simprocAttr, h1, h2, g, rs, w1, gP, gT, gE, hR']
  | false =>
  simp only [go_sem, simprocAttr, h1, h2, g, rs, w1, gP, gT, gE]
  refine W_draw [(1, 4), (2, 4), (1, 7), (2, 7), (4, 7), (1, 10), (2, 10), (4, 10), (7, 10)] (by kernel_rfl) ?_
  cases nX : nameW x with
  | false =>
   have hR' : r = false := by rw [← hR]; simp only [go_sem, simprocAttr, gP, gT, gE, nX]
   simp only [go_sem, simprocAttr, h1, h2, g, rs, w1, gP, gT, gE, nX, hR']
  | true =>
  cases y0 : decide (y = []) with
  | false =>
   have hR' : r = false := by rw [← hR]; simp only [go_sem, simprocAttr, gP, gT, gE, nX, y0]
   simp only [go_sem, simprocAttr, h1, h2, g, rs, w1, gP, gT, gE, nX, y0, hR']
  | true =>
  cases p0 : decide (p = []) with
  | false =>
   have hR' : r = false := by rw [← hR]; simp only [go_sem, simprocAttr, gP, gT, gE, nX, y0, p0]
   simp only [go_sem, simprocAttr, h1, h2, g, rs, w1, gP, gT, gE, nX, y0, p0, hR']
  | true =>
  cases nA : decide (a.length = 0) with
  | false =>
   have hR' : r = false := by rw [← hR]; simp only [go_sem, simprocAttr, gP, gT, gE, nX, y0, p0, nA]
   simp only [go_sem, simprocAttr, h1, h2, g, rs, w1, gP, gT, gE, nX, y0, p0, nA, hR']
  | true =>
  have hR' : r = true := by rw [← hR]; simp only [go_sem, simprocAttr, gP, gT, gE, nX, y0, p0, nA]
  simp only [go_sem, simprocAttr, h1, h2, g, rs, w1, gP, gT, gE, nX, y0, p0, nA, hR']
 have k7 : decide (op = 7) = false := by simp [h27]
 by_cases h28 : op = 8
 ·subst h28
  cases gP : decide (0 < ps.length) with
  | true =>
   have hR' : r = false := by rw [← hR]; simp only [go_sem, simprocAttr, gP]
   simp only [go_sem, simprocAttr, h1, h2, g, rs, w1, gP, hR']
  | false =>
  cases gT : decide (0 < th.length) with
  | true =>
   have hR' : r = false := by rw [← hR]; simp only [go_sem, simprocAttr, gP, gT]
   simp only [go_sem, simprocAttr, h1, h2, g, rs, w1, gP, gT, hR']
  | false =>
  cases gE : decide (0 < el.length) with
  | true =>
   have hR' : r = false := by rw [← hR]; simp only [go_sem, simprocAttr, gP, gT, gE]
   simp only [go_sem, simprocAttr, h1, h2, g, rs, w1, gP, gT, gE, hR']
  | false =>
  simp only [go_sem, simprocAttr, h1, h2, g, rs, w1, gP, gT, gE]
  refine W_draw [(1, 4), (2, 4), (1, 7), (2, 7), (4, 7), (1, 10), (2, 10), (4, 10), (7, 10)] (by kernel_rfl) ?_
  cases x0 : decide (x = []) with
  | false =>
   have hR' : r = false := by rw [← hR]; simp only [go_sem, simprocAttr, gP, gT, gE, x0]
   simp only [go_sem, simprocAttr, h1, h2, g, rs, w1, gP, gT, gE, x0, hR']
  | true =>
  cases y0 : decide (y = []) with
  | false =>
   have hR' : r = false := by rw [← hR]; simp only [go_sem, simprocAttr, gP, gT, gE, x0, y0]
   simp only [go_sem, simprocAttr, h1, h2, g, rs, w1, gP, gT, gE, x0, y0, hR']
  | true =>
  cases p0 : decide (p = []) with
  | false =>
   have hR' : r = false := by rw [← hR]; simp only [go_sem, simprocAttr, gP, gT, gE, x0, y0, p0]
   simp only [go_sem, simprocAttr, h1, h2, g, rs, w1, gP, gT, gE, x0, y0, p0, hR']
  | true =>
  cases nA : decide (a.length = 1) with
  | false =>
   have hR' : r = false := by rw [← hR]; simp only [go_sem, simprocAttr, gP, gT, gE, x0, y0, p0, nA]
   simp only [go_sem, simprocAttr, h1, h2, g, rs, w1, gP, gT, gE, x0, y0, p0, nA, hR']
  | true =>
  have hR' : r = true := by rw [← hR]; simp only [go_sem, simprocAttr, gP, gT, gE, x0, y0, p0, nA]
  simp only [go_sem, simprocAttr, h1, h2, g, rs, w1, gP, gT, gE, x0, y0, p0, nA, hR']
 have k8 : decide (op = 8) = false := by simp [h28]
 by_cases h29 : op = 9
 ·subst h29
  cases gP : decide (0 < ps.length) with
  | true =>
   have hR' : r = false := by rw [← hR]; simp only [go_sem, simprocAttr, gP]
   simp only [go_sem, simprocAttr, h1, h2, g, rs, w1, gP, hR']
  | false =>
  simp only [go_sem, simprocAttr, h1, h2, g, rs, w1, gP]
  refine W_draw [(1, 4), (2, 4), (1, 7), (2, 7), (4, 7), (1, 10), (2, 10), (4, 10), (7, 10)] (by kernel_rfl) ?_
  cases x0 : decide (x = []) with
  | false =>
   have hR' : r = false := by rw [← hR]; simp only [go_sem, simprocAttr, gP, x0]
   simp only [go_sem, simprocAttr, h1, h2, g, rs, w1, gP, x0, hR']
  | true =>
  cases y0 : decide (y = []) with
  | false =>
   have hR' : r = false := by rw [← hR]; simp only [go_sem, simprocAttr, gP, x0, y0]
   simp only [go_sem, simprocAttr, h1, h2, g, rs, w1, gP, x0, y0, hR']
  | true =>
  cases p0 : decide (p = []) with
  | false =>
   have hR' : r = false := by rw [← hR]; simp only [go_sem, simprocAttr, gP, x0, y0, p0]
   simp only [go_sem, simprocAttr, h1, h2, g, rs, w1, gP, x0, y0, p0, hR']
  | true =>
  cases nA : decide (a.length = 1) with
  | false =>
   have hR' : r = false := by rw [← hR]; simp only [go_sem, simprocAttr, gP, x0, y0, p0, nA]
   simp only [go_sem, simprocAttr, h1, h2, g, rs, w1, gP, x0, y0, p0, nA, hR']
  | true =>
  cases d0 : decide (0 < d) with
  | false =>
   have hR' : r = false := by rw [← hR]; simp only [go_sem, simprocAttr, gP, x0, y0, p0, nA, d0]
   simp only [go_sem, simprocAttr, h1, h2, g, rs, w1, gP, x0, y0, p0, nA, d0, hR']
  | true =>
  have d0' : 0 < d := of_decide_eq_true d0
  have w2 : IntKind.wrap .i64 (((d : Nat) : Int) - 1) = ((d - 1 : Nat) : Int) := by rw [wrap64 (by omega) (by omega)]; omega
  have cT := fun o H => hth (d - 1) (by omega) o H
  have cE := fun o H => hel (d - 1) (by omega) o H
  cases rT : rightL th (d - 1) with
  | false =>
   have hR' : r = false := by rw [← hR]; simp only [go_sem, simprocAttr, gP, x0, y0, p0, nA, d0, rT]
   simp only [go_sem, simprocAttr, h1, h2, g, rs, w1, gP, x0, y0, p0, nA, d0, rT, w2, cT, cE, hR']
  | true =>
  cases n0 : decide (el.length = 0) with
  | true =>
   have hR' : r = true := by rw [← hR]; simp only [go_sem, simprocAttr, gP, x0, y0, p0, nA, d0, rT, n0]
   simp only [go_sem, simprocAttr, h1, h2, g, rs, w1, gP, x0, y0, p0, nA, d0, rT, n0, w2, cT, cE, hR']
  | false =>
  cases rE : rightL el (d - 1) with
  | false =>
   have hR' : r = false := by rw [← hR]; simp only [go_sem, simprocAttr, gP, x0, y0, p0, nA, d0, rT, n0, rE]
   simp only [go_sem, simprocAttr, h1, h2, g, rs, w1, gP, x0, y0, p0, nA, d0, rT, n0, rE, w2, cT, cE, hR']
  | true =>
   have hR' : r = true := by rw [← hR]; simp only [go_sem, simprocAttr, gP, x0, y0, p0, nA, d0, rT, n0, rE]
   simp only [go_sem, simprocAttr, h1, h2, g, rs, w1, gP, x0, y0, p0, nA, d0, rT, n0, rE, w2, cT, cE, hR']
 have k9 : decide (op = 9) = false := by simp [h29]
 by_cases h30 : op = 10
 ·subst h30
  cases gP : decide (0 < ps.length) with
  | true =>
   have hR' : r = false := by rw [← hR]; simp only [go_sem, simprocAttr, gP]
   simp only [go_sem, simprocAttr, h1, h2, g, rs, w1, gP, hR']
  | false =>
  cases gE : decide (0 < el.length) with
  | true =>
   have hR' : r = false := by rw [← hR]; simp only [go_sem, simprocAttr, gP, gE]
   simp only [go_sem, simprocAttr, h1, h2, g, rs, w1, gP, gE, hR']
  | false =>
  simp only [go_sem, simprocAttr, h1, h2, g, rs, w1, gP, gE]
  refine W_draw [(1, 4), (2, 4), (1, 7), (2, 7), (4, 7), (1, 10), (2, 10), (4, 10), (7, 10)] (by kernel_rfl) ?_
  cases x0 : decide (x = []) with
  | false =>
   have hR' : r = false := by rw [← hR]; simp only [go_sem, simprocAttr, gP, gE, x0]
   simp only [go_sem, simprocAttr, h1, h2, g, rs, w1, gP, gE, x0, hR']
  | true =>
  cases y0 : decide (y = []) with
  | false =>
   have hR' : r = false := by rw [← hR]; simp only [go_sem, simprocAttr, gP, gE, x0, y0]
   simp only [go_sem, simprocAttr, h1, h2, g, rs, w1, gP, gE, x0, y0, hR']
  | true =>
  cases p0 : decide (p = []) with
  | false =>
   have hR' : r = false := by rw [← hR]; simp only [go_sem, simprocAttr, gP, gE, x0, y0, p0]
   simp only [go_sem, simprocAttr, h1, h2, g, rs, w1, gP, gE, x0, y0, p0, hR']
  | true =>
  cases nA : decide (a.length = 1) with
  | false =>
   have hR' : r = false := by rw [← hR]; simp only [go_sem, simprocAttr, gP, gE, x0, y0, p0, nA]
   simp only [go_sem, simprocAttr, h1, h2, g, rs, w1, gP, gE, x0, y0, p0, nA, hR']
  | true =>
  cases d0 : decide (0 < d) with
  | false =>
   have hR' : r = false := by rw [← hR]; simp only [go_sem, simprocAttr, gP, gE, x0, y0, p0, nA, d0]
   simp only [go_sem, simprocAttr, h1, h2, g, rs, w1, gP, gE, x0, y0, p0, nA, d0, hR']
  | true =>
  have d0' : 0 < d := of_decide_eq_true d0
  have w2 : IntKind.wrap .i64 (((d : Nat) : Int) - 1) = ((d - 1 : Nat) : Int) := by rw [wrap64 (by omega) (by omega)]; omega
  have cT := fun o H => hth (d - 1) (by omega) o H
  have cE := fun o H => hel (d - 1) (by omega) o H
  cases rT : rightL th (d - 1) with
  | false =>
   have hR' : r = false := by rw [← hR]; simp only [go_sem, simprocAttr, gP, gE, x0, y0, p0, nA, d0, rT]
   simp only [go_sem, simprocAttr, h1, h2, g, rs, w1, gP, gE, x0, y0, p0, nA, d0, rT, w2, cT, cE, hR']
  | true =>
  have n0 : decide (el.length = 0) = true := by rw [decide_eq_true_eq]; rw [decide_eq_false_iff_not] at gE; omega
  have hR' : r = true := by rw [← hR]; simp only [go_sem, simprocAttr, gP, gE, x0, y0, p0, nA, d0, rT, n0]
  simp only [go_sem, simprocAttr, h1, h2, g, rs, w1, gP, gE, x0, y0, p0, nA, d0, rT, n0, w2, cT, cE, hR']
 have k10 : decide (op = 10) = false := by simp [h30]
 by_cases h31 : op = 11
 ·subst h31
  cases gP : decide (0 < ps.length) with
  | true =>
   have hR' : r = false := by rw [← hR]; simp only [go_sem, simprocAttr, gP]
   simp only [go_sem, simprocAttr, h1, h2, g, rs, w1, gP, hR']
  | false =>
  cases gT : decide (0 < th.length) with
  | true =>
   have hR' : r = false := by rw [← hR]; simp only [go_sem, simprocAttr, gP, gT]
   simp only [go_sem, simprocAttr, h1, h2, g, rs, w1, gP, gT, hR']
  | false =>
  cases gE : decide (0 < el.length) with
  | true =>
   have hR' : r = false := by rw [← hR]; simp only [go_sem, simprocAttr, gP, gT, gE]
   simp only [go_sem, simprocAttr, h1, h2, g, rs, w1, gP, gT, gE, hR']
  | false =>
  simp only [go_sem, simprocAttr, h1, h2, g, rs, w1, gP, gT, gE]
  refine W_draw [(1, 4), (2, 4), (1, 7), (2, 7), (4, 7), (1, 10), (2, 10), (4, 10), (7, 10)] (by kernel_rfl) ?_
  cases x0 : decide (x = []) with
  | false =>
   have hR' : r = false := by rw [← hR]; simp only [go_sem, simprocAttr, gP, gT, gE, x0]
   simp only [go_sem, simprocAttr, h1, h2, g, rs, w1, gP, gT, gE, x0, hR']
  | true =>
  cases y0 : decide (y = []) with
  | false =>
   have hR' : r = false := by rw [← hR]; simp only [go_sem, simprocAttr, gP, gT, gE, x0, y0]
   simp only [go_sem, simprocAttr, h1, h2, g, rs, w1, gP, gT, gE, x0, y0, hR']
  | true =>
  cases p0 : decide (p = []) with
  | false =>
   have hR' : r = false := by rw [← hR]; simp only [go_sem, simprocAttr, gP, gT, gE, x0, y0, p0]
   simp only [go_sem, simprocAttr, h1, h2, g, rs, w1, gP, gT, gE, x0, y0, p0, hR']
  | true =>
  cases nA : decide (a.length = 1) with
  | false =>
   have hR' : r = false := by rw [← hR]; simp only [go_sem, simprocAttr, gP, gT, gE, x0, y0, p0, nA]
   simp only [go_sem, simprocAttr, h1, h2, g, rs, w1, gP, gT, gE, x0, y0, p0, nA, hR']
  | true =>
  have hR' : r = true := by rw [← hR]; simp only [go_sem, simprocAttr, gP, gT, gE, x0, y0, p0, nA]
  simp only [go_sem, simprocAttr, h1, h2, g, rs, w1, gP, gT, gE, x0, y0, p0, nA, hR']
 have k11 : decide (op = 11) = false := by simp [h31]
 cases gP : decide (0 < ps.length) with
 | true =>
  have hR' : r = false := by rw [← hR]; simp only [go_sem, simprocAttr, k0, k1, k2, k3, k4, k5, k6, k7, k8, k9, k10, k11, gP, h20, h21, h22, h23, h24, h25, h26, h27, h28, h29, h30, h31]
  simp only [go_sem, simprocAttr, h1, h2, g, rs, w1, k0, k1, k2, k3, k4, k5, k6, k7, k8, k9, k10, k11, gP, hR']
 | false =>
 cases gT : decide (0 < th.length) with
 | true =>
  have hR' : r = false := by rw [← hR]; simp only [go_sem, simprocAttr, k0, k1, k2, k3, k4, k5, k6, k7, k8, k9, k10, k11, gP, gT, h20, h21, h22, h23, h24, h25, h26, h27, h28, h29, h30, h31]
  simp only [go_sem, simprocAttr, h1, h2, g, rs, w1, k0, k1, k2, k3, k4, k5, k6, k7, k8, k9, k10, k11, gP, gT, hR']
 | false =>
 cases gE : decide (0 < el.length) with
 | true =>
  have hR' : r = false := by rw [← hR]; simp only [go_sem, simprocAttr, k0, k1, k2, k3, k4, k5, k6, k7, k8, k9, k10, k11, gP, gT, gE, h20, h21, h22, h23, h24, h25, h26, h27, h28, h29, h30, h31]
  simp only [go_sem, simprocAttr, h1, h2, g, rs, w1, k0, k1, k2, k3, k4, k5, k6, k7, k8, k9, k10, k11, gP, gT, gE, hR']
 | false =>
 simp only [go_sem, simprocAttr, h1, h2, g, rs, w1, k0, k1, k2, k3, k4, k5, k6, k7, k8, k9, k10, k11, gP, gT, gE]
 refine W_draw [(1, 4), (2, 4), (1, 7), (2, 7), (4, 7), (1, 10), (2, 10), (4, 10), (7, 10)] (by kernel_rfl) ?_
 cases x0 : decide (x = []) with
 | false =>
  have hR' : r = false := by rw [← hR]; simp only [go_sem, simprocAttr, k0, k1, k2, k3, k4, k5, k6, k7, k8, k9, k10, k11, gP, gT, gE, x0, h20, h21, h22, h23, h24, h25, h26, h27, h28, h29, h30, h31]
  simp only [go_sem, simprocAttr, h1, h2, g, rs, w1, k0, k1, k2, k3, k4, k5, k6, k7, k8, k9, k10, k11, gP, gT, gE, x0, hR']
 | true =>
 cases y0 : decide (y = []) with
 | false =>
  have hR' : r = false := by rw [← hR]; simp only [go_sem, simprocAttr, k0, k1, k2, k3, k4, k5, k6, k7, k8, k9, k10, k11, gP, gT, gE, x0, y0, h20, h21, h22, h23, h24, h25, h26, h27, h28, h29, h30, h31]
  simp only [go_sem, simprocAttr, h1, h2, g, rs, w1, k0, k1, k2, k3, k4, k5, k6, k7, k8, k9, k10, k11, gP, gT, gE, x0, y0, hR']
 | true =>
 cases p0 : decide (p = []) with
 | false =>
  have hR' : r = false := by rw [← hR]; simp only [go_sem, simprocAttr, k0, k1, k2, k3, k4, k5, k6, k7, k8, k9, k10, k11, gP, gT, gE, x0, y0, p0, h20, h21, h22, h23, h24, h25, h26, h27, h28, h29, h30, h31]
  simp only [go_sem, simprocAttr, h1, h2, g, rs, w1, k0, k1, k2, k3, k4, k5, k6, k7, k8, k9, k10, k11, gP, gT, gE, x0, y0, p0, hR']
 | true =>
 cases nA : decide (a.length = 1) with
 | false =>
  have hR' : r = false := by rw [← hR]; simp only [go_sem, simprocAttr, k0, k1, k2, k3, k4, k5, k6, k7, k8, k9, k10, k11, gP, gT, gE, x0, y0, p0, nA, h20, h21, h22, h23, h24, h25, h26, h27, h28, h29, h30, h31]
  simp only [go_sem, simprocAttr, h1, h2, g, rs, w1, k0, k1, k2, k3, k4, k5, k6, k7, k8, k9, k10, k11, gP, gT, gE, x0, y0, p0, nA, hR']
 | true =>
 have hR' : r = false := by rw [← hR]; simp only [go_sem, simprocAttr, k0, k1, k2, k3, k4, k5, k6, k7, k8, k9, k10, k11, gP, gT, gE, x0, y0, p0, nA, h20, h21, h22, h23, h24, h25, h26, h27, h28, h29, h30, h31]
 simp only [go_sem, simprocAttr, h1, h2, g, rs, w1, k0, k1, k2, k3, k4, k5, k6, k7, k8, k9, k10, k11, gP, gT, gE, x0, y0, p0, nA, hR']
mutual
theorem c_rSt : ∀ (s : GStmt), fitS s = true → RSt s
 | .mk op x y p a ps th el, hf => by
  simp only [fitS, Bool.and_eq_true, decide_eq_true_eq] at hf
  obtain ⟨f1, f2, f3, f4, f5, f6⟩ := hf
  exact rst_of op x y p a ps th el f1 f2 (rbl_of th f3 (c_rAll th f5)) (rbl_of el f4 (c_rAll el f6))
theorem c_rAll : ∀ (l : List GStmt), fitSs l = true → ∀ s ∈ l, RSt s
 | [], _, s, hs => by cases hs
 | g :: l, h, s, hs => by
  simp only [fitSs, Bool.and_eq_true] at h
  rcases List.mem_cons.1 hs with h1 | hs
  ·rw [h1]; exact c_rSt g h.1
  ·exact c_rAll l h.2 s hs
end
theorem c_rBl (l : List GStmt) (hlen : l.length ≤ BIG) (h : fitSs l = true) : RBl l := rbl_of l hlen (c_rAll l h)
end Go.Proofs.YtghhkbigmmjanaaGreatDoor.VA

/-! Qc4 -/
namespace Go.Proofs.YtghhkbigmmjanaaGreatDoor.VA
open Go Go.RowKit
attribute [local go_sem] Nat.add_eq_left Nat.left_eq_add true_and and_true ite_true if_false Int.cast_ofNat_Int eq_self Nat.add_assoc Option.some.injEq decide_true decide_false Bool.not_true Bool.not_false List.size_toArray List.length_cons List.length_nil
set_option linter.unusedSimpArgs false
set_option maxRecDepth 100000

theorem wrapU {n : Int} (h1 : 0 ≤ n) (h2 : n < 18446744073709551616) : IntKind.wrap .u64 n = n := by
 simp only [IntKind.wrap, IntKind.bits, IntKind.signed]
 simp
 omega
theorem rem10 (n : Nat) : aInt .rem .u64 ((n : Nat) : Int) 10 = some (.lit (.int .u64 ((n % 10 : Nat) : Int))) := by
 rw [int_rem _ _ _ (by decide)]
 rw [Int.ofNat_tmod]
 rfl
theorem quo10 (n : Nat) (h : n ≤ 999999999) : aInt .quo .u64 ((n : Nat) : Int) 10 = some (.lit (.int .u64 ((n / 10 : Nat) : Int))) := by
 rw [int_quo _ _ _ (by decide)]
 have : ((n : Nat) : Int).tdiv 10 = ((n / 10 : Nat) : Int) := by rw [Int.ofNat_tdiv]; rfl
 rw [this, wrapU (by omega) (by omega)]
theorem dig_slice : ∀ d : Nat, d < 10 → aSlice Tryz.prog 9 (.lit (.string (ba [48, 49, 50, 51, 52, 53, 54, 55, 56, 57]))) (some (.lit (.int .u64 (d : Nat)))) (some (.lit (.int .u64 (d + 1 : Nat)))) = some (.lit (.string (ba [UInt8.ofNat (48 + d)]))) := by
 intro d hd
 have hn : ∀ n : Nat, aNat (.lit (.int .u64 ((n : Nat) : Int))) = some n := by
  intro n
  simp only [aNat]
  rw [if_pos (by omega)]
  simp
 rw [slice_str und_string (l := d) (h := d + 1) (by simp only [optNat]; exact hn _) (by simp only [optNat]; exact hn _) (by omega) (by simp; omega), ba_extract]
 have : d = 0 ∨ d = 1 ∨ d = 2 ∨ d = 3 ∨ d = 4 ∨ d = 5 ∨ d = 6 ∨ d = 7 ∨ d = 8 ∨ d = 9 := by omega
 rcases this with rfl | rfl | rfl | rfl | rfl | rfl | rfl | rfl | rfl | rfl <;> rfl
set_option maxRecDepth 20000 in
theorem c_rDigits (n : Nat) (hn : n ≤ 999999999) (H : Heap) : calls Tryz.prog cfg 111 [.lit (.int .u64 (n : Nat))] H = some (.ret (.lit (.string (ba (Lib.decDigits n)))) H) := by
 refine calls_pure (fn := Tryz.f111) rfl rfl rfl rfl rfl ?_ H
 have rs : Tryz.f111.results.toList = [.tmp 2] := rfl
 generalize hR : Lib.decDigits n = R
 have hRl : R.length ≤ 9 := by rw [← hR]; exact dec_len 8 n (by omega)
 simp only [go_sem, simprocAttr]
 refine W_loop_ind (fun k e H => ∃ (u : Nat) (s : Wd), k = u ∧ u ≤ 999999999 ∧ Lib.decDigits u ++ s = R ∧ gget .bad e 0 = .lit (.int .u64 (u : Nat)) ∧ gget .bad e 3 = .lit (.string (ba s)))
  n ⟨n, [], rfl, hn, by rw [List.append_nil]; exact hR, by simp only [go_sem, simprocAttr], by simp only [go_sem, simprocAttr] <;> rfl⟩ ?_
 rintro u ihk e H ⟨_, s, rfl, hu, hr, h0, h3⟩
 have hl := congrArg List.length hr
 rw [List.length_append] at hl
 by_cases hlt : 9 < u
 ·have d1 : decide ((9 : Int) < (u : Nat)) = true := by rw [decide_eq_true_eq]; omega
  rw [Lib.decDigits, dif_neg (by omega)] at hr
  have r1 := rem10 u
  have r2 := quo10 u hu
  have w1 : IntKind.wrap .u64 (((u % 10 : Nat) : Int) + 1) = ((u % 10 + 1 : Nat) : Int) := by rw [wrapU (by omega) (by omega)]; omega
  have sl := dig_slice (u % 10) (by omega)
  have ct := cat_ba [UInt8.ofNat (48 + u % 10)] s (by simp only [List.length_cons, List.length_nil]; omega)
  simp only [go_sem, simprocAttr, h0, h3, d1, r1, r2, w1, sl, ct]
  exact ihk (u / 10) (by omega) _ _ ⟨u / 10, [UInt8.ofNat (48 + u % 10)] ++ s, rfl, by omega, by rw [← hr, List.append_assoc], by simp only [go_sem, simprocAttr], by simp only [go_sem, simprocAttr]⟩
 ·have d1 : decide ((9 : Int) < (u : Nat)) = false := by rw [decide_eq_false_iff_not]; omega
  rw [Lib.decDigits, dif_pos (by omega)] at hr
  have w1 : IntKind.wrap .u64 (((u : Nat) : Int) + 1) = ((u + 1 : Nat) : Int) := by rw [wrapU (by omega) (by omega)]; omega
  have sl := dig_slice u (by omega)
  have ct := cat_ba [UInt8.ofNat (48 + u)] s (by simp only [List.length_cons, List.length_nil]; omega)
  rw [hr] at ct
  simp only [go_sem, simprocAttr, h0, h3, d1, w1, sl, ct, rs]
theorem c_rSigned (n : Nat) (hn : n ≤ 999999999) (H : Heap) : calls Tryz.prog cfg 98 [.lit (.int .i64 (n : Nat))] H = some (.ret (.lit (.string (ba (Lib.itoa (n : Nat))))) H) := by
 refine calls_pure (fn := Tryz.f98) rfl rfl rfl rfl rfl ?_ H
 have rs : Tryz.f98.results.toList = [.tmp 2] := rfl
 rw [itoa_nat]
 have cd := c_rDigits n hn
 have uu : Tryz.prog.underlying 133 = some (.int .u64) := by kernel_rfl
 have d1 : decide (((n : Nat) : Int) < 0) = false := by rw [decide_eq_false_iff_not]; omega
 have w1 : IntKind.wrap .u64 ((n : Nat) : Int) = ((n : Nat) : Int) := wrapU (by omega) (by omega)
 simp only [go_sem, simprocAttr, rs, d1, uu, w1, cd]
/-- An operand's text. -/
def jO (o : Opd) : Wd := joined [32] (wOpd o)
theorem wOpd_ne {o : Opd} (h : rightO o = true) : wOpd o ≠ [] := by
 rcases right_opd h with rfl | rfl | rfl | ⟨n, _, rfl⟩ | ⟨_, ho⟩ | ⟨_, ho⟩
 ·simp [wOpd]
 ·simp [wOpd]
 ·simp [wOpd]
 ·simp [wOpd]
 ·rw [ho]; simp [wOpd]
 ·rw [ho]; simp [wOpd]
theorem layW_opd {o : Opd} (h : rightO o = true) : layW (wOpd o) = jO o ++ [32] := (joined_layW (wOpd_ne h)).symm
theorem jO_len {o : Opd} (h : rightO o = true) : (jO o).length + 1 = wt (wOpd o) := by
 rw [← layW_len, layW_opd h]; simp
set_option maxRecDepth 20000 in
theorem c_xOperand (o : Opd) (h : rightO o = true) (hz : wt (wOpd o) ≤ LW) (H : Heap) : calls Tryz.prog cfg 78 [.agg (encOpd o)] H = some (.ret (.lit (.string (ba (jO o)))) H) := by
 refine calls_pure (fn := Tryz.f78) rfl rfl rfl rfl rfl ?_ H
 have rs : Tryz.f78.results.toList = [.tmp 2] := rfl
 unfold LW at hz
 rcases right_opd h with rfl | rfl | rfl | ⟨n, hn, rfl⟩ | ⟨h1, ho⟩ | ⟨h1, ho⟩
 ·have : jO ⟨0, 0, []⟩ = [110, 117, 108, 108] := rfl
  simp only [go_sem, simprocAttr, encOpd, rs, this]
 ·have : jO ⟨1, 0, []⟩ = [102, 97, 108, 115, 101] := rfl
  simp only [go_sem, simprocAttr, encOpd, rs, this]
 ·have : jO ⟨1, 1, []⟩ = [116, 114, 117, 101] := rfl
  simp only [go_sem, simprocAttr, encOpd, rs, this]
 ·have e : jO ⟨2, (n : Nat), []⟩ = Lib.itoa (n : Nat) := joined_one _
  have cs := c_rSigned n hn
  simp only [go_sem, simprocAttr, encOpd, rs, e, cs]
 ·obtain ⟨k, m, nm⟩ := o
  simp only [Opd.mk.injEq] at ho
  obtain ⟨rfl, rfl, _⟩ := ho
  have e : jO ⟨3, 0, nm⟩ = [38, 32] ++ nm := by
   show joined [32] [[38], nm] = _
   rw [joined_two, joined_one]
   rfl
  have hw : wt (wOpd ⟨3, 0, nm⟩) = 2 + (nm.length + 1) := rfl
  have ct := cat_ba [38, 32] nm (by simp only [List.length_cons, List.length_nil]; omega)
  simp only [go_sem, simprocAttr, encOpd, rs, e, ct]
 ·obtain ⟨k, m, nm⟩ := o
  simp only [Opd.mk.injEq] at ho
  obtain ⟨rfl, rfl, _⟩ := ho
  have e : jO ⟨4, 0, nm⟩ = nm := joined_one _
  simp only [go_sem, simprocAttr, encOpd, rs, e]
theorem wt_list_succ (one : Nat → List Wd) (n : Nat) : wt (wList one (n + 1)) = wt (wList one n) + ((if 0 < n then 2 else 0) + wt (one n)) := by
 simp only [wList, wt_app]
 split <;> simp [wt]
theorem wt_list_mono (one : Nat → List Wd) (n : Nat) : ∀ k, wt (wList one n) ≤ wt (wList one (n + k))
 | 0 => Nat.le_refl _
 | k + 1 => by
  refine Nat.le_trans (wt_list_mono one n k) ?_
  rw [← Nat.add_assoc, wt_list_succ]
  omega
theorem wt_list_le (one : Nat → List Wd) {i n : Nat} (h : i ≤ n) : wt (wList one i) ≤ wt (wList one n) := by
 have := wt_list_mono one i (n - i)
 rwa [show i + (n - i) = n by omega] at this
theorem layW_list_succ (one : Nat → List Wd) (n : Nat) : layW (wList one (n + 1)) = layW (wList one n) ++ ((if 0 < n then [44, 32] else []) ++ layW (one n)) := by
 simp only [wList, layW_app]
 split <;> simp [layW]
theorem get_right {a : List Opd} (h : a.all rightO = true) {i : Nat} (hi : i < a.length) : rightO (a.getD i ⟨0, 0, []⟩) = true := by
 rw [List.all_eq_true] at h
 apply h
 rw [List.getD_eq_getElem?_getD, List.getElem?_eq_getElem hi]
 exact List.getElem_mem hi
set_option maxRecDepth 20000 in
theorem c_xArgs (a : List Opd) (h : a.all rightO = true) (hz : wt (wArgs a) ≤ LW) (o : Own) (H : Heap) : calls Tryz.prog cfg 79 [.sl o (a.map encOpd)] H = some (.ret (.lit (.string (ba (joined [32] (wArgs a))))) H) := by
 refine calls_pure (fn := Tryz.f79) rfl rfl rfl rfl rfl ?_ H
 have rs : Tryz.f79.results.toList = [.tmp 2] := rfl
 unfold LW at hz
 have hwl : wt (wArgs a) = wt (wList (wArg a) a.length) + 4 := by simp only [wArgs, wt_app, wt, List.length_cons, List.length_nil]; omega
 have hjl : joined [32] (wArgs a) = [40, 32] ++ layW (wList (wArg a) a.length) ++ [41] := by
  have : wArgs a = ([[40]] ++ wList (wArg a) a.length) ++ [[41]] := by simp [wArgs]
  rw [this, joined_last, layW_app]
  rfl
 have hwn := wList_len (wArg a) a.length
 generalize hR : joined [32] (wArgs a) = R at *
 have hal : a.length ≤ 1099511627800 := by
  have := wt_sum (wList (wArg a) a.length)
  omega
 simp only [go_sem, simprocAttr]
 refine W_loop_ind (fun k e H => ∃ (i : Nat) (Z : Wd), k = a.length - i ∧ i ≤ a.length ∧ Z = [40, 32] ++ layW (wList (wArg a) i) ∧ gget .bad e 0 = .sl .sh (a.map encOpd) ∧ gget .bad e 3 = .lit (.string (ba Z)) ∧ gget .bad e 4 = .lit (.int .i64 (i : Nat)))
  a.length ⟨0, [40, 32], rfl, by omega, rfl, by simp only [go_sem, simprocAttr], by simp only [go_sem, simprocAttr], by simp only [go_sem, simprocAttr] <;> rfl⟩ ?_
 rintro k ihk e H ⟨i, Z, rfl, hle, hZ, h0, h3, h4⟩
 have hZl : Z.length = wt (wList (wArg a) i) + 2 := by rw [hZ, List.length_append, layW_len]; simp only [List.length_cons, List.length_nil]; omega
 by_cases hlt : i < a.length
 ·have hlt' : decide ((i : Int) < (a.length : Nat)) = true := by rw [decide_eq_true_eq]; omega
  have ha := iad_encOpd (t := 50) (bs := 32) (o := .sh) hlt
  have hw1 := wrap1 (show i + 1 ≤ 9223372036854775807 by omega)
  have hr := get_right h hlt
  have hm := wt_list_le (wArg a) (show i + 1 ≤ a.length by omega)
  rw [wt_list_succ] at hm
  have hls := layW_list_succ (wArg a) i
  have hoo : wArg a i = wOpd (a.getD i ⟨0, 0, []⟩) := rfl
  rw [hoo] at hm hls
  generalize a.getD i ⟨0, 0, []⟩ = x at *
  rw [layW_opd hr] at hls
  have co := c_xOperand x hr (by unfold LW; omega)
  have hjx := jO_len hr
  generalize jO x = J at *
  obtain ⟨Z1, z1, n1, ct1⟩ := cat_ex J [32] (by simp only [List.length_cons, List.length_nil]; omega)
  simp only [List.length_cons, List.length_nil] at n1
  by_cases hi : 0 < i
  ·have d2 : decide (0 < (i : Int)) = true := by rw [decide_eq_true_eq]; omega
   rw [if_pos hi] at hls hm
   obtain ⟨Z2, z2, n2, ct2⟩ := cat_ex Z [44, 32] (by simp only [List.length_cons, List.length_nil]; omega)
   simp only [List.length_cons, List.length_nil] at n2
   obtain ⟨Z3, z3, n3, ct3⟩ := cat_ex Z2 Z1 (by omega)
   simp only [go_sem, simprocAttr, h0, h3, h4, List.length_map, hlt', ha, d2, co, ct1, ct2, ct3, hw1]
   exact ihk _ (by omega) _ _ ⟨i + 1, Z3, rfl, by omega, by rw [z3, z2, z1, hZ, hls]; simp only [List.append_assoc], by simp only [go_sem, simprocAttr, h0], by simp only [go_sem, simprocAttr], by simp only [go_sem, simprocAttr]⟩
  ·have d2 : decide (0 < (i : Int)) = false := by rw [decide_eq_false_iff_not]; omega
   rw [if_neg hi] at hls hm
   obtain ⟨Z3, z3, n3, ct3⟩ := cat_ex Z Z1 (by omega)
   simp only [go_sem, simprocAttr, h0, h3, h4, List.length_map, hlt', ha, d2, co, ct1, ct3, hw1]
   exact ihk _ (by omega) _ _ ⟨i + 1, Z3, rfl, by omega, by rw [z3, z1, hZ, hls]; simp only [List.append_assoc, List.nil_append], by simp only [go_sem, simprocAttr, h0], by simp only [go_sem, simprocAttr], by simp only [go_sem, simprocAttr]⟩
 ·obtain rfl : i = a.length := by omega
  have hlt' : decide (((a.length : Nat) : Int) < (a.length : Nat)) = false := by simp
  obtain ⟨Z1, z1, n1, ct1⟩ := cat_ex Z [41] (by simp only [List.length_cons, List.length_nil]; omega)
  have hT : Z1 = R := by rw [z1, hZ, hjl]
  subst hT
  simp only [go_sem, simprocAttr, h0, h3, h4, List.length_map, hlt', ct1, rs]
end Go.Proofs.YtghhkbigmmjanaaGreatDoor.VA

/-! Qc5 -/
namespace Go.Proofs.YtghhkbigmmjanaaGreatDoor.VA
open Go Go.RowKit
attribute [local go_sem] Nat.add_eq_left Nat.left_eq_add true_and and_true ite_true if_false Int.cast_ofNat_Int eq_self Nat.add_assoc Option.some.injEq decide_true decide_false Bool.not_true Bool.not_false List.size_toArray List.length_cons List.length_nil
set_option linter.unusedSimpArgs false
set_option maxRecDepth 100000

def TxA (s : GStmt) : Prop := wt (wStmt s) ≤ LW → ∀ H, calls Tryz.prog cfg 45 [.agg (encStmt s)] H = some (.ret (.lit (.string (ba (joined [32] (wStmt s))))) H)
def BkA (l : List GStmt) : Prop := wt (wBlk l) ≤ LW → ∀ (o : Own) H, calls Tryz.prog cfg 69 [.sl o (l.map encStmt)] H = some (.ret (.lit (.string (ba (joined [32] (wBlk l))))) H)
theorem wBlk_ne (l : List GStmt) : wBlk l ≠ [] := by simp [wBlk]
theorem wArgs_ne (a : List Opd) : wArgs a ≠ [] := by simp [wArgs]
theorem wt_pos {ws : List Wd} (h : ws ≠ []) : 1 ≤ wt ws := by
 cases ws with
 | nil => exact absurd rfl h
 | cons w ws => simp only [wt]; omega
theorem wt_stmts_len : ∀ (l : List GStmt), l.length ≤ wt (wStmts l)
 | [] => Nat.zero_le _
 | s :: l => by
  have h1 := wt_stmts_len l
  have h2 := wt_pos (wStmt_ne s)
  simp only [wStmts, wt_app, List.length_cons]
  omega
set_option maxRecDepth 20000 in
theorem bka_of (l : List GStmt) (hall : ∀ s ∈ l, TxA s) : BkA l := by
 intro hz o H
 refine calls_pure (fn := Tryz.f69) rfl rfl rfl rfl rfl ?_ H
 have rs : Tryz.f69.results.toList = [.tmp 2] := rfl
 have hlen := wt_stmts_len l
 have hwb := wt_blk l
 unfold LW at hz
 have hjl : joined [32] (wBlk l) = [123, 32] ++ layW (wStmts l) ++ [125] := by
  have : wBlk l = ([[123]] ++ wStmts l) ++ [[125]] := by simp [wBlk]
  rw [this, joined_last, layW_app]
  rfl
 generalize hR : joined [32] (wBlk l) = R at *
 simp only [go_sem, simprocAttr]
 refine W_loop_ind (fun k e H => ∃ (i : Nat) (Z : Wd), k = l.length - i ∧ i ≤ l.length ∧ Z = [123, 32] ++ layW (wStmts (l.take i)) ∧ gget .bad e 0 = .sl .sh (l.map encStmt) ∧ gget .bad e 3 = .lit (.string (ba Z)) ∧ gget .bad e 4 = .lit (.int .i64 (i : Nat)))
  l.length ⟨0, [123, 32], rfl, by omega, rfl, by simp only [go_sem, simprocAttr], by simp only [go_sem, simprocAttr], by simp only [go_sem, simprocAttr] <;> rfl⟩ ?_
 rintro k ihk e H ⟨i, Z, rfl, hle, hZ, h0, h3, h4⟩
 have hZl : Z.length = wt (wStmts (l.take i)) + 2 := by rw [hZ, List.length_append, layW_len]; simp only [List.length_cons, List.length_nil]; omega
 by_cases hlt : i < l.length
 ·have hlt' : decide ((i : Int) < (l.length : Nat)) = true := by rw [decide_eq_true_eq]; omega
  have ha := iad_encStmt (t := 40) (bs := 152) (o := .sh) hlt
  have hx : l.getD i noStmt ∈ l := by rw [List.getD_eq_getElem?_getD, List.getElem?_eq_getElem hlt]; exact List.getElem_mem hlt
  have hw1 := wrap1 (show i + 1 ≤ 9223372036854775807 by omega)
  have htk := take_succ' noStmt hlt
  have hsp : wt (wStmts l) = wt (wStmts (l.take (i + 1))) + wt (wStmts (l.drop (i + 1))) := by rw [← wt_app, ← wStmts_app, List.take_append_drop]
  have hls : wStmts (l.take (i + 1)) = wStmts (l.take i) ++ wStmt (l.getD i noStmt) := by rw [htk, wStmts_app]; simp only [wStmts, List.append_nil]
  rw [hls, wt_app] at hsp
  have hc := hall _ hx
  generalize l.getD i noStmt = x at *
  have co := hc (by unfold LW; omega)
  have hjx := wt_joined (wStmt x) (wStmt_ne x)
  have hly := layW_stmt x
  generalize joined [32] (wStmt x) = J at *
  obtain ⟨Z1, z1, n1, ct1⟩ := cat_ex J [32] (by simp only [List.length_cons, List.length_nil]; omega)
  simp only [List.length_cons, List.length_nil] at n1
  obtain ⟨Z3, z3, n3, ct3⟩ := cat_ex Z Z1 (by omega)
  simp only [go_sem, simprocAttr, h0, h3, h4, List.length_map, hlt', ha, co, ct1, ct3, hw1]
  exact ihk _ (by omega) _ _ ⟨i + 1, Z3, rfl, by omega, by rw [z3, z1, hZ, hls, layW_app, hly]; simp only [List.append_assoc], by simp only [go_sem, simprocAttr, h0], by simp only [go_sem, simprocAttr], by simp only [go_sem, simprocAttr]⟩
 ·obtain rfl : i = l.length := by omega
  have hlt' : decide (((l.length : Nat) : Int) < (l.length : Nat)) = false := by simp
  rw [List.take_length] at hZ hZl
  obtain ⟨Z1, z1, n1, ct1⟩ := cat_ex Z [125] (by simp only [List.length_cons, List.length_nil]; omega)
  have hT : Z1 = R := by rw [z1, hZ, hjl]
  subst hT
  simp only [go_sem, simprocAttr, h0, h3, h4, List.length_map, hlt', ct1, rs]
theorem iad0 (o : Opd) (a : List Opd) (ow : Own) : iad (some (50, 3, 32)) (.sl ow (encOpd o :: a.map encOpd)) (some 0) = some (.ep (encOpd o)) := iad_encOpd (t := 50) (bs := 32) (o := ow) (l := o :: a) (i := 0) (by simp)
theorem iad1 (o q : Opd) (a : List Opd) (ow : Own) : iad (some (50, 3, 32)) (.sl ow (encOpd o :: encOpd q :: a.map encOpd)) (some 1) = some (.ep (encOpd q)) := iad_encOpd (t := 50) (bs := 32) (o := ow) (l := o :: q :: a) (i := 1) (by simp)

theorem props_words {ps : List Wd} {b : List Opd} {u : Opd} (h : b.length = ps.length) : wSep ((ps.zip b).map wPair) = wList (wProp ps (b ++ [u])) ps.length := by
 have e1 := wProps_eq ps (b ++ [u])
 have hmin : min ps.length (b ++ [u]).length = ps.length := by simp; omega
 have e2 : ps.zip (b ++ [u]) = ps.zip b := by
  have := List.zip_append (l₁ := ps) (r₁ := []) (l₂ := b) (r₂ := [u]) h.symm
  simpa using this
 rw [hmin, e2] at e1
 exact e1.symm
set_option maxHeartbeats 2000000 in
set_option maxRecDepth 20000 in
theorem txa_of (op : Int) (x y p : Wd) (a : List Opd) (ps : List Wd) (th el : List GStmt) (d : Nat) (hr : rightS (.mk op x y p a ps th el) d = true) (hth : BkA th) (hel : BkA el) : TxA (.mk op x y p a ps th el) := by
 intro hz H
 refine calls_pure (fn := Tryz.f45) rfl rfl rfl rfl rfl ?_ H
 have rs : Tryz.f45.results.toList = [.tmp 2] := rfl
 have i0 := iad0
 have i1 := iad1
 simp only [encStmt_mk]
 generalize hR : joined [32] (wStmt (.mk op x y p a ps th el)) = R
 unfold LW at hz
 cases shape_of hr with
 | move _ u h1 h2 =>
  have hws : wStmt (.mk 0 x [] [] [u] [] [] []) = (x :: [61] :: wOpd u) ++ [[59]] := rfl
  rw [hws, wt_app] at hz
  rw [hws, joined_last] at hR
  clear hws
  have l_u := jO_len h2
  simp only [layW, layW_app, wt, wt_app, List.length_cons, List.length_nil, layW_opd h2] at hR hz
  have c_u := c_xOperand u h2 (by unfold LW; omega)
  generalize jO u = J_u at *
  obtain ⟨Z0, z0, n0, ct0⟩ := cat_ex x [32, 61, 32] (by simp only [List.length_cons, List.length_nil]; omega)
  simp only [List.length_cons, List.length_nil] at n0
  obtain ⟨Z1, z1, n1, ct1⟩ := cat_ex Z0 J_u (by omega)
  obtain ⟨Z2, z2, n2, ct2⟩ := cat_ex Z1 [32, 59] (by simp only [List.length_cons, List.length_nil]; omega)
  simp only [List.length_cons, List.length_nil] at n2
  have hT : Z2 = R := by rw [z2, z1, z0, ← hR]; simp only [tCall, tIn, tOut, tReturn, List.append_assoc, List.cons_append, List.nil_append]
  subst hT
  simp only [go_sem, simprocAttr, List.map_cons, List.map_nil, List.length_map, i0, i1, rs, c_u, ct0, ct1, ct2]
  refine W_draw [(1, 4), (1, 6), (1, 7)] (by kernel_rfl) ?_
  simp only [go_sem, simprocAttr, List.map_cons, List.map_nil, List.length_map, i0, i1, rs, c_u, ct0, ct1, ct2]
 | arith _ _ u q h1 h2 h3 h4 =>
  have hws : wStmt (.mk 1 x [] p [u, q] [] [] []) = (x :: [61] :: (wOpd u ++ p :: wOpd q)) ++ [[59]] := rfl
  rw [hws, wt_app] at hz
  rw [hws, joined_last] at hR
  clear hws
  have l_u := jO_len h3
  have l_q := jO_len h4
  simp only [layW, layW_app, wt, wt_app, List.length_cons, List.length_nil, layW_opd h3, layW_opd h4] at hR hz
  have c_u := c_xOperand u h3 (by unfold LW; omega)
  have c_q := c_xOperand q h4 (by unfold LW; omega)
  generalize jO u = J_u at *
  generalize jO q = J_q at *
  obtain ⟨Z0, z0, n0, ct0⟩ := cat_ex x [32, 61, 32] (by simp only [List.length_cons, List.length_nil]; omega)
  simp only [List.length_cons, List.length_nil] at n0
  obtain ⟨Z1, z1, n1, ct1⟩ := cat_ex Z0 J_u (by omega)
  obtain ⟨Z2, z2, n2, ct2⟩ := cat_ex Z1 [32] (by simp only [List.length_cons, List.length_nil]; omega)
  simp only [List.length_cons, List.length_nil] at n2
  obtain ⟨Z3, z3, n3, ct3⟩ := cat_ex Z2 p (by omega)
  obtain ⟨Z4, z4, n4, ct4⟩ := cat_ex Z3 [32] (by simp only [List.length_cons, List.length_nil]; omega)
  simp only [List.length_cons, List.length_nil] at n4
  obtain ⟨Z5, z5, n5, ct5⟩ := cat_ex Z4 J_q (by omega)
  obtain ⟨Z6, z6, n6, ct6⟩ := cat_ex Z5 [32, 59] (by simp only [List.length_cons, List.length_nil]; omega)
  simp only [List.length_cons, List.length_nil] at n6
  have hT : Z6 = R := by rw [z6, z5, z4, z3, z2, z1, z0, ← hR]; simp only [tCall, tIn, tOut, tReturn, List.append_assoc, List.cons_append, List.nil_append]
  subst hT
  simp only [go_sem, simprocAttr, List.map_cons, List.map_nil, List.length_map, i0, i1, rs, c_u, c_q, ct0, ct1, ct2, ct3, ct4, ct5, ct6]
  refine W_draw [(1, 4), (1, 6), (1, 7), (1, 11), (4, 11), (6, 11), (7, 11), (1, 15), (4, 15), (6, 15), (7, 15), (11, 15), (1, 17), (4, 17), (6, 17), (7, 17), (11, 17), (1, 18), (11, 18)] (by kernel_rfl) ?_
  simp only [go_sem, simprocAttr, List.map_cons, List.map_nil, List.length_map, i0, i1, rs, c_u, c_q, ct0, ct1, ct2, ct3, ct4, ct5, ct6]
 | get _ _ _ h1 h2 h3 =>
  have hws : wStmt (.mk 2 x y p [] [] [] []) = (x :: [61] :: y :: [46] :: p :: []) ++ [[59]] := rfl
  rw [hws, wt_app] at hz
  rw [hws, joined_last] at hR
  clear hws
  simp only [layW, layW_app, wt, wt_app, List.length_cons, List.length_nil] at hR hz
  obtain ⟨Z0, z0, n0, ct0⟩ := cat_ex x [32, 61, 32] (by simp only [List.length_cons, List.length_nil]; omega)
  simp only [List.length_cons, List.length_nil] at n0
  obtain ⟨Z1, z1, n1, ct1⟩ := cat_ex Z0 y (by omega)
  obtain ⟨Z2, z2, n2, ct2⟩ := cat_ex Z1 [32, 46, 32] (by simp only [List.length_cons, List.length_nil]; omega)
  simp only [List.length_cons, List.length_nil] at n2
  obtain ⟨Z3, z3, n3, ct3⟩ := cat_ex Z2 p (by omega)
  obtain ⟨Z4, z4, n4, ct4⟩ := cat_ex Z3 [32, 59] (by simp only [List.length_cons, List.length_nil]; omega)
  simp only [List.length_cons, List.length_nil] at n4
  have hT : Z4 = R := by rw [z4, z3, z2, z1, z0, ← hR]; simp only [tCall, tIn, tOut, tReturn, List.append_assoc, List.cons_append, List.nil_append]
  subst hT
  simp only [go_sem, simprocAttr, List.map_cons, List.map_nil, List.length_map, i0, i1, rs, ct0, ct1, ct2, ct3, ct4]
 | set _ _ u h1 h2 h3 =>
  have hws : wStmt (.mk 3 x [] p [u] [] [] []) = (x :: [46] :: p :: [61] :: wOpd u) ++ [[59]] := rfl
  rw [hws, wt_app] at hz
  rw [hws, joined_last] at hR
  clear hws
  have l_u := jO_len h3
  simp only [layW, layW_app, wt, wt_app, List.length_cons, List.length_nil, layW_opd h3] at hR hz
  have c_u := c_xOperand u h3 (by unfold LW; omega)
  generalize jO u = J_u at *
  obtain ⟨Z0, z0, n0, ct0⟩ := cat_ex x [32, 46, 32] (by simp only [List.length_cons, List.length_nil]; omega)
  simp only [List.length_cons, List.length_nil] at n0
  obtain ⟨Z1, z1, n1, ct1⟩ := cat_ex Z0 p (by omega)
  obtain ⟨Z2, z2, n2, ct2⟩ := cat_ex Z1 [32, 61, 32] (by simp only [List.length_cons, List.length_nil]; omega)
  simp only [List.length_cons, List.length_nil] at n2
  obtain ⟨Z3, z3, n3, ct3⟩ := cat_ex Z2 J_u (by omega)
  obtain ⟨Z4, z4, n4, ct4⟩ := cat_ex Z3 [32, 59] (by simp only [List.length_cons, List.length_nil]; omega)
  simp only [List.length_cons, List.length_nil] at n4
  have hT : Z4 = R := by rw [z4, z3, z2, z1, z0, ← hR]; simp only [tCall, tIn, tOut, tReturn, List.append_assoc, List.cons_append, List.nil_append]
  subst hT
  simp only [go_sem, simprocAttr, List.map_cons, List.map_nil, List.length_map, i0, i1, rs, c_u, ct0, ct1, ct2, ct3, ct4]
  refine W_draw [(1, 4), (1, 8), (4, 8), (1, 10), (4, 10), (1, 11), (4, 11)] (by kernel_rfl) ?_
  simp only [go_sem, simprocAttr, List.map_cons, List.map_nil, List.length_map, i0, i1, rs, c_u, ct0, ct1, ct2, ct3, ct4]
 | call _ _ _ h1 h2 h3 =>
  have hws : wStmt (.mk 5 x [] p a [] [] []) = (x :: [61] :: tCall :: p :: wArgs a) ++ [[59]] := rfl
  rw [hws, wt_app] at hz
  rw [hws, joined_last] at hR
  clear hws
  simp only [layW, layW_app, wt, wt_app, List.length_cons, List.length_nil] at hR hz
  have ca := c_xArgs a h3 (by unfold LW; omega)
  have la := wt_joined (wArgs a) (wArgs_ne a)
  rw [← joined_layW (wArgs_ne a)] at hR
  generalize joined [32] (wArgs a) = Ja at *
  obtain ⟨Z0, z0, n0, ct0⟩ := cat_ex x [32, 61, 32, 99, 97, 108, 108, 32] (by simp only [List.length_cons, List.length_nil]; omega)
  simp only [List.length_cons, List.length_nil] at n0
  obtain ⟨Z1, z1, n1, ct1⟩ := cat_ex Z0 p (by omega)
  obtain ⟨Z2, z2, n2, ct2⟩ := cat_ex Z1 [32] (by simp only [List.length_cons, List.length_nil]; omega)
  simp only [List.length_cons, List.length_nil] at n2
  obtain ⟨Z3, z3, n3, ct3⟩ := cat_ex Z2 Ja (by omega)
  obtain ⟨Z4, z4, n4, ct4⟩ := cat_ex Z3 [32, 59] (by simp only [List.length_cons, List.length_nil]; omega)
  simp only [List.length_cons, List.length_nil] at n4
  have hT : Z4 = R := by rw [z4, z3, z2, z1, z0, ← hR]; simp only [tCall, tIn, tOut, tReturn, List.append_assoc, List.cons_append, List.nil_append]
  subst hT
  simp only [go_sem, simprocAttr, List.map_cons, List.map_nil, List.length_map, i0, i1, rs, ct0, ct1, ct2, ct3, ct4, ca]
  refine W_draw [(1, 4), (1, 8), (4, 8), (1, 9), (4, 9)] (by kernel_rfl) ?_
  simp only [go_sem, simprocAttr, List.map_cons, List.map_nil, List.length_map, i0, i1, rs, ct0, ct1, ct2, ct3, ct4, ca]
 | apply _ _ _ h1 h2 h3 =>
  have hws : wStmt (.mk 6 x y [] a [] [] []) = (x :: [61] :: y :: wArgs a) ++ [[59]] := rfl
  rw [hws, wt_app] at hz
  rw [hws, joined_last] at hR
  clear hws
  simp only [layW, layW_app, wt, wt_app, List.length_cons, List.length_nil] at hR hz
  have ca := c_xArgs a h3 (by unfold LW; omega)
  have la := wt_joined (wArgs a) (wArgs_ne a)
  rw [← joined_layW (wArgs_ne a)] at hR
  generalize joined [32] (wArgs a) = Ja at *
  obtain ⟨Z0, z0, n0, ct0⟩ := cat_ex x [32, 61, 32] (by simp only [List.length_cons, List.length_nil]; omega)
  simp only [List.length_cons, List.length_nil] at n0
  obtain ⟨Z1, z1, n1, ct1⟩ := cat_ex Z0 y (by omega)
  obtain ⟨Z2, z2, n2, ct2⟩ := cat_ex Z1 [32] (by simp only [List.length_cons, List.length_nil]; omega)
  simp only [List.length_cons, List.length_nil] at n2
  obtain ⟨Z3, z3, n3, ct3⟩ := cat_ex Z2 Ja (by omega)
  obtain ⟨Z4, z4, n4, ct4⟩ := cat_ex Z3 [32, 59] (by simp only [List.length_cons, List.length_nil]; omega)
  simp only [List.length_cons, List.length_nil] at n4
  have hT : Z4 = R := by rw [z4, z3, z2, z1, z0, ← hR]; simp only [tCall, tIn, tOut, tReturn, List.append_assoc, List.cons_append, List.nil_append]
  subst hT
  simp only [go_sem, simprocAttr, List.map_cons, List.map_nil, List.length_map, i0, i1, rs, ct0, ct1, ct2, ct3, ct4, ca]
  refine W_draw [(1, 4), (1, 8), (4, 8), (1, 9), (4, 9)] (by kernel_rfl) ?_
  simp only [go_sem, simprocAttr, List.map_cons, List.map_nil, List.length_map, i0, i1, rs, ct0, ct1, ct2, ct3, ct4, ca]
 | in_ _ h1 =>
  have hws : wStmt (.mk 7 x [] [] [] [] [] []) = (x :: [61] :: tIn :: []) ++ [[59]] := rfl
  rw [hws, wt_app] at hz
  rw [hws, joined_last] at hR
  clear hws
  simp only [layW, layW_app, wt, wt_app, List.length_cons, List.length_nil] at hR hz
  obtain ⟨Z0, z0, n0, ct0⟩ := cat_ex x [32, 61, 32, 105, 110, 32, 59] (by simp only [List.length_cons, List.length_nil]; omega)
  simp only [List.length_cons, List.length_nil] at n0
  have hT : Z0 = R := by rw [z0, ← hR]; simp only [tCall, tIn, tOut, tReturn, List.append_assoc, List.cons_append, List.nil_append]
  subst hT
  simp only [go_sem, simprocAttr, List.map_cons, List.map_nil, List.length_map, i0, i1, rs, ct0]
 | out u h1 =>
  have hws : wStmt (.mk 8 [] [] [] [u] [] [] []) = (tOut :: wOpd u) ++ [[59]] := rfl
  rw [hws, wt_app] at hz
  rw [hws, joined_last] at hR
  clear hws
  have l_u := jO_len h1
  simp only [layW, layW_app, wt, wt_app, List.length_cons, List.length_nil, layW_opd h1] at hR hz
  have c_u := c_xOperand u h1 (by unfold LW; omega)
  generalize jO u = J_u at *
  obtain ⟨Z0, z0, n0, ct0⟩ := cat_ex [111, 117, 116, 32] J_u (by simp only [List.length_cons, List.length_nil]; omega)
  simp only [List.length_cons, List.length_nil] at n0
  obtain ⟨Z1, z1, n1, ct1⟩ := cat_ex Z0 [32, 59] (by simp only [List.length_cons, List.length_nil]; omega)
  simp only [List.length_cons, List.length_nil] at n1
  have hT : Z1 = R := by rw [z1, z0, ← hR]; simp only [tCall, tIn, tOut, tReturn, List.append_assoc, List.cons_append, List.nil_append]
  subst hT
  simp only [go_sem, simprocAttr, List.map_cons, List.map_nil, List.length_map, i0, i1, rs, c_u, ct0, ct1]
 | ret u h1 =>
  have hws : wStmt (.mk 11 [] [] [] [u] [] [] []) = (tReturn :: wOpd u) ++ [[59]] := rfl
  rw [hws, wt_app] at hz
  rw [hws, joined_last] at hR
  clear hws
  have l_u := jO_len h1
  simp only [layW, layW_app, wt, wt_app, List.length_cons, List.length_nil, layW_opd h1] at hR hz
  have c_u := c_xOperand u h1 (by unfold LW; omega)
  generalize jO u = J_u at *
  obtain ⟨Z0, z0, n0, ct0⟩ := cat_ex [114, 101, 116, 117, 114, 110, 32] J_u (by simp only [List.length_cons, List.length_nil]; omega)
  simp only [List.length_cons, List.length_nil] at n0
  obtain ⟨Z1, z1, n1, ct1⟩ := cat_ex Z0 [32, 59] (by simp only [List.length_cons, List.length_nil]; omega)
  simp only [List.length_cons, List.length_nil] at n1
  have hT : Z1 = R := by rw [z1, z0, ← hR]; simp only [tCall, tIn, tOut, tReturn, List.append_assoc, List.cons_append, List.nil_append]
  subst hT
  simp only [go_sem, simprocAttr, List.map_cons, List.map_nil, List.length_map, i0, i1, rs, c_u, ct0, ct1]
 | while_ u _ h1 h2 h3 =>
  have hws : wStmt (.mk 10 [] [] [] [u] [] th []) = (tWhile :: wOpd u) ++ wBlk th := rfl
  rw [hws, wt_app] at hz
  rw [hws, joined_app (wBlk_ne th)] at hR
  clear hws
  have l_u := jO_len h1
  simp only [layW, layW_app, wt, wt_app, List.length_cons, List.length_nil, layW_opd h1] at hR hz
  have c_u := c_xOperand u h1 (by unfold LW; omega)
  have cb := hth (by unfold LW; omega)
  have lb := wt_joined (wBlk th) (wBlk_ne th)
  generalize jO u = J_u at *
  generalize joined [32] (wBlk th) = Jb at *
  obtain ⟨Z0, z0, n0, ct0⟩ := cat_ex [119, 104, 105, 108, 101, 32] J_u (by simp only [List.length_cons, List.length_nil]; omega)
  simp only [List.length_cons, List.length_nil] at n0
  obtain ⟨Z1, z1, n1, ct1⟩ := cat_ex Z0 [32] (by simp only [List.length_cons, List.length_nil]; omega)
  simp only [List.length_cons, List.length_nil] at n1
  obtain ⟨Z2, z2, n2, ct2⟩ := cat_ex Z1 Jb (by omega)
  have hT : Z2 = R := by rw [z2, z1, z0, ← hR]; simp only [tWhile, List.append_assoc, List.cons_append, List.nil_append]
  subst hT
  simp only [go_sem, simprocAttr, List.map_cons, List.map_nil, List.length_map, i0, rs, c_u, cb, ct0, ct1, ct2]
  refine W_draw [(1, 8), (3, 8), (4, 8)] (by kernel_rfl) ?_
  simp only [go_sem, simprocAttr, List.map_cons, List.map_nil, List.length_map, i0, rs, c_u, cb, ct0, ct1, ct2]
 | if_ u _ _ h1 h2 h3 h4 =>
  have hws := wStmt_if [] [] [] [u] [] th el
  have hf : wFirst [u] = wOpd u := rfl
  rw [hf] at hws
  rw [hws, wt_app, wt_app, wt_app] at hz
  rw [hws] at hR
  clear hws
  have l_u := jO_len h1
  have c_u := c_xOperand u h1 (by unfold LW; omega)
  have cb := hth (by unfold LW; omega)
  have lb := wt_joined (wBlk th) (wBlk_ne th)
  by_cases he : 0 < el.length
  ·have de : decide ((0 : Int) < (el.length : Nat)) = true := by rw [decide_eq_true_eq]; omega
   have hw : wElse el = [tElse] ++ wBlk el := by
    cases el with
    | nil => simp at he
    | cons e r => rfl
   rw [hw] at hR hz
   rw [show [tIf] ++ (wOpd u ++ (wBlk th ++ ([tElse] ++ wBlk el))) = ([tIf] ++ wOpd u ++ wBlk th ++ [tElse]) ++ wBlk el by simp only [List.append_assoc], joined_app (wBlk_ne el)] at hR
   have ce := hel (by rw [wt_app] at hz; unfold LW; omega)
   have le := wt_joined (wBlk el) (wBlk_ne el)
   simp only [layW, layW_app, wt, wt_app, tIf, tElse, List.length_cons, List.length_nil, layW_opd h1, ← joined_layW (wBlk_ne th)] at hR hz
   generalize jO u = J_u at *
   generalize joined [32] (wBlk th) = Jb at *
   generalize joined [32] (wBlk el) = Je at *
   obtain ⟨Z0, z0, n0, ct0⟩ := cat_ex [105, 102, 32] J_u (by simp only [List.length_cons, List.length_nil]; omega)
   simp only [List.length_cons, List.length_nil] at n0
   obtain ⟨Z1, z1, n1, ct1⟩ := cat_ex Z0 [32] (by simp only [List.length_cons, List.length_nil]; omega)
   simp only [List.length_cons, List.length_nil] at n1
   obtain ⟨Z2, z2, n2, ct2⟩ := cat_ex Z1 Jb (by omega)
   obtain ⟨Z3, z3, n3, ct3⟩ := cat_ex [32, 101, 108, 115, 101, 32] Je (by simp only [List.length_cons, List.length_nil]; omega)
   simp only [List.length_cons, List.length_nil] at n3
   obtain ⟨Z4, z4, n4, ct4⟩ := cat_ex Z2 Z3 (by omega)
   have hT : Z4 = R := by rw [z4, z3, z2, z1, z0, ← hR]; simp only [List.append_assoc, List.cons_append, List.nil_append]
   subst hT
   simp only [go_sem, simprocAttr, List.map_cons, List.map_nil, List.length_map, i0, rs, c_u, cb, ct0, ct1, ct2]
   refine W_draw [(1, 8), (3, 8), (4, 8)] (by kernel_rfl) ?_
   simp only [go_sem, simprocAttr, List.map_cons, List.map_nil, List.length_map, i0, rs, c_u, cb, ce, de, ct0, ct1, ct2, ct3, ct4]
  ·have de : decide ((0 : Int) < (el.length : Nat)) = false := by rw [decide_eq_false_iff_not]; omega
   have hw : wElse el = [] := by
    cases el with
    | nil => rfl
    | cons e r => simp at he
   rw [hw] at hR hz
   rw [show [tIf] ++ (wOpd u ++ (wBlk th ++ [])) = ([tIf] ++ wOpd u) ++ wBlk th by simp only [List.append_assoc, List.append_nil], joined_app (wBlk_ne th)] at hR
   simp only [layW, layW_app, wt, wt_app, tIf, List.length_cons, List.length_nil, layW_opd h1] at hR hz
   generalize jO u = J_u at *
   generalize joined [32] (wBlk th) = Jb at *
   obtain ⟨Z0, z0, n0, ct0⟩ := cat_ex [105, 102, 32] J_u (by simp only [List.length_cons, List.length_nil]; omega)
   simp only [List.length_cons, List.length_nil] at n0
   obtain ⟨Z1, z1, n1, ct1⟩ := cat_ex Z0 [32] (by simp only [List.length_cons, List.length_nil]; omega)
   simp only [List.length_cons, List.length_nil] at n1
   obtain ⟨Z2, z2, n2, ct2⟩ := cat_ex Z1 Jb (by omega)
   have hT : Z2 = R := by rw [z2, z1, z0, ← hR]; simp only [List.append_assoc, List.cons_append, List.nil_append]
   subst hT
   simp only [go_sem, simprocAttr, List.map_cons, List.map_nil, List.length_map, i0, rs, c_u, cb, ct0, ct1, ct2]
   refine W_draw [(1, 8), (3, 8), (4, 8)] (by kernel_rfl) ?_
   simp only [go_sem, simprocAttr, List.map_cons, List.map_nil, List.length_map, i0, rs, c_u, cb, de, ct0, ct1, ct2]
 | new _ _ b u h1 h2 h3 h4 h5 =>
  have hps := props_words (u := u) h5
  have hws : wStmt (.mk 4 x [] [] (b ++ [u]) ps [] []) = ((x :: [61] :: tNew :: [[123]]) ++ wList (wProp ps (b ++ [u])) ps.length ++ ([125] :: tProto :: wOpd u)) ++ [[59]] := by
   rw [words_new h5, hps]
   simp only [List.append_assoc, List.cons_append, List.nil_append]
  rw [hws, wt_app, wt_app, wt_app] at hz
  rw [hws, joined_last] at hR
  clear hws hps
  have l_u := jO_len h4
  have hpl := wList_len (wProp ps (b ++ [u])) ps.length
  have hpw := wt_sum (wList (wProp ps (b ++ [u])) ps.length)
  simp only [layW, layW_app, tNew, tProto, wt, wt_app, List.length_cons, List.length_nil, layW_opd h4, List.append_assoc, List.cons_append, List.nil_append] at hR hz
  have c_u := c_xOperand u h4 (by unfold LW; omega)
  have hab : (b ++ [u]).length = ps.length + 1 := by simp [h5]
  have hall : (b ++ [u]).all rightO = true := by rw [List.all_append, h3]; simp [h4]
  have hlu : (b ++ [u]).getD ps.length ⟨0, 0, []⟩ = u := by rw [← h5, List.getD_eq_getElem?_getD]; simp
  have hau := iad_encOpd (t := 50) (bs := 32) (o := .sh) (l := b ++ [u]) (i := ps.length) (by omega)
  rw [hlu] at hau
  generalize b ++ [u] = A at *
  obtain ⟨X, z0, n0, ct0⟩ := cat_ex x [32, 61, 32, 110, 101, 119, 32, 123, 32] (by simp only [List.length_cons, List.length_nil]; omega)
  simp only [List.length_cons, List.length_nil] at n0
  simp only [go_sem, simprocAttr, List.length_map, rs, ct0]
  refine W_loop_ind (fun k e H => ∃ (i : Nat) (Z : Wd), k = ps.length - i ∧ i ≤ ps.length ∧ Z = X ++ layW (wList (wProp ps A) i) ∧ gget .bad e 1 = .ptr 0 0 ∧ gget .bad e 3 = .lit (.string (ba Z)) ∧ gget .bad e 4 = .lit (.int .i64 (i : Nat)) ∧
    H.get 0 = some [.lit (.int .i64 4), .lit (.string (ba x)), .lit (.string (ba [])), .lit (.string (ba [])), .sl .sh (A.map encOpd), .sl .sh (ps.map encStr), .sl .sh [], .sl .sh []])
   ps.length ⟨0, X, rfl, by omega, by simp only [wList, layW, List.append_nil], by simp only [go_sem, simprocAttr], by simp only [go_sem, simprocAttr], by simp only [go_sem, simprocAttr] <;> rfl, by simp only [go_sem, simprocAttr] <;> rfl⟩ ?_
  rintro k ihk e H ⟨i, Z, rfl, hle, hZ, h1, h3, h4, g⟩
  have hZl : Z.length = X.length + wt (wList (wProp ps A) i) := by rw [hZ, List.length_append, layW_len]
  by_cases hlt : i < ps.length
  ·have hlt' : decide ((i : Int) < (ps.length : Nat)) = true := by rw [decide_eq_true_eq]; omega
   have ha := iad_encOpd (t := 50) (bs := 32) (o := .sh) (l := A) (i := i) (by omega)
   have hp := iad_encStr (t := 9) (bs := 16) (o := .sh) hlt
   have hw1 := wrap1 (show i + 1 ≤ 9223372036854775807 by omega)
   have hr := get_right hall (show i < A.length by omega)
   have hm := wt_list_le (wProp ps A) (show i + 1 ≤ ps.length by omega)
   rw [wt_list_succ] at hm
   have hls := layW_list_succ (wProp ps A) i
   have hoo : wProp ps A i = [ps.getD i [], [58]] ++ wOpd (A.getD i ⟨0, 0, []⟩) := rfl
   rw [hoo] at hm hls
   generalize A.getD i ⟨0, 0, []⟩ = v at *
   generalize ps.getD i [] = q at *
   simp only [encStr] at hp
   rw [layW_app, layW_opd hr] at hls
   simp only [wt_app, wt, layW, List.length_cons, List.length_nil] at hm hls
   have co := c_xOperand v hr (by unfold LW; omega)
   have hjx := jO_len hr
   generalize jO v = J at *
   obtain ⟨Z1, z1, n1, ct1⟩ := cat_ex q [32, 58, 32] (by simp only [List.length_cons, List.length_nil]; omega)
   simp only [List.length_cons, List.length_nil] at n1
   obtain ⟨Z2, z2, n2, ct2⟩ := cat_ex Z1 J (by omega)
   obtain ⟨Z3, z3, n3, ct3⟩ := cat_ex Z2 [32] (by simp only [List.length_cons, List.length_nil]; omega)
   simp only [List.length_cons, List.length_nil] at n3
   by_cases hi : 0 < i
   ·have d2 : decide (0 < (i : Int)) = true := by rw [decide_eq_true_eq]; omega
    rw [if_pos hi] at hls hm
    obtain ⟨Z4, z4, n4, ct4⟩ := cat_ex Z [44, 32] (by simp only [List.length_cons, List.length_nil]; omega)
    simp only [List.length_cons, List.length_nil] at n4
    obtain ⟨Z5, z5, n5, ct5⟩ := cat_ex Z4 Z3 (by omega)
    simp only [go_sem, simprocAttr, h1, h3, h4, g, List.length_map, hlt', d2, ct4]
    refine W_draw [(2, 8), (5, 8), (2, 11), (5, 11), (2, 12), (5, 12)] (by kernel_rfl) ?_
    simp only [go_sem, simprocAttr, h1, h3, h4, g, List.length_map, ha, hp, co, ct1, ct2, ct3, ct5, hw1]
    exact ihk _ (by omega) _ _ ⟨i + 1, Z5, rfl, by omega, by rw [z5, z4, z3, z2, z1, hZ, hls]; simp only [List.append_assoc, List.cons_append, List.nil_append], by simp only [go_sem, simprocAttr, h1], by simp only [go_sem, simprocAttr], by simp only [go_sem, simprocAttr], g⟩
   ·have d2 : decide (0 < (i : Int)) = false := by rw [decide_eq_false_iff_not]; omega
    rw [if_neg hi] at hls hm
    obtain ⟨Z5, z5, n5, ct5⟩ := cat_ex Z Z3 (by omega)
    simp only [go_sem, simprocAttr, h1, h3, h4, g, List.length_map, hlt', d2]
    refine W_draw [(2, 8), (5, 8), (2, 11), (5, 11), (2, 12), (5, 12)] (by kernel_rfl) ?_
    simp only [go_sem, simprocAttr, h1, h3, h4, g, List.length_map, ha, hp, co, ct1, ct2, ct3, ct5, hw1]
    exact ihk _ (by omega) _ _ ⟨i + 1, Z5, rfl, by omega, by rw [z5, z3, z2, z1, hZ, hls]; simp only [List.append_assoc, List.cons_append, List.nil_append], by simp only [go_sem, simprocAttr, h1], by simp only [go_sem, simprocAttr], by simp only [go_sem, simprocAttr], g⟩
  ·obtain rfl : i = ps.length := by omega
   have hlt' : decide (((ps.length : Nat) : Int) < (ps.length : Nat)) = false := by simp
   generalize jO u = J_u at *
   obtain ⟨Z1, z1, n1, ct1⟩ := cat_ex Z [125, 32, 112, 114, 111, 116, 111, 32] (by simp only [List.length_cons, List.length_nil]; omega)
   simp only [List.length_cons, List.length_nil] at n1
   obtain ⟨Z2, z2, n2, ct2⟩ := cat_ex Z1 J_u (by omega)
   obtain ⟨Z3, z3, n3, ct3⟩ := cat_ex Z2 [32, 59] (by simp only [List.length_cons, List.length_nil]; omega)
   have hT : Z3 = R := by rw [z3, z2, z1, hZ, z0, ← hR]; simp only [List.append_assoc, List.cons_append, List.nil_append]
   subst hT
   simp only [go_sem, simprocAttr, h1, h3, h4, g, List.length_map, hlt', hau, c_u, ct1, ct2, ct3, rs]
mutual
theorem c_xTx : ∀ (s : GStmt) (d : Nat), rightS s d = true → TxA s
 | .mk op x y p a ps th el, d, h => by
  have hs := shape_of h
  have k : rightL th (d - 1) = true ∧ rightL el (d - 1) = true := by
   cases hs with
   | if_ _ _ _ _ _ h1 h2 => exact ⟨h1, h2⟩
   | while_ _ _ _ _ h1 => exact ⟨h1, rfl⟩
   | _ => exact ⟨rfl, rfl⟩
  exact txa_of op x y p a ps th el d h (bka_of th (c_xTxs th (d - 1) k.1)) (bka_of el (c_xTxs el (d - 1) k.2))
theorem c_xTxs : ∀ (l : List GStmt) (d : Nat), rightL l d = true → ∀ s ∈ l, TxA s
 | [], _, _, s, hs => by cases hs
 | g :: l, d, h, s, hs => by
  simp only [rightL, Bool.and_eq_true] at h
  rcases List.mem_cons.1 hs with h1 | hs
  ·rw [h1]; exact c_xTx g d h.1
  ·exact c_xTxs l d h.2 s hs
end
theorem c_xBlock (l : List GStmt) (d : Nat) (h : rightL l d = true) : BkA l := bka_of l (c_xTxs l d h)
end Go.Proofs.YtghhkbigmmjanaaGreatDoor.VA

/-! Qc6 -/
namespace Go.Proofs.YtghhkbigmmjanaaGreatDoor.VA
open Go Go.RowKit
attribute [local go_sem] Nat.add_eq_left Nat.left_eq_add true_and and_true ite_true if_false Int.cast_ofNat_Int eq_self Nat.add_assoc Option.some.injEq decide_true decide_false Bool.not_true Bool.not_false List.size_toArray List.length_cons List.length_nil
set_option linter.unusedSimpArgs false
set_option maxRecDepth 100000

theorem speltF_eq (nm : Wd) (ps : List Wd) (bd : List GStmt) : speltF ⟨nm, ps, bd⟩ = tFun ++ [32] ++ nm ++ [32, 40, 32] ++ layW (wList (wPar ps) ps.length) ++ [41, 32] ++ joined [32] (wBlk bd) ++ [10] := by
 have e : wFunc ⟨nm, ps, bd⟩ = ([tFun, nm, [40]] ++ wList (wPar ps) ps.length ++ [[41]]) ++ wBlk bd := by simp only [wFunc, List.append_assoc]
 rw [speltF, e, joined_app (wBlk_ne bd)]
 simp only [layW_app, layW, List.append_assoc, List.cons_append, List.nil_append]
set_option maxHeartbeats 1000000 in
set_option maxRecDepth 20000 in
theorem c_xSpelt (fs : List GFunc) (hr : rightP fs = true) (hz : (spelt fs).length ≤ SZ) (o : Own) (H : Heap) :
  calls Tryz.prog cfg 42 [.agg [.sl o (fs.map encFunc)]] H = some (.ret (.lit (.string (ba (spelt fs)))) H) := by
 unfold SZ at hz
 have hall := List.all_eq_true.1 hr
 have hlen : ∀ gs : List GFunc, gs.length ≤ (spelt gs).length := by
  intro gs
  induction gs with
  | nil => exact Nat.zero_le _
  | cons g gs ih => simp only [spelt, speltF, List.length_append, List.length_cons, List.length_nil]; omega
 have hfl := hlen fs
 clear hlen
 refine calls_pure (fn := Tryz.f42) rfl rfl rfl rfl rfl ?_ H
 have rs : Tryz.f42.results.toList = [.tmp 2] := rfl
 simp only [go_sem, simprocAttr]
 refine W_loop_ind (fun k e H => ∃ i : Nat, k = fs.length - i ∧ i ≤ fs.length ∧ gget .bad e 1 = .ptr 0 0 ∧ gget .bad e 3 = .lit (.string (ba (spelt (fs.take i)))) ∧ gget .bad e 4 = .lit (.int .i64 (i : Nat)) ∧ H.get 0 = some [.sl .sh (fs.map encFunc)] ∧ 0 < H.next)
  fs.length ⟨0, rfl, by omega, by simp only [go_sem, simprocAttr], by simp only [go_sem, simprocAttr] <;> rfl, by simp only [go_sem, simprocAttr] <;> rfl, by simp only [go_sem, simprocAttr] <;> rfl, by simp only [go_sem, simprocAttr] <;> omega⟩ ?_
 rintro k ihk e H ⟨i, rfl, hle, h1, h3, h4, g, hn⟩
 obtain ⟨m, hm⟩ : ∃ m, H.next = m := ⟨_, rfl⟩
 rw [hm] at hn
 by_cases hlt : i < fs.length
 ·have hlt' : decide ((i : Int) < (fs.length : Nat)) = true := by rw [decide_eq_true_eq]; omega
  have ha := iad_encFunc (t := 42) (bs := 64) (o := .sh) hlt
  have htk := take_succ' (⟨[], [], []⟩ : GFunc) hlt
  have hsp : fs = fs.take (i + 1) ++ fs.drop (i + 1) := (List.take_append_drop _ _).symm
  have hw1 := wrap1 (show i + 1 ≤ 9223372036854775807 by omega)
  have hmo : (spelt (fs.take (i + 1))).length ≤ (spelt fs).length := by
   have := congrArg (fun x => (spelt x).length) hsp
   simp only [spelt_app, List.length_append] at this
   omega
  have hs1 : spelt (fs.take (i + 1)) = spelt (fs.take i) ++ speltF (fs.getD i ⟨[], [], []⟩) := by rw [htk, spelt_app]; simp only [spelt, List.append_nil]
  have hx := hall (fs.getD i ⟨[], [], []⟩) (by rw [List.getD_eq_getElem?_getD, List.getElem?_eq_getElem hlt]; exact List.getElem_mem hlt)
  rw [hs1, List.length_append] at hmo
  generalize fs.getD i ⟨[], [], []⟩ = x at *
  obtain ⟨nm, ps, bd⟩ := x
  rw [speltF_len, wt_func] at hmo
  rw [speltF_eq] at hs1
  simp only [rightF, Bool.and_eq_true] at hx
  have cb := fun o H => c_xBlock bd 31 hx.2.1 (by unfold LW; omega) o H
  have lb := wt_joined (wBlk bd) (wBlk_ne bd)
  generalize joined [32] (wBlk bd) = B at *
  have hpl := wList_len (wPar ps) ps.length
  have hpw := wt_sum (wList (wPar ps) ps.length)
  generalize hY : spelt (fs.take i) = Y at *
  obtain ⟨Z0, z0, n0, ct0⟩ := cat_ex [102, 117, 110, 32] nm (by simp only [List.length_cons, List.length_nil]; omega)
  simp only [List.length_cons, List.length_nil] at n0
  obtain ⟨Z1, z1, n1, ct1⟩ := cat_ex Z0 [32, 40, 32] (by simp only [List.length_cons, List.length_nil]; omega)
  simp only [List.length_cons, List.length_nil] at n1
  obtain ⟨Z2, z2, n2, ct2⟩ := cat_ex Y Z1 (by omega)
  have d0 : ¬ m = 0 := by omega
  have d0' : ¬ 0 = m := by omega
  simp only [encFunc] at ha
  simp only [go_sem, simprocAttr, h1, h3, h4, g, hm, List.length_map, hlt', ha, ct0, ct1, ct2]
  refine W_loop_ind (fun k e H => ∃ (j : Nat) (Z : Wd), k = ps.length - j ∧ j ≤ ps.length ∧ Z = Z2 ++ layW (wList (wPar ps) j) ∧ gget .bad e 1 = .ptr 0 0 ∧ gget .bad e 3 = .lit (.string (ba Z)) ∧ gget .bad e 4 = .lit (.int .i64 (i : Nat)) ∧ gget .bad e 5 = .ptr (m + 10) 0 ∧ gget .bad e 6 = .lit (.int .i64 (j : Nat)) ∧
    H.get 0 = some [.sl .sh (fs.map encFunc)] ∧ H.get (m + 10) = some [.lit (.string (ba nm)), .sl .sh (ps.map encStr), .sl .sh (bd.map encStmt)] ∧ 0 < H.next)
   ps.length ⟨0, Z2, rfl, by omega, by simp only [wList, layW, List.append_nil], by simp only [go_sem, simprocAttr, h1], by simp only [go_sem, simprocAttr], by simp only [go_sem, simprocAttr, h4], by simp only [go_sem, simprocAttr], by simp only [go_sem, simprocAttr] <;> rfl, by simp only [go_sem, simprocAttr, g] <;> rfl, by simp only [go_sem, simprocAttr] <;> rfl, by simp only [go_sem, simprocAttr] <;> omega⟩ ?_
  clear h1 h3 h4 g hm
  rintro k ihj e H ⟨j, Z, rfl, hjl, hZ, h1, h3, h4, h5, h6, g, g5, hn'⟩
  have hZl : Z.length = Z2.length + wt (wList (wPar ps) j) := by rw [hZ, List.length_append, layW_len]
  by_cases hjt : j < ps.length
  ·have hjt' : decide ((j : Int) < (ps.length : Nat)) = true := by rw [decide_eq_true_eq]; omega
   have hp := iad_encStr (t := 9) (bs := 16) (o := .sh) hjt
   have hw2 := wrap1 (show j + 1 ≤ 9223372036854775807 by omega)
   have hm' := wt_list_le (wPar ps) (show j + 1 ≤ ps.length by omega)
   rw [wt_list_succ] at hm'
   have hls := layW_list_succ (wPar ps) j
   have hoo : wPar ps j = [ps.getD j []] := rfl
   rw [hoo] at hm' hls
   generalize ps.getD j [] = q at *
   simp only [encStr] at hp
   simp only [wt, layW] at hm' hls
   obtain ⟨Z3, z3, n3, ct3⟩ := cat_ex q [32] (by simp only [List.length_cons, List.length_nil]; omega)
   simp only [List.length_cons, List.length_nil] at n3
   by_cases hj0 : 0 < j
   ·have d2 : decide (0 < (j : Int)) = true := by rw [decide_eq_true_eq]; omega
    rw [if_pos hj0] at hls hm'
    obtain ⟨Z4, z4, n4, ct4⟩ := cat_ex Z [44, 32] (by simp only [List.length_cons, List.length_nil]; omega)
    simp only [List.length_cons, List.length_nil] at n4
    obtain ⟨Z5, z5, n5, ct5⟩ := cat_ex Z4 Z3 (by omega)
    simp only [go_sem, simprocAttr, h1, h3, h4, h5, h6, g, g5, List.length_map, hjt', hp, d2, ct3, ct4, ct5, hw2]
    exact ihj _ (by omega) _ _ ⟨j + 1, Z5, rfl, by omega, by rw [z5, z4, z3, hZ, hls]; simp only [List.append_assoc, List.cons_append, List.nil_append], by simp only [go_sem, simprocAttr, h1], by simp only [go_sem, simprocAttr], by simp only [go_sem, simprocAttr, h4], by simp only [go_sem, simprocAttr, h5], by simp only [go_sem, simprocAttr], g, g5, by simp only [go_sem, simprocAttr] <;> omega⟩
   ·have d2 : decide (0 < (j : Int)) = false := by rw [decide_eq_false_iff_not]; omega
    rw [if_neg hj0] at hls hm'
    obtain ⟨Z5, z5, n5, ct5⟩ := cat_ex Z Z3 (by omega)
    simp only [go_sem, simprocAttr, h1, h3, h4, h5, h6, g, g5, List.length_map, hjt', hp, d2, ct3, ct5, hw2]
    exact ihj _ (by omega) _ _ ⟨j + 1, Z5, rfl, by omega, by rw [z5, z3, hZ, hls]; simp only [List.append_assoc, List.cons_append, List.nil_append], by simp only [go_sem, simprocAttr, h1], by simp only [go_sem, simprocAttr], by simp only [go_sem, simprocAttr, h4], by simp only [go_sem, simprocAttr, h5], by simp only [go_sem, simprocAttr], g, g5, by simp only [go_sem, simprocAttr] <;> omega⟩
  ·obtain rfl : j = ps.length := by omega
   have hjt' : decide (((ps.length : Nat) : Int) < (ps.length : Nat)) = false := by simp
   obtain ⟨Z3, z3, n3, ct3⟩ := cat_ex [41, 32] B (by simp only [List.length_cons, List.length_nil]; omega)
   simp only [List.length_cons, List.length_nil] at n3
   obtain ⟨Z4, z4, n4, ct4⟩ := cat_ex Z3 [10] (by simp only [List.length_cons, List.length_nil]; omega)
   simp only [List.length_cons, List.length_nil] at n4
   obtain ⟨Z5, z5, n5, ct5⟩ := cat_ex Z Z4 (by omega)
   have hT : Z5 = spelt (fs.take (i + 1)) := by
    rw [z5, z4, z3, hZ, z2, z1, z0, hs1]
    simp only [tFun, List.append_assoc, List.cons_append, List.nil_append]
   simp only [go_sem, simprocAttr, h1, h3, h4, h5, h6, g, g5, List.length_map, hjt', cb, ct3, ct4, ct5, hw1]
   exact ihk _ (by omega) _ _ ⟨i + 1, rfl, by omega, by simp only [go_sem, simprocAttr, h1], by simp only [go_sem, simprocAttr, hT], by simp only [go_sem, simprocAttr], g, by simp only [go_sem, simprocAttr] <;> omega⟩
 ·obtain rfl : i = fs.length := by omega
  have hlt' : decide (((fs.length : Nat) : Int) < (fs.length : Nat)) = false := by simp
  rw [List.take_length] at h3
  simp only [go_sem, simprocAttr, h1, h3, h4, g, hm, List.length_map, hlt', rs]
end Go.Proofs.YtghhkbigmmjanaaGreatDoor.VA

/-! Qc7 -/
namespace Go.Proofs.YtghhkbigmmjanaaGreatDoor.VA
open Go Go.RowKit
attribute [local go_sem] Nat.add_eq_left Nat.left_eq_add true_and and_true ite_true if_false Int.cast_ofNat_Int eq_self Nat.add_assoc Option.some.injEq decide_true decide_false Bool.not_true Bool.not_false List.size_toArray List.length_cons List.length_nil
set_option linter.unusedSimpArgs false
set_option maxRecDepth 100000

set_option maxHeartbeats 1000000 in
set_option maxRecDepth 20000 in
theorem c_xMay (fs : List GFunc) (hf : fitP fs = true) (hc : cntP fs ≤ SZ) (hz : (spelt fs).length ≤ SZ) (o : Own) (H : Heap) :
  calls Tryz.prog cfg 21 [.agg [.sl o (fs.map encFunc)]] H = some (.ret (.lit (.bool (mayR fs))) H) := by
 have hlen : fs.length ≤ BIG := by simp only [fitP, Bool.and_eq_true, decide_eq_true_eq] at hf; exact hf.1
 unfold BIG at hlen
 refine calls_pure (fn := Tryz.f21) rfl rfl rfl rfl rfl ?_ H
 have rs : Tryz.f21.results.toList = [.tmp 2] := rfl
 generalize hR : mayR fs = R
 have bad : ∀ i, i < fs.length → rightF (fs.getD i ⟨[], [], []⟩) = false → R = false := by
  intro i hi hb
  rw [← hR, mayR]
  have : rightP fs = false := by
   cases h : rightP fs with
   | false => rfl
   | true =>
    have := List.all_eq_true.1 h (fs.getD i ⟨[], [], []⟩) (by rw [List.getD_eq_getElem?_getD, List.getElem?_eq_getElem hi]; exact List.getElem_mem hi)
    rw [hb] at this
    cases this
  rw [this, Bool.false_and]
 simp only [go_sem, simprocAttr]
 refine W_loop_ind (fun k e H => ∃ i : Nat, k = fs.length - i ∧ i ≤ fs.length ∧ (fs.take i).all rightF = true ∧ gget .bad e 1 = .ptr 0 0 ∧ gget .bad e 3 = .lit (.int .i64 (cntP (fs.take i) : Nat)) ∧ gget .bad e 4 = .lit (.int .i64 (i : Nat)) ∧ H.get 0 = some [.sl .sh (fs.map encFunc)] ∧ 0 < H.next)
  fs.length ⟨0, rfl, by omega, rfl, by simp only [go_sem, simprocAttr], by simp only [go_sem, simprocAttr] <;> rfl, by simp only [go_sem, simprocAttr] <;> rfl, by simp only [go_sem, simprocAttr] <;> rfl, by simp only [go_sem, simprocAttr] <;> omega⟩ ?_
 rintro k ihk e H ⟨i, rfl, hle, hal, h1, h3, h4, g, hn⟩
 obtain ⟨m, hm⟩ : ∃ m, H.next = m := ⟨_, rfl⟩
 rw [hm] at hn
 by_cases hlt : i < fs.length
 ·have hlt' : decide ((i : Int) < (fs.length : Nat)) = true := by rw [decide_eq_true_eq]; omega
  have ha := iad_encFunc (t := 42) (bs := 64) (o := .sh) hlt
  have hfx := fitP_get hf hlt
  have htk := take_succ' (⟨[], [], []⟩ : GFunc) hlt
  have hsp : fs = fs.take (i + 1) ++ fs.drop (i + 1) := (List.take_append_drop _ _).symm
  have hw1 := wrap1 (show i + 1 ≤ 9223372036854775807 by omega)
  have hmo : cntP (fs.take (i + 1)) ≤ cntP fs := by
   have := congrArg cntP hsp
   rw [cntP_app] at this
   omega
  have hs1 : cntP (fs.take (i + 1)) = cntP (fs.take i) + cntL (fs.getD i ⟨[], [], []⟩).body := by rw [htk, cntP_app]; simp only [cntP, Nat.add_zero]
  have hb := bad i hlt
  have hal1 : rightF (fs.getD i ⟨[], [], []⟩) = true → (fs.take (i + 1)).all rightF = true := by
   intro h
   rw [htk, List.all_append, hal]
   simp only [List.all_cons, List.all_nil, h, Bool.and_self]
  generalize fs.getD i ⟨[], [], []⟩ = x at *
  obtain ⟨nm, ps, bd⟩ := x
  simp only [fitF, Bool.and_eq_true, decide_eq_true_eq] at hfx
  simp only at hs1
  have hpl := hfx.1
  unfold BIG at hpl
  unfold SZ at hc
  have cn := c_rNm nm
  have cb := fun o H => c_rBl bd hfx.2.1 hfx.2.2 31 (by omega) o H
  have cc := fun o H => c_rCount bd (by unfold SZ; omega) o H
  simp only [Int.cast_ofNat_Int] at cb
  have w3 := wrapN (show cntP (fs.take i) + cntL bd ≤ 9223372036854775807 by omega)
  have d0 : ¬ m = 0 := by omega
  have d0' : ¬ 0 = m := by omega
  simp only [encFunc] at ha
  simp only [rightF] at hb hal1
  cases bn : nameW nm with
  | false =>
   have hR' : R = false := hb (by rw [bn]; rfl)
   rw [bn] at cn
   simp only [go_sem, simprocAttr, h1, h3, h4, g, hm, List.length_map, hlt', ha, cn, rs, hR']
  | true =>
  cases bb : rightL bd 31 with
  | false =>
   have hR' : R = false := hb (by rw [bb, Bool.false_and, Bool.and_false])
   rw [bn] at cn
   rw [bb] at cb
   simp only [go_sem, simprocAttr, h1, h3, h4, g, hm, List.length_map, hlt', ha, cn, cb, rs, hR']
  | true =>
  rw [bn, bb, Bool.true_and, Bool.true_and] at hb hal1
  rw [bn] at cn
  rw [bb] at cb
  simp only [go_sem, simprocAttr, h1, h3, h4, g, hm, List.length_map, hlt', ha, cn, cb]
  refine W_loop_ind (fun k e H => ∃ (j : Nat), k = ps.length - j ∧ j ≤ ps.length ∧ (ps.drop j).all nameW = ps.all nameW ∧ gget .bad e 1 = .ptr 0 0 ∧ gget .bad e 3 = .lit (.int .i64 (cntP (fs.take i) : Nat)) ∧ gget .bad e 4 = .lit (.int .i64 (i : Nat)) ∧ gget .bad e 5 = .ptr (m + 10) 0 ∧ gget .bad e 6 = .lit (.int .i64 (j : Nat)) ∧
    H.get 0 = some [.sl .sh (fs.map encFunc)] ∧ H.get (m + 10) = some [.lit (.string (ba nm)), .sl .sh (ps.map encStr), .sl .sh (bd.map encStmt)] ∧ 0 < H.next)
   ps.length ⟨0, rfl, by omega, rfl, by simp only [go_sem, simprocAttr, h1], by simp only [go_sem, simprocAttr, h3], by simp only [go_sem, simprocAttr, h4], by simp only [go_sem, simprocAttr], by simp only [go_sem, simprocAttr] <;> rfl, by simp only [go_sem, simprocAttr, g] <;> rfl, by simp only [go_sem, simprocAttr] <;> rfl, by simp only [go_sem, simprocAttr] <;> omega⟩ ?_
  clear h1 h3 h4 g hm
  rintro k ihj e H ⟨j, rfl, hjl, hjp, h1, h3, h4, h5, h6, g, g5, hn'⟩
  by_cases hjt : j < ps.length
  ·have hjt' : decide ((j : Int) < (ps.length : Nat)) = true := by rw [decide_eq_true_eq]; omega
   have hp := iad_encStr (t := 9) (bs := 16) (o := .sh) hjt
   have hw2 := wrap1 (show j + 1 ≤ 9223372036854775807 by omega)
   rw [drop_cons' [] hjt, List.all_cons] at hjp
   generalize ps.getD j [] = q at *
   have cq := c_rNm q
   simp only [encStr] at hp
   cases bq : nameW q with
   | false =>
    rw [bq] at cq hjp
    have hR' : R = false := hb (by rw [← hjp]; rfl)
    simp only [go_sem, simprocAttr, h1, h3, h4, h5, h6, g, g5, List.length_map, hjt', hp, cq, rs, hR']
   | true =>
    rw [bq] at cq hjp
    simp only [go_sem, simprocAttr, h1, h3, h4, h5, h6, g, g5, List.length_map, hjt', hp, cq, hw2]
    exact ihj _ (by omega) _ _ ⟨j + 1, rfl, by omega, by rw [← hjp, Bool.true_and], by simp only [go_sem, simprocAttr, h1], by simp only [go_sem, simprocAttr, h3], by simp only [go_sem, simprocAttr, h4], by simp only [go_sem, simprocAttr, h5], by simp only [go_sem, simprocAttr], g, g5, by simp only [go_sem, simprocAttr] <;> omega⟩
  ·obtain rfl : j = ps.length := by omega
   have hjt' : decide (((ps.length : Nat) : Int) < (ps.length : Nat)) = false := by simp
   have hall : ps.all nameW = true := by rw [← hjp, List.drop_of_length_le (by omega)]; rfl
   simp only [go_sem, simprocAttr, h1, h3, h4, h5, h6, g, g5, List.length_map, hjt', cc, w3, hw1]
   exact ihk _ (by omega) _ _ ⟨i + 1, rfl, by omega, hal1 hall, by simp only [go_sem, simprocAttr, h1], by simp only [go_sem, simprocAttr, hs1], by simp only [go_sem, simprocAttr], g, by simp only [go_sem, simprocAttr] <;> omega⟩
 ·obtain rfl : i = fs.length := by omega
  have hlt' : decide (((fs.length : Nat) : Int) < (fs.length : Nat)) = false := by simp
  rw [List.take_length] at h3 hal
  have hrp : rightP fs = true := hal
  have cs := fun o H => c_xSpelt fs hrp hz o H
  rw [mayR, hrp, Bool.true_and] at hR
  have q1 : decide (((cntP fs : Nat) : Int) ≤ 2000) = decide (cntP fs ≤ 2000) := by rw [Bool.eq_iff_iff]; simp; omega
  have q2 : decide ((((spelt fs).length : Nat) : Int) ≤ 65536) = decide ((spelt fs).length ≤ 65536) := by rw [Bool.eq_iff_iff]; simp; omega
  cases b1 : decide (cntP fs ≤ 2000) with
  | false =>
   have hR' : R = false := by rw [← hR, b1]; rfl
   simp only [go_sem, simprocAttr, h1, h3, h4, g, hm, List.length_map, hlt', rs, q1, b1, hR']
  | true =>
  cases b2 : decide ((spelt fs).length ≤ 65536) with
  | false =>
   have hR' : R = false := by rw [← hR, b1, b2]; rfl
   generalize spelt fs = S at *
   simp only [go_sem, simprocAttr, h1, h3, h4, g, hm, List.length_map, hlt', rs, q1, b1, cs, ba_size, q2, b2, hR']
  | true =>
   have hR' : R = true := by rw [← hR, b1, b2]; rfl
   generalize spelt fs = S at *
   simp only [go_sem, simprocAttr, h1, h3, h4, g, hm, List.length_map, hlt', rs, q1, b1, cs, ba_size, q2, b2, hR']
theorem c_xProgram (fs : List GFunc) (hf : fitP fs = true) (hc : cntP fs ≤ SZ) (hz : (spelt fs).length ≤ SZ) (o : Own) (H : Heap) :
  calls Tryz.prog cfg 23 [.agg [.sl o (fs.map encFunc)]] H = some (.ret (.lit (.string (ba (progR fs)))) H) := by
 refine calls_pure (fn := Tryz.f23) rfl rfl rfl rfl rfl ?_ H
 have rs : Tryz.f23.results.toList = [.tmp 2] := rfl
 have h2 := fun o H => c_xMay fs hf hc hz o H
 unfold progR
 cases hM : mayR fs with
 | true =>
  have hr : rightP fs = true := by rw [mayR, Bool.and_eq_true] at hM; exact hM.1
  have h1 := fun o H => c_xSpelt fs hr hz o H
  rw [hM] at h2
  generalize spelt fs = s at *
  simp only [go_sem, simprocAttr, rs, h1, h2]
 | false =>
  rw [hM] at h2
  simp only [go_sem, simprocAttr, rs, h2]
set_option maxRecDepth 20000 in
theorem c_xStmt (s : GStmt) (hf : fitS s = true) (hc : cntS s ≤ SZ) (hz : (spelt (wd1 s)).length ≤ SZ) (H : Heap) :
  calls Tryz.prog cfg 25 [.agg (encStmt s)] H = some (.ret (.lit (.string (ba (stmtR s)))) H) := by
 refine calls_pure (fn := Tryz.f25) rfl rfl rfl rfl rfl ?_ H
 have rs : Tryz.f25.results.toList = [.tmp 2] := rfl
 have hfw : fitP (wd1 s) = true := by simp [fitP, fitF, wd1, fitSs, hf, BIG]
 have hcw : cntP (wd1 s) ≤ SZ := by simpa [cntP, cntL, wd1] using hc
 have h2 := fun H => calls_of_san (c := cfg) (f := 21) rfl (san_wd s) (c_xMay (wd1 s) hfw hcw hz .sh H)
 have b1 := bs1_wd s
 have hwl : wt (wStmt s) ≤ LW := by
  have h1 : (spelt (wd1 s)).length = wt (wFunc ⟨[102], [], [s]⟩) := by rw [spelt_wt]; simp only [wProg, wd1, List.append_nil]
  rw [wt_func, wt_blk] at h1
  simp only [wStmts, List.append_nil] at h1
  unfold SZ at hz
  unfold LW
  omega
 unfold stmtR
 cases hM : mayR (wd1 s) with
 | false =>
  rw [hM] at h2
  simp only [go_sem, simprocAttr, rs, b1, h2]
 | true =>
  rw [hM] at h2
  have hr : rightS s 31 = true := by
   rw [mayR, Bool.and_eq_true] at hM
   have := hM.1
   simp only [rightP, wd1, List.all_cons, List.all_nil, Bool.and_true, rightF, rightL, Bool.and_eq_true] at this
   exact this.2
  have h1 := c_xTx s 31 hr hwl
  simp only [go_sem, simprocAttr, rs, b1, h2, h1]
end Go.Proofs.YtghhkbigmmjanaaGreatDoor.VA

/-! Qd1 -/
namespace Go.Proofs.YtghhkbigmmjanaaGreatDoor.VA
open Go Go.RowKit
attribute [local go_sem] Nat.add_eq_left Nat.left_eq_add true_and and_true ite_true if_false Int.cast_ofNat_Int eq_self Nat.add_assoc Option.some.injEq decide_true decide_false Bool.not_true Bool.not_false List.size_toArray List.length_cons List.length_nil
set_option linter.unusedSimpArgs false
set_option maxRecDepth 100000

set_option maxRecDepth 20000 in
theorem print_tells (fs : List GFunc) (hF : Fine fs) (o : Own) (H : Heap) : calls Tryz.prog cfg2 5 [.agg [.sl o (fs.map encFunc)]] H = some (.ret (.lit (.bool true)) H) := by
 refine calls_pure (fn := Tryz.f5) rfl rfl rfl rfl rfl ?_ H
 have rs : Tryz.f5.results.toList = [.tmp 2] := rfl
 have h0 := c_fixed3
 have h1 := fun o H => up (c_rBig fs hF.fit hF.sum o H)
 cases hB : bigI fs with
 | true =>
  rw [hB] at h1
  simp only [go_sem, simprocAttr, rs, h0, h1]
 | false =>
  rw [hB] at h1
  have h2 := fun o H => c_pMay fs hF.ok hF.fit hF.len o H
  have h3 := fun o H => up (c_xMay fs hF.fit hF.cnt hF.len o H)
  have h4 := fun o H => c_pProgram fs hF.ok hF.fit hF.len o H
  have h5 := fun o H => up (c_xProgram fs hF.fit hF.cnt hF.len o H)
  rw [may_eq hF.fit] at h2
  rw [prog_eq hF.fit] at h4
  generalize mayR fs = M at *
  generalize progR fs = T at *
  cases M with
  | true =>
   simp only [go_sem, simprocAttr, rs, h0, h1]
   refine W_draw [(2, 4), (3, 4), (9, 11), (10, 11)] (by kernel_rfl) ?_
   simp only [go_sem, simprocAttr, rs, imp_2, h0, h2, h3, h4, h5, bb_t, bb_f]
  | false =>
   simp only [go_sem, simprocAttr, rs, h0, h1]
   refine W_draw [(2, 4), (3, 4), (9, 11), (10, 11)] (by kernel_rfl) ?_
   simp only [go_sem, simprocAttr, rs, imp_2, h0, h2, h3, h4, h5, bb_t, bb_f]
theorem bs1_fn (s : GStmt) : aBuildSlice Tryz.prog 22 1 [(0, .agg [.lit (.string (ba [])), .sl .nil [], .sl .ex [encStmt s]])] = some (.sl .ex [[.lit (.string (ba [])), .sl .nil [], .sl .ex [encStmt s]]]) :=
 build1 el_sFun (by decide) zr_fun rfl rfl _ rfl rfl
def wd0 (s : GStmt) : List GFunc := [⟨[], [], [s]⟩]
theorem san_wd0 (s : GStmt) : sanL [.agg [.sl .sh ((wd0 s).map encFunc)]] = sanL [.agg [.sl .ex [[.lit (.string (ba [])), .sl .nil [], .sl .ex [encStmt s]]]]] := by
 simp only [wd0, List.map_cons, List.map_nil, encFunc, go_sem, simprocAttr]
set_option maxRecDepth 20000 in
theorem print_stmts (s : GStmt) (hk : okS s = true) (hf : fitS s = true) (hc : cntS s ≤ SZ) (hz : (spelt (wd1 s)).length ≤ SZ) (H : Heap) : calls Tryz.prog cfg2 6 [.agg (encStmt s)] H = some (.ret (.lit (.bool true)) H) := by
 refine calls_pure (fn := Tryz.f6) rfl rfl rfl rfl rfl ?_ H
 have rs : Tryz.f6.results.toList = [.tmp 2] := rfl
 have h0 := c_fixed3
 have hfw : fitP (wd0 s) = true := by simp [fitP, fitF, wd0, fitSs, hf, BIG]
 have hsw : sumF (wd0 s) ≤ SZ := by simpa [sumF, wd0, cntL] using hc
 have h1 := fun H => calls_of_san (c := cfg2) (f := 18) rfl (san_wd0 s) (up (c_rBig (wd0 s) hfw hsw .sh H))
 have b1 := bs1_stm s
 have b2 := bs1_fn s
 cases hB : bigI (wd0 s) with
 | true =>
  rw [hB] at h1
  simp only [go_sem, simprocAttr, rs, h0, h1, b1, b2]
 | false =>
  rw [hB] at h1
  have h2 := fun H => c_pStmtP s hk hf hz H
  have h3 := fun H => up (c_xStmt s hf hc hz H)
  rw [stmt_eq hf] at h2
  generalize stmtR s = T at *
  simp only [go_sem, simprocAttr, rs, h0, h1, b1, b2]
  refine W_draw [(2, 4), (3, 4)] (by kernel_rfl) ?_
  simp only [go_sem, simprocAttr, rs, imp_2, h0, h2, h3]
end Go.Proofs.YtghhkbigmmjanaaGreatDoor.VA
