/- What is proved: what the reference's value answers, in the abstract interpreter (VA). Condition: no more tokens than a machine holds.
What is proved: what the reference's statements and blocks answer, in the abstract interpreter (VA). Condition: no more tokens than a machine holds.
What is proved: what the reference's reader answers for tokens, in the abstract interpreter (VA). Condition: no more tokens than a machine holds.
What is proved: whether lists of texts and of statements are the same, as the reference tells, in the abstract interpreter (VA). Condition: no list is longer than a counter tells.
What is proved: whether two programs are the same, as the parser tells, in the abstract interpreter (VA). Condition: no list is longer than a counter tells.
What is proved: rules for the parser's functions, which write to the parser and may panic with a fault, in the abstract interpreter (VA). No condition.
What is proved: what the parser's small functions answer, or panic with, in the abstract interpreter (VA). Condition: no more tokens than a machine holds.
What is proved: what the parser's take, need, name and operand answer, or panic with, in the abstract interpreter (VA). Condition: no more tokens than a machine holds.
What is proved: what the parser's operand answers, or panics with, in the abstract interpreter (VA). Condition: no more tokens than a machine holds.
What is proved: what the parser's lists come to, closures and all, in the abstract interpreter (VA). Condition: no more tokens than a machine holds.
What is proved: what the parser's lists of operands and of names come to, in the abstract interpreter (VA). Condition: no more tokens than a machine holds. -/
import Derived.Test.YtghhkbigmmjanaaGreatDoorM5
import Derived.Test.YtghhkbigmmjanaaGreatDoorM3
/-! Pd6 -/
namespace Go.Proofs.YtghhkbigmmjanaaGreatDoor.VA
open Go Go.RowKit
attribute [local go_sem] Nat.add_eq_left Nat.left_eq_add true_and and_true ite_true if_false Int.cast_ofNat_Int eq_self Nat.add_assoc Option.some.injEq decide_true decide_false Bool.not_true Bool.not_false List.size_toArray List.length_cons List.length_nil
set_option linter.unusedSimpArgs false
set_option maxRecDepth 100000

section
variable {l : List GTok} {en : Int}
theorem signsB : aBuildSlice Tryz.prog 37 5 [(0, .lit (.string (ba [43]))), (1, .lit (.string (ba [45]))), (2, .lit (.string (ba [42]))), (3, .lit (.string (ba [60]))), (4, .lit (.string (ba [61])))] = some (.sl .ex (arith.map encStr)) := by kernel_rfl
theorem bs2_opd (o p : Opd) : aBuildSlice Tryz.prog 36 2 [(0, .agg (encOpd o)), (1, .agg (encOpd p))] = some (.sl .ex [encOpd o, encOpd p]) := by
 simp only [aBuildSlice, el_sOpd, zr_opd]
 simp [aFill, encOpd, chunk, AV.cells, AV.one, Value.oneCell', List.replicate]
theorem signOf_drop {s : PS} : ∀ (ts : List (List UInt8)) (i : Nat), (∀ j, j < i → isT l s (ts.getD j []) = false) → signOf l s (ts.drop i) = signOf l s ts
 | [], i, _ => by simp
 | t :: ts, 0, _ => rfl
 | t :: ts, i + 1, h => by
  rw [List.drop_succ_cons, signOf_drop ts i (fun j hj => h (j + 1) (by omega))]
  have h0 : isT l s t = false := h 0 (by omega)
  simp only [signOf, h0]
set_option maxRecDepth 20000 in
theorem c_rValue (hlen : l.length ≤ LM) (s : PS) (H : Heap) : calls Tryz.prog cfg 106 [.agg (cS l en s)] H =
  some (.ret (.tup [.agg (cS l en (value l en s).1), .agg (encStmt (value l en s).2)]) H) := by
 refine calls_pure (fn := Tryz.f106) rfl rfl rfl rfl rfl ?_ H
 have rs : Tryz.f106.results.toList = [.cell 2 80, .cell 3 40] := rfl
 generalize hr : value l en s = r
 unfold value at hr
 have eM : ∀ (op : Int) (x y p : List UInt8) (a : List Opd) (ps : List (List UInt8)), encStmt (.mk op x y p a ps [] []) = [.lit (.int .i64 op), .lit (.string (ba x)), .lit (.string (ba y)), .lit (.string (ba p)), .sl .sh (a.map encOpd), .sl .sh (ps.map encStr), .sl .sh [], .sl .sh []] :=
  fun op x y p a ps => by simp only [encStmt, encStmts]
 cases h1 : isT l s [105, 110] with
 | true =>
  rw [show isT l s tIn = true from h1] at hr
  simp only at hr
  subst hr
  simp only [go_sem, simprocAttr, rs, c_rIs, c_rNeed hlen, h1, need_yes h1, eM, List.map_nil] <;> rfl
 | false =>
 rw [show isT l s tIn = false from h1] at hr
 simp only at hr
 cases h2 : isT l s [99, 97, 108, 108] with
 | true =>
  rw [show isT l s tCall = true from h2] at hr
  simp only at hr
  subst hr
  simp only [go_sem, simprocAttr, rs, c_rIs, c_rNeed hlen, h1, h2, need_yes h2, c_rName2 hlen, c_rArgs hlen, eM, List.map_nil] <;> rfl
 | false =>
 rw [show isT l s tCall = false from h2] at hr
 simp only at hr
 cases h3 : isT l s [110, 101, 119] with
 | true =>
  rw [show isT l s tNew = true from h3] at hr
  simp only at hr
  subst hr
  simp only [go_sem, simprocAttr, rs, c_rIs, c_rNeed hlen, h1, h2, h3, need_yes h3, c_rObject hlen] <;> rfl
 | false =>
 rw [show isT l s tNew = false from h3] at hr
 simp only at hr
 simp only [go_sem, simprocAttr, rs, c_rIs, h1, h2, h3, c_rOperand hlen, signsB]
 generalize (operand l en s).1 = a at hr
 generalize (operand l en s).2 = o at hr
 refine W_loop_ind (fun n e H => ∃ i : Nat, n = 5 - i ∧ i ≤ 5 ∧ (∀ j, j < i → isT l a (arith.getD j []) = false) ∧ gget .bad e 2 = .ptr 1 0 ∧ gget .bad e 3 = .ptr 2 0 ∧ gget .bad e 8 = .ptr 14 0 ∧ gget .bad e 9 = .ptr 15 0 ∧
   gget .bad e 10 = .sl .ex (arith.map encStr) ∧ gget .bad e 11 = .lit (.int .i64 (i : Nat)) ∧ H.get 1 = some [.sl .nil [], .lit (.int .i64 0), .lit (.int .i64 0), .lit (.int .i64 0), .lit (.int .i64 0), .lit (.int .i64 0)] ∧ H.get 2 = some [.lit (.int .i64 0), .lit (.string (ba [])), .lit (.string (ba [])), .lit (.string (ba [])), .sl .nil [], .sl .nil [], .sl .nil [], .sl .nil []] ∧ H.get 14 = some (cS l en a) ∧ H.get 15 = some (encOpd o) ∧ 21 ≤ H.next)
  5 ⟨0, rfl, by omega, (fun j hj => by omega), by simp only [go_sem, simprocAttr], by simp only [go_sem, simprocAttr], by simp only [go_sem, simprocAttr], by simp only [go_sem, simprocAttr], by simp only [go_sem, simprocAttr], by simp only [go_sem, simprocAttr] <;> rfl, by simp only [go_sem, simprocAttr], by simp only [go_sem, simprocAttr], by simp only [go_sem, simprocAttr], by simp only [go_sem, simprocAttr], by simp only [go_sem, simprocAttr]⟩ ?_
 rintro n ih e H ⟨i, rfl, hle, hno, e2, e3, e8, e9, e10, e11, g1, g2, g14, g15, hnx⟩
 obtain ⟨m, hm⟩ : ∃ m, H.next = m + 21 := ⟨H.next - 21, by omega⟩
 have hal : arith.length = 5 := rfl
 by_cases hi : i < 5
 ·have hi' : decide ((i : Int) < 5) = true := by simp; omega
  have hix := iad_encStr (t := 9) (bs := 16) (o := .ex) (l := arith) (i := i) (by omega)
  have hdr := signOf_drop (l := l) (s := a) arith i hno
  rw [drop_cons' [] (show i < arith.length by omega)] at hdr
  generalize ht : arith.getD i [] = t at hix hdr
  have hw1 := wrap1 (show i + 1 ≤ 9223372036854775807 by omega)
  simp only [go_sem, simprocAttr, e2, e3, e8, e9, e10, e11, g1, g2, g14, g15, hm, hi']
  refine W_draw [(0, 4)] (by kernel_rfl) ?_
  cases h : isT l a t with
  | true =>
   have hs : signOf l a arith = some t := by rw [← hdr]; simp only [signOf, h]
   simp only [rest, hs] at hr
   subst hr
   simp only [go_sem, simprocAttr, e2, e3, e8, e9, e10, e11, g1, g2, g14, g15, hm, hix, encStr, c_rIs, h]
   refine W_draw [(0, 4), (0, 10), (4, 10), (5, 10), (6, 10), (0, 11), (4, 11), (5, 11), (6, 11), (10, 11)] (by kernel_rfl) ?_
   simp only [go_sem, simprocAttr, e2, e3, e8, e9, e10, e11, g1, g2, g14, g15, hm, hix, encStr, c_rNeed hlen, need_yes h, c_rOperand hlen]
   refine W_draw [(0, 4), (0, 5), (4, 5), (0, 6), (4, 6), (5, 6), (4, 9), (5, 9), (6, 9)] (by kernel_rfl) ?_
   simp only [go_sem, simprocAttr, rs, e2, e3, e8, e9, e10, e11, g1, g2, g14, g15, hm, hix, encStr, bs2_opd, eM, List.map_nil] <;> rfl
  | false =>
   simp only [go_sem, simprocAttr, e2, e3, e8, e9, e10, e11, g1, g2, g14, g15, hm, hix, encStr, c_rIs, h, hw1]
   exact ih (5 - (i + 1)) (by omega) _ _ ⟨i + 1, rfl, by omega, fun j hj => by
     by_cases hji : j = i
     ·subst hji; rw [ht]; exact h
     ·exact hno j (by omega),
    by simp only [go_sem, simprocAttr, e2], by simp only [go_sem, simprocAttr, e3], by simp only [go_sem, simprocAttr, e8], by simp only [go_sem, simprocAttr, e9], by simp only [go_sem, simprocAttr, e10], by simp only [go_sem, simprocAttr], by simp only [go_sem, simprocAttr, g1], by simp only [go_sem, simprocAttr, g2], by simp only [go_sem, simprocAttr, g14], by simp only [go_sem, simprocAttr, g15], by simp only [go_sem, simprocAttr, hm]⟩
 ·have hi' : decide ((i : Int) < 5) = false := by simp; omega
  have hs : signOf l a arith = none := by
   rw [← signOf_drop (l := l) (s := a) arith i hno, List.drop_of_length_le (by omega)]; rfl
  simp only [rest, hs] at hr
  simp only [go_sem, simprocAttr, e2, e3, e8, e9, e10, e11, g1, g2, g14, g15, hm, hi']
  by_cases hk : o.kind = 4
  ·have dk : decide (o.kind = 4) = true := by simp [hk]
   have dk' : decide (o.kind = 4) = true := by simp [hk]
   simp only [dk', Bool.true_and] at hr
   simp only [go_sem, simprocAttr, e2, e3, e8, e9, g1, g2, g14, g15, hm, dk, c_rIs]
   cases h4 : isT l a [40] with
   | true =>
    rw [h4] at hr
    simp only at hr
    subst hr
    simp only [go_sem, simprocAttr, e2, e3, e8, e9, g1, g2, g14, g15, hm, c_rArgs hlen]
    refine W_draw [(0, 2), (2, 5)] (by kernel_rfl) ?_
    simp only [go_sem, simprocAttr, rs, e2, e3, e8, e9, g1, g2, g14, g15, hm, eM, List.map_nil] <;> rfl
   | false =>
    rw [h4] at hr
    simp only at hr
    simp only [go_sem, simprocAttr, e2, e3, e8, e9, g1, g2, g14, g15, hm, dk, c_rIs]
    cases h5 : isT l a [46] with
    | true =>
     rw [h5] at hr
     simp only at hr
     subst hr
     simp only [go_sem, simprocAttr, e2, e3, e8, e9, g1, g2, g14, g15, hm, c_rNeed hlen, need_yes h5, c_rName2 hlen]
     refine W_draw [(0, 2), (2, 5)] (by kernel_rfl) ?_
     simp only [go_sem, simprocAttr, rs, e2, e3, e8, e9, g1, g2, g14, g15, hm, eM, List.map_nil] <;> rfl
    | false =>
     rw [h5] at hr
     simp only at hr
     subst hr
     simp only [go_sem, simprocAttr]
     refine W_draw [(0, 1), (1, 4)] (by kernel_rfl) ?_
     simp only [go_sem, simprocAttr, rs, e2, e3, e8, e9, g1, g2, g14, g15, hm, eM, List.map_cons, List.map_nil] <;> rfl
  ·have dk : decide (o.kind = 4) = false := by simp [hk]
   have dk' : decide (o.kind = 4) = false := by simp [hk]
   simp only [dk', Bool.false_and] at hr
   subst hr
   simp only [go_sem, simprocAttr, e2, e3, e8, e9, g1, g2, g14, g15, hm, dk]
   refine W_draw [(0, 1), (1, 4)] (by kernel_rfl) ?_
   simp only [go_sem, simprocAttr, rs, e2, e3, e8, e9, g1, g2, g14, g15, hm, eM, List.map_cons, List.map_nil] <;> rfl
end
end Go.Proofs.YtghhkbigmmjanaaGreatDoor.VA

/-! Pd7 -/
namespace Go.Proofs.YtghhkbigmmjanaaGreatDoor.VA
open Go Go.RowKit
attribute [local go_sem] Nat.add_eq_left Nat.left_eq_add true_and and_true ite_true if_false Int.cast_ofNat_Int eq_self Nat.add_assoc Option.some.injEq decide_true decide_false Bool.not_true Bool.not_false List.size_toArray List.length_cons List.length_nil
set_option linter.unusedSimpArgs false
set_option maxRecDepth 100000

section
variable {l : List GTok} {en : Int}
theorem isT_other {s : PS} {t u : List UInt8} (h : isT l s t = true) (hne : t ≠ u) : isT l s u = false := by
 obtain ⟨x, h1, _, h2, _⟩ := isT_some h
 simp only [isT, h1]
 have : decide (x.text = u) = false := by simp [h2, hne]
 rw [this, Bool.and_false, Bool.false_and]
theorem isT_name {s : PS} {t : List UInt8} (h : isT l s t = true) (hk : keyword t = true) : isName l s = false := by
 obtain ⟨x, h1, _, h2, _⟩ := isT_some h
 simp only [isName, h1, h2, hk, Bool.not_true, Bool.and_false]
theorem name_isT {s : PS} {t : List UInt8} (h : isName l s = true) (hk : keyword t = true) : isT l s t = false := by
 cases h2 : isT l s t with
 | false => rfl
 | true => rw [isT_name h2 hk] at h; cases h
/-- The ways a statement may begin. -/
theorem begins (s : PS) :
  (isName l s = true ∧ isT l s [111, 117, 116] = false ∧ isT l s [114, 101, 116, 117, 114, 110] = false ∧ isT l s [105, 102] = false ∧ isT l s [119, 104, 105, 108, 101] = false) ∨
  (isName l s = false ∧ isT l s [111, 117, 116] = true ∧ isT l s [114, 101, 116, 117, 114, 110] = false ∧ isT l s [105, 102] = false ∧ isT l s [119, 104, 105, 108, 101] = false) ∨
  (isName l s = false ∧ isT l s [111, 117, 116] = false ∧ isT l s [114, 101, 116, 117, 114, 110] = true ∧ isT l s [105, 102] = false ∧ isT l s [119, 104, 105, 108, 101] = false) ∨
  (isName l s = false ∧ isT l s [111, 117, 116] = false ∧ isT l s [114, 101, 116, 117, 114, 110] = false ∧ isT l s [105, 102] = true ∧ isT l s [119, 104, 105, 108, 101] = false) ∨
  (isName l s = false ∧ isT l s [111, 117, 116] = false ∧ isT l s [114, 101, 116, 117, 114, 110] = false ∧ isT l s [105, 102] = false ∧ isT l s [119, 104, 105, 108, 101] = true) ∨
  (isName l s = false ∧ isT l s [111, 117, 116] = false ∧ isT l s [114, 101, 116, 117, 114, 110] = false ∧ isT l s [105, 102] = false ∧ isT l s [119, 104, 105, 108, 101] = false) := by
 cases h0 : isName l s with
 | true => exact .inl ⟨rfl, name_isT h0 rfl, name_isT h0 rfl, name_isT h0 rfl, name_isT h0 rfl⟩
 | false =>
 cases h1 : isT l s [111, 117, 116] with
 | true => exact .inr (.inl ⟨rfl, rfl, isT_other h1 (by decide), isT_other h1 (by decide), isT_other h1 (by decide)⟩)
 | false =>
 cases h2 : isT l s [114, 101, 116, 117, 114, 110] with
 | true => exact .inr (.inr (.inl ⟨rfl, rfl, rfl, isT_other h2 (by decide), isT_other h2 (by decide)⟩))
 | false =>
 cases h3 : isT l s [105, 102] with
 | true => exact .inr (.inr (.inr (.inl ⟨rfl, rfl, rfl, rfl, isT_other h3 (by decide)⟩)))
 | false =>
 cases h4 : isT l s [119, 104, 105, 108, 101] with
 | true => exact .inr (.inr (.inr (.inr (.inl ⟨rfl, rfl, rfl, rfl, rfl⟩))))
 | false => exact .inr (.inr (.inr (.inr (.inr ⟨rfl, rfl, rfl, rfl, rfl⟩))))
theorem encStmt_mk (op : Int) (x y p : List UInt8) (a : List Opd) (ps : List (List UInt8)) (th el : List GStmt) : encStmt (.mk op x y p a ps th el) =
  [.lit (.int .i64 op), .lit (.string (ba x)), .lit (.string (ba y)), .lit (.string (ba p)), .sl .sh (a.map encOpd), .sl .sh (ps.map encStr), .sl .sh (th.map encStmt), .sl .sh (el.map encStmt)] := by simp only [encStmt, encStmts_map]
theorem app_stm (hlen : l.length ≤ LM) {acc : List GStmt} (h : acc.length ≤ l.length + 5) (o : Own) (x : GStmt) (H : Heap) (id : Nat) (ho : AppOk H o acc.length 40 8) :
  aAppend Tryz.prog 38 (.sl o (acc.map encStmt)) (.sl .ex [encStmt x]) H id = some (.sl (.own id 40 8) ((acc ++ [x]).map encStmt), ownUs o id, ownRs o) := by
 rw [append_any el_sStm zo_sStm (by decide) (by simp; unfold LM at hlen; omega) (by simp; unfold LM at hlen; omega) (eM_len x) H id (by simpa using ho)]
 simp [sanLL, sanL_encStmt]
/-- What is said of statements, with so much fuel. -/
def StmtOk (l : List GTok) (en : Int) (n : Nat) : Prop := ∀ (s : PS) (deep : Nat) (H : Heap), 3 * rem l s + 1 ≤ n → deep ≤ 33 →
 calls Tryz.prog cfg 89 [.agg (cS l en s), .lit (.int .i64 (deep : Nat))] H = some (.ret (.tup [.agg (cS l en (stmtF l en n s deep).1), .agg (encStmt (stmtF l en n s deep).2)]) H)
def BlockOk (l : List GTok) (en : Int) (n : Nat) : Prop := ∀ (s : PS) (deep : Nat) (H : Heap), 3 * rem l s + 3 ≤ n → deep ≤ 33 →
 calls Tryz.prog cfg 63 [.agg (cS l en s), .lit (.int .i64 (deep : Nat))] H = some (.ret (.tup [.agg (cS l en (blockF l en n s deep).1), .sl .sh ((blockF l en n s deep).2.map encStmt)]) H)
set_option maxRecDepth 20000 in
theorem c_rStmt (hlen : l.length ≤ LM) (n : Nat) (ihb : BlockOk l en n) : StmtOk l en (n + 1) := by
 intro s deep H hn hdeep
 refine calls_pure (fn := Tryz.f89) rfl rfl rfl rfl rfl ?_ H
 have rs : Tryz.f89.results.toList = [.cell 4 80, .cell 5 40] := rfl
 generalize hr : stmtF l en (n + 1) s deep = r
 unfold stmtF at hr
 have eM := encStmt_mk
 have cnt : ∀ (s : PS) (t : List UInt8), isT l s.count t = isT l s t := fun _ _ => rfl
 rcases begins (l := l) s with ⟨h0, h1, h2, h3, h4⟩ | ⟨h0, h1, h2, h3, h4⟩ | ⟨h0, h1, h2, h3, h4⟩ | ⟨h0, h1, h2, h3, h4⟩ | ⟨h0, h1, h2, h3, h4⟩ | ⟨h0, h1, h2, h3, h4⟩
 case inr.inr.inr.inr.inr =>
  have hst : starts l s = false := by simp only [starts, tOut, tReturn, tIf, tWhile, h0, h1, h2, h3, h4, Bool.or_self]
  rw [hst] at hr
  simp only at hr
  subst hr
  simp only [go_sem, simprocAttr, rs, c_rIsName, c_rIs, h0, h1, h2, h3, h4]
  refine W_draw [(0, 2), (1, 2), (2, 3)] (by kernel_rfl) ?_
  simp only [go_sem, simprocAttr, rs, c_rFail0, eM, List.map_nil]
 all_goals
  have hst : starts l s = true := by simp only [starts, tOut, tReturn, tIf, tWhile, h0, h1, h2, h3, h4, Bool.or_true, Bool.true_or]
  rw [hst] at hr
  simp only [tIf, tWhile, h3, h4] at hr
  by_cases hc : 2000 ≤ s.cnt
  ·have d : decide (2000 ≤ ((s.cnt : Nat) : Int)) = true := by simp; omega
   have d' : decide (2000 ≤ s.cnt) = true := by simp [hc]
   rw [d'] at hr
   simp only at hr
   subst hr
   simp only [go_sem, simprocAttr, rs, c_rIsName, c_rIs, h0, h1, h2, h3, h4, d]
   refine W_draw [(0, 2), (1, 2), (2, 3)] (by kernel_rfl) ?_
   simp only [go_sem, simprocAttr, rs, c_rFail2, eM, List.map_nil]
  have d : decide (2000 ≤ ((s.cnt : Nat) : Int)) = false := by simp; omega
  have d' : decide (2000 ≤ s.cnt) = false := by simp; omega
  rw [d'] at hr
  simp only at hr
  have hwc := wrap1 (show s.cnt + 1 ≤ 9223372036854775807 by omega)
 ·subst hr
  have hsim : simple l en s.count = assign l en s.count := by simp only [simple, tOut, tReturn, cnt, h1, h2]
  simp only [semi, hsim, assign]
  simp only [go_sem, simprocAttr, rs, c_rIsName, c_rIs, h0, h1, h2, h3, h4, d, hwc, cnt, c_rName2 hlen]
  cases h5 : isT l (nameP l en s.count).1 [46] with
  | true =>
   simp only [go_sem, simprocAttr, c_rNeed hlen, need_yes h5, c_rName2 hlen, c_rOperand hlen]
   refine W_draw [(0, 4), (1, 4), (4, 7)] (by kernel_rfl) ?_
   simp only [go_sem, simprocAttr, rs, c_rNeed hlen, eM, List.map_cons, List.map_nil]
  | false =>
   simp only [go_sem, simprocAttr, c_rNeed hlen, c_rValue hlen]
   refine W_draw [(0, 2), (1, 2), (2, 3)] (by kernel_rfl) ?_
   simp only [go_sem, simprocAttr, rs, c_rNeed hlen]
 ·subst hr
  have hw := at_wrap hlen (s := s.count) (isT_at (s := s.count) h1)
  have hsim : simple l en s.count = ((operand l en s.count.adv).1, .mk 8 [] [] [] [(operand l en s.count.adv).2] [] [] []) := by simp only [simple, tOut, cnt, h1]
  simp only [semi, hsim]
  simp only [go_sem, simprocAttr, rs, c_rIsName, c_rIs, h0, h1, h2, h3, h4, d, hwc, cnt, hw, c_rOperand hlen]
  refine W_draw [(0, 3), (1, 3), (3, 6)] (by kernel_rfl) ?_
  simp only [go_sem, simprocAttr, rs, c_rNeed hlen, eM, List.map_cons, List.map_nil] <;> rfl
 ·subst hr
  have hw := at_wrap hlen (s := s.count) (isT_at (s := s.count) h2)
  have hsim : simple l en s.count = ((operand l en s.count.adv).1, .mk 11 [] [] [] [(operand l en s.count.adv).2] [] [] []) := by simp only [simple, tOut, tReturn, cnt, h1, h2]
  simp only [semi, hsim]
  simp only [go_sem, simprocAttr, rs, c_rIsName, c_rIs, h0, h1, h2, h3, h4, d, hwc, cnt, hw, c_rOperand hlen]
  refine W_draw [(0, 3), (1, 3), (3, 6)] (by kernel_rfl) ?_
  simp only [go_sem, simprocAttr, rs, c_rNeed hlen, eM, List.map_cons, List.map_nil] <;> rfl
 ·have hw := at_wrap hlen (s := s.count) (isT_at (s := s.count) h3)
  obtain ⟨x, hx, _⟩ := isT_some h3
  have hrem : rem l (operand l en s.count.adv).1 + 1 ≤ rem l s := (rem_lt (l := l) ((count_lt (adv_isT (s := s.count) h3)).trans_le (operand_lt (en := en) _).le)).2 (tk_some hx).2.1 (tk_some hx).2.2.1
  have hb1 := fun H => ihb (operand l en s.count.adv).1 deep H (by omega) hdeep
  simp only [go_sem, simprocAttr, rs, c_rIsName, c_rIs, h0, h1, h2, h3, h4, d, hwc, cnt, hw, c_rOperand hlen, hb1]
  cases h5 : isT l (blockF l en n (operand l en s.count.adv).1 deep).1 [101, 108, 115, 101] with
  | true =>
   have h5' : isT l (blockF l en n (operand l en s.count.adv).1 deep).1 tElse = true := h5
   simp only [h5'] at hr
   subst hr
   have hrem2 : rem l (blockF l en n (operand l en s.count.adv).1 deep).1.adv ≤ rem l (operand l en s.count.adv).1 := (rem_lt (l := l) ((blockF_lt (en := en) n _ deep).trans_le (adv_isT h5).le)).1
   have hb2 := fun H => ihb (blockF l en n (operand l en s.count.adv).1 deep).1.adv deep H (by omega) hdeep
   simp only [go_sem, simprocAttr, c_rNeed hlen, need_yes h5, hb2]
   refine W_draw [(0, 1), (1, 2)] (by kernel_rfl) ?_
   simp only [go_sem, simprocAttr, rs, eM, List.map_cons, List.map_nil] <;> rfl
  | false =>
   have h5' : isT l (blockF l en n (operand l en s.count.adv).1 deep).1 tElse = false := h5
   simp only [h5'] at hr
   subst hr
   simp only [go_sem, simprocAttr]
   refine W_draw [(0, 1), (1, 2)] (by kernel_rfl) ?_
   simp only [go_sem, simprocAttr, rs, eM, List.map_cons, List.map_nil] <;> rfl
 ·have hw := at_wrap hlen (s := s.count) (isT_at (s := s.count) h4)
  obtain ⟨x, hx, _⟩ := isT_some h4
  have hrem : rem l (operand l en s.count.adv).1 + 1 ≤ rem l s := (rem_lt (l := l) ((count_lt (adv_isT (s := s.count) h4)).trans_le (operand_lt (en := en) _).le)).2 (tk_some hx).2.1 (tk_some hx).2.2.1
  have hb1 := fun H => ihb (operand l en s.count.adv).1 deep H (by omega) hdeep
  subst hr
  simp only [go_sem, simprocAttr, rs, c_rIsName, c_rIs, h0, h1, h2, h3, h4, d, hwc, cnt, hw, c_rOperand hlen, hb1]
  refine W_draw [(0, 1), (1, 2)] (by kernel_rfl) ?_
  simp only [go_sem, simprocAttr, rs, eM, List.map_cons, List.map_nil] <;> rfl
set_option maxRecDepth 20000 in
theorem c_rBlock (hlen : l.length ≤ LM) (n : Nat) (ihs : ∀ k, k < n → StmtOk l en k) : BlockOk l en (n + 1) := by
 intro s deep H hn hdeep
 refine calls_pure (fn := Tryz.f63) rfl rfl rfl rfl rfl ?_ H
 have rs : Tryz.f63.results.toList = [.cell 4 80, .tmp 5] := rfl
 generalize hr : blockF l en (n + 1) s deep = r
 unfold blockF at hr
 have d : decide (32 ≤ ((deep : Nat) : Int)) = decide (32 ≤ deep) := by rw [Bool.eq_iff_iff]; simp; omega
 have hlt := need_lt (l := l) (en := en) s [123]
 have hrem := (rem_lt hlt).1
 have go : (isT l s [123] = false ∧ decide (32 ≤ deep) = false) ∨ (isT l s [123] = false ∧ decide (32 ≤ deep) = true) ∨ (isT l s [123] = true ∧ decide (32 ≤ deep) = false) ∨ (isT l s [123] = true ∧ decide (32 ≤ deep) = true) := by
  cases isT l s [123] <;> cases decide (32 ≤ deep) <;> simp
 rcases go with ⟨h1, h2⟩ | ⟨h1, h2⟩ | ⟨h1, h2⟩ | ⟨h1, h2⟩
 case inr.inr.inr =>
  simp only [h1, h2, Bool.and_self] at hr
  subst hr
  simp only [go_sem, simprocAttr, rs, bs0_stm, c_rIs, h1, d, h2, c_rFail1, List.map_nil]
 all_goals
  simp only [h1, Bool.false_and, Bool.true_and, h2] at hr
  simp only [go_sem, simprocAttr, rs, bs0_stm, c_rIs, h1, d, h2, c_rNeed hlen]
  have hdp : (need l en s [123]).ok = true → deep ≤ 32 := by
   intro hk
   first
    | (have h2' : ¬ 32 ≤ deep := (by simpa using h2); omega)
    | (simp only [need, h1] at hk; rw [pfail_bad] at hk; cases hk)
  generalize need l en s [123] = s at hr hlt hrem hdp
  refine W_loop_ind (fun x e H => ∃ (s : PS) (acc : List GStmt) (o : Own) (k : Nat), x = ms l s ∧ 1 ≤ k ∧ k ≤ n ∧ (s.ok = true → 3 * rem l s + 2 ≤ k) ∧ bodyF l en k s deep acc = r ∧ (s.ok = true → acc.length ≤ s.at_ ∧ s.at_ ≤ l.length ∧ deep ≤ 32) ∧
    gget .bad e 1 = .lit (.int .i64 (deep : Nat)) ∧ gget .bad e 2 = .ptr 0 0 ∧ gget .bad e 4 = .ptr 1 0 ∧ gget .bad e 6 = .sl o (acc.map encStmt) ∧ H.get 0 = some (cS l en s) ∧ H.get 1 = some [.sl .nil [], .lit (.int .i64 0), .lit (.int .i64 0), .lit (.int .i64 0), .lit (.int .i64 0), .lit (.int .i64 0)] ∧ 2 ≤ H.next ∧ AppOk H o acc.length 40 8)
   (ms l s) ⟨s, [], .ex, n, rfl, by omega, by omega, fun _ => by omega, hr, fun hk => ⟨by simp, (hlt hk).2.2, hdp hk⟩, by simp only [go_sem, simprocAttr], by simp only [go_sem, simprocAttr], by simp only [go_sem, simprocAttr], by simp only [go_sem, simprocAttr, List.map_nil], by simp only [go_sem, simprocAttr], by simp only [go_sem, simprocAttr], by simp only [go_sem, simprocAttr], by simp only [go_sem, simprocAttr]⟩ ?_
  clear hlt hr hrem hdp
  rintro x ih e H ⟨s, acc, o, k, rfl, hk1, hkn, hkr, hr, hb, e1, e2, e4, e6, g0, g1, hnx, ho⟩
  obtain ⟨m, hm⟩ : ∃ m, H.next = m + 2 := ⟨H.next - 2, by omega⟩
  obtain ⟨k, rfl⟩ : ∃ j, k = j + 1 := ⟨k - 1, by omega⟩
  have hend : (s.ok && !isT l s [125]) = false → r = (need l en s [125], acc) := fun h => by rw [← hr]; simp only [bodyF, h]
  cases hok : s.ok with
  | false =>
   have hrr := hend (by rw [hok, Bool.false_and])
   subst hrr
   simp only [go_sem, simprocAttr, rs, e1, e2, e4, e6, g0, g1, hm, c_rOk, hok, c_rNeed hlen, sanLL_encStmt]
  | true =>
   cases h5 : isT l s [125] with
   | true =>
    have hrr := hend (by rw [h5, Bool.not_true, Bool.and_false])
    subst hrr
    simp only [go_sem, simprocAttr, rs, e1, e2, e4, e6, g0, g1, hm, c_rOk, hok, c_rIs, h5, c_rNeed hlen, sanLL_encStmt]
   | false =>
    have hr2 : bodyF l en k (stmtF l en k s (deep + 1)).1 deep (acc ++ [(stmtF l en k s (deep + 1)).2]) = r := by rw [← hr]; simp only [bodyF, hok, h5, Bool.not_false, Bool.and_self]
    obtain ⟨hb1, hb2, hb3⟩ := hb hok
    have hkr := hkr hok
    have hst := fun H => ihs k (by omega) s (deep + 1) H (by omega) (by omega)
    have hwd := wrap1 (show deep + 1 ≤ 9223372036854775807 by omega)
    have hap := fun o x H id h => app_stm hlen (acc := acc) (by omega) o x H id h
    have hlt := stmtF_lt (l := l) (en := en) k s (deep + 1)
    have hms := ms_lt hlt hok
    simp only [go_sem, simprocAttr, rs, e1, e2, e4, e6, g0, g1, hm, c_rOk, hok, c_rIs, h5, hwd, hst, hap, ho]
    exact ih _ hms _ _ ⟨_, _, _, k, rfl, by omega, by omega, fun hk' => by
      obtain ⟨q1, q2, q3⟩ := hlt hk'
      have := (rem_lt hlt).2 hok (by omega)
      omega, hr2, fun hk' => by obtain ⟨q1, q2, q3⟩ := hlt hk'; simp only [List.length_append, List.length_cons, List.length_nil]; omega,
     by simp only [go_sem, simprocAttr, e1], by simp only [go_sem, simprocAttr, e2], by simp only [go_sem, simprocAttr, e4], by simp only [go_sem, simprocAttr] <;> rfl, by simp only [go_sem, simprocAttr], by simp only [go_sem, simprocAttr, g1], by simp only [go_sem, simprocAttr, hm], by simp only [go_sem, simprocAttr]⟩
theorem c_rBlocks (hlen : l.length ≤ LM) : ∀ n, StmtOk l en n ∧ BlockOk l en n := by
 intro n
 induction n using Nat.strongRecOn with
 | ind n ih =>
  cases n with
  | zero => exact ⟨fun s deep H h => by omega, fun s deep H h => by omega⟩
  | succ n => exact ⟨c_rStmt hlen n (ih n (by omega)).2, c_rBlock hlen n fun k hk => (ih k (by omega)).1⟩
end
end Go.Proofs.YtghhkbigmmjanaaGreatDoor.VA

/-! Pd8 -/
namespace Go.Proofs.YtghhkbigmmjanaaGreatDoor.VA
open Go Go.RowKit
attribute [local go_sem] Nat.add_eq_left Nat.left_eq_add true_and and_true ite_true if_false Int.cast_ofNat_Int eq_self Nat.add_assoc Option.some.injEq decide_true decide_false Bool.not_true Bool.not_false List.size_toArray List.length_cons List.length_nil
set_option linter.unusedSimpArgs false
set_option maxRecDepth 100000

section
variable {l : List GTok} {en : Int}
theorem app_fun (hlen : l.length ≤ LM) {acc : List GFunc} (h : acc.length ≤ l.length + 5) (o : Own) (x : GFunc) (H : Heap) (id : Nat) (ho : AppOk H o acc.length 42 3) :
  aAppend Tryz.prog 22 (.sl o (acc.map encFunc)) (.sl .ex [encFunc x]) H id = some (.sl (.own id 42 3) ((acc ++ [x]).map encFunc), ownUs o id, ownRs o) := by
 rw [append_any el_sFun zo_sFun (by decide) (by simp; unfold LM at hlen; omega) (by simp; unfold LM at hlen; omega) (by rfl) H id (by simpa using ho)]
 simp [sanLL, sanL_encFunc]
theorem progF_end {s : PS} {acc : List GFunc} {n : Nat} (h : (s.ok && decide (s.at_ < l.length)) = false) : progF l en n s acc = (s, acc) := by
 cases n with
 | zero => rfl
 | succ n => simp only [progF, h]
theorem progF_more {s : PS} {acc : List GFunc} {n : Nat} (h : (s.ok && decide (s.at_ < l.length)) = true) (hn : ms l s < n) : ∃ k, n = k + 1 ∧ progF l en n s acc = progF l en k (funcP l en s).1 (acc ++ [(funcP l en s).2]) := by
 obtain ⟨k, rfl⟩ : ∃ k, n = k + 1 := ⟨n - 1, by omega⟩
 exact ⟨k, rfl, by simp only [progF, h]⟩
theorem rem_FN (hlen : l.length ≤ LM) (s : PS) : 3 * rem l s + 3 ≤ FN := by
 have : rem l s ≤ l.length := by unfold rem; split <;> omega
 unfold LM at hlen; unfold FN; omega
set_option maxRecDepth 20000 in
theorem c_rRead (hlen : l.length ≤ LM) (o : Own) (H : Heap) : calls Tryz.prog cfg 29 [.sl o (l.map encG), .lit (.int .i64 en)] H = some (.ret (encRead (readP l en)) H) := by
 refine calls_pure (fn := Tryz.f29) rfl rfl rfl rfl rfl ?_ H
 have rs : Tryz.f29.results.toList = [.cell 4 24, .cell 5 27] := rfl
 generalize hr : readP l en = r
 unfold readP at hr
 generalize hq : progF l en FN ⟨0, 0, none⟩ [] = q at hr
 have e0 : ([.sl .sh (l.map encG), .lit (.int .i64 0), .lit (.int .i64 en), .lit (.int .i64 0), .lit (.int .i64 0), .lit (.int .i64 0)] : List AV) = cS l en ⟨0, 0, none⟩ := rfl
 have hblk : ∀ s H, calls Tryz.prog cfg 63 [.agg (cS l en s), .lit (.int .i64 0)] H = some (.ret (.tup [.agg (cS l en (blockF l en FN s 0).1), .sl .sh ((blockF l en FN s 0).2.map encStmt)]) H) :=
  fun s H => (c_rBlocks hlen FN).2 s 0 H (rem_FN hlen s) (by omega)
 simp only [go_sem, simprocAttr, rs, e0]
 refine W_loop_ind (fun x e H => ∃ (s : PS) (acc : List GFunc) (o : Own) (k : Nat), x = ms l s ∧ ms l s < k ∧ progF l en k s acc = q ∧ (s.ok = true → acc.length ≤ s.at_) ∧ acc.length ≤ l.length + 1 ∧
   gget .bad e 0 = .sl .sh (l.map encG) ∧ gget .bad e 4 = .ptr 0 0 ∧ gget .bad e 5 = .ptr 1 0 ∧ gget .bad e 6 = .ptr 5 0 ∧ gget .bad e 7 = .ptr 8 0 ∧ H.get 0 = some [.sl .nil []] ∧ H.get 1 = some [.lit (.int .i64 0), .lit (.int .i64 0)] ∧ H.get 5 = some (cS l en s) ∧
   H.get 8 = some [.sl o (acc.map encFunc)] ∧ 10 ≤ H.next ∧ AppOk H o acc.length 42 3)
  (ms l ⟨0, 0, none⟩) ⟨⟨0, 0, none⟩, [], .nil, FN, rfl, ms_FN hlen _, hq, fun _ => by simp, by simp, by simp only [go_sem, simprocAttr], by simp only [go_sem, simprocAttr], by simp only [go_sem, simprocAttr], by simp only [go_sem, simprocAttr], by simp only [go_sem, simprocAttr], by simp only [go_sem, simprocAttr], by simp only [go_sem, simprocAttr], by simp only [go_sem, simprocAttr], by simp only [go_sem, simprocAttr, List.map_nil], by simp only [go_sem, simprocAttr], by simp only [go_sem, simprocAttr]⟩ ?_
 clear hq
 rintro x ih e H ⟨s, acc, o, k, rfl, hk, hq, hb, hba, t0, e4, e5, e6, e7, g0, g1, g5, g8, hnx, ho⟩
 obtain ⟨m, hm⟩ : ∃ m, H.next = m + 10 := ⟨H.next - 10, by omega⟩
 cases hok : s.ok with
 | false =>
  rw [progF_end (by rw [hok, Bool.false_and])] at hq
  subst hq
  have hF : ∃ c a, s.f = some (c, a) := by
   cases hf : s.f with
   | none => rw [ok_none hf] at hok; cases hok
   | some q => exact ⟨q.1, q.2, rfl⟩
  obtain ⟨c, a, hF⟩ := hF
  simp only [hF] at hr
  subst hr
  simp only [go_sem, simprocAttr, t0, e4, e5, e6, e7, g0, g1, g5, g8, hm, c_rOk, hok]
  refine W_draw [(2, 3)] (by kernel_rfl) ?_
  simp only [go_sem, simprocAttr, rs, e4, e5, e6, g0, g1, g5, hm, encRead, List.map_nil, fcode, fat, hF]
 | true =>
  by_cases hlt : s.at_ < l.length
  ·have hlt' : decide ((s.at_ : Int) < (l.length : Nat)) = true := by simp; omega
   obtain ⟨k, rfl, h2⟩ := progF_more (en := en) (acc := acc) (s := s) (by rw [hok, Bool.true_and]; simp [hlt]) hk
   rw [h2] at hq
   have hap := fun o x H id h => app_fun hlen (acc := acc) (by omega) o x H id h
   have eF : ([.lit (.string (ba (nameP l en (need l en s [102, 117, 110])).2)), .sl .sh ((names l en (nameP l en (need l en s [102, 117, 110])).1).2.map encStr), .sl .sh ((blockF l en FN (names l en (nameP l en (need l en s [102, 117, 110])).1).1 0).2.map encStmt)] : List AV) =
    encFunc (funcP l en s).2 := rfl
   have eS : cS l en (blockF l en FN (names l en (nameP l en (need l en s [102, 117, 110])).1).1 0).1 = cS l en (funcP l en s).1 := rfl
   have hltf := funcP_lt (l := l) (en := en) s
   have hms := ms_lt hltf hok
   simp only [go_sem, simprocAttr, t0, e4, e5, e6, e7, g0, g1, g5, g8, hm, c_rOk, hok, List.length_map, hlt', c_rNeed hlen, c_rName2 hlen, c_rNames hlen, hblk, eF, hap, ho, eS]
   exact ih _ hms _ _ ⟨_, _, _, k, rfl, by omega, hq, fun hk' => by
     obtain ⟨q1, q2, q3⟩ := hltf hk'
     have := hb hok
     simp only [List.length_append, List.length_cons, List.length_nil]; omega, by have := hb hok; simp only [List.length_append, List.length_cons, List.length_nil]; omega,
    by simp only [go_sem, simprocAttr, t0], by simp only [go_sem, simprocAttr, e4], by simp only [go_sem, simprocAttr, e5], by simp only [go_sem, simprocAttr, e6], by simp only [go_sem, simprocAttr, e7], by simp only [go_sem, simprocAttr, g0], by simp only [go_sem, simprocAttr, g1], by simp only [go_sem, simprocAttr], by simp only [go_sem, simprocAttr] <;> rfl, by simp only [go_sem, simprocAttr, hm], by simp only [go_sem, simprocAttr]⟩
  ·have hlt' : decide ((s.at_ : Int) < (l.length : Nat)) = false := by simp; omega
   rw [progF_end (by simp [hlt])] at hq
   subst hq
   simp only [f_none hok] at hr
   subst hr
   simp only [go_sem, simprocAttr, rs, t0, e4, e5, e6, e7, g0, g1, g5, g8, hm, c_rOk, hok, List.length_map, hlt', encRead] <;> rfl
end
end Go.Proofs.YtghhkbigmmjanaaGreatDoor.VA

/-! Ph1 -/
namespace Go.Proofs.YtghhkbigmmjanaaGreatDoor.VA
open Go Go.RowKit
attribute [local go_sem] Nat.add_eq_left Nat.left_eq_add true_and and_true ite_true if_false Int.cast_ofNat_Int eq_self Nat.add_assoc Option.some.injEq decide_true decide_false Bool.not_true Bool.not_false List.size_toArray List.length_cons List.length_nil
set_option linter.unusedSimpArgs false
set_option maxRecDepth 100000

theorem eg_opd : Tryz.prog.eqGuardType Tryz.prog.depth 50 = false := by kernel_rfl
theorem sh_opd : Tryz.prog.stoodInHeld 50 = false := by kernel_rfl
theorem eq_opd (k k' a a' : Int) (t t' : ByteArray) : aEq Tryz.prog 8 50 (.agg [.lit (.int .i64 k), .lit (.int .i64 a), .lit (.string t)]) (.agg [.lit (.int .i64 k'), .lit (.int .i64 a'), .lit (.string t')]) =
  some (decide (k = k') && (decide (a = a') && decide (t = t'))) := by
 simp only [aEq, Tryz.underlying50, sh_opd, if_true, aEqs, go_sem]
 by_cases h1 : k = k' <;> by_cases h2 : t = t' <;> by_cases h3 : a = a' <;> simp [h1, h2, h3, aEqs, aEq, go_sem, strEq_decide]
@[go_sem] theorem bin_neopd (k k' a a' : Int) (t t' : ByteArray) : aBin Tryz.prog .neq 50 (.agg [.lit (.int .i64 k), .lit (.int .i64 a), .lit (.string t)]) (.agg [.lit (.int .i64 k'), .lit (.int .i64 a'), .lit (.string t')]) =
  some (.lit (.bool (!(decide (k = k') && (decide (a = a') && decide (t = t')))))) := by
 simp only [aBin, eg_opd, eq_opd]; rfl
theorem iad_encOpd {t : TypeId} {bs : Nat} {o : Own} {l : List Opd} {i : Nat} (h : i < l.length) : iad (some (t, 3, bs)) (.sl o (l.map encOpd)) (some i) = some (.ep (encOpd (l.getD i ⟨0, 0, []⟩))) := by
 refine iad_some ?_ rfl
 rw [List.getElem?_map, List.getElem?_eq_getElem h, List.getD_eq_getElem?_getD, List.getElem?_eq_getElem h]
 rfl
def noStmt : GStmt := .mk 0 [] [] [] [] [] [] []
theorem iad_encStmt {t : TypeId} {bs : Nat} {o : Own} {l : List GStmt} {i : Nat} (h : i < l.length) : iad (some (t, 8, bs)) (.sl o (l.map encStmt)) (some i) = some (.ep (encStmt (l.getD i noStmt))) := by
 refine iad_some ?_ (eM_len _)
 rw [List.getElem?_map, List.getElem?_eq_getElem h, List.getD_eq_getElem?_getD, List.getElem?_eq_getElem h]
 rfl

set_option maxRecDepth 20000 in
theorem c_texts (a b : List (List UInt8)) (hlen : a.length ≤ BIG) (o o' : Own) (H : Heap) :
  calls Tryz.prog cfg 30 [.sl o (a.map encStr), .sl o' (b.map encStr)] H = some (.ret (.lit (.bool (decide (a = b)))) H) := by
 unfold BIG at hlen
 refine calls_pure (fn := Tryz.f30) rfl rfl rfl rfl rfl ?_ H
 have rs : Tryz.f30.results.toList = [.tmp 4] := rfl
 by_cases hl : a.length = b.length
 ·have d : decide (((a.length : Nat) : Int) = (b.length : Nat)) = true := by simp; omega
  generalize hr : decide (a = b) = r
  simp only [go_sem, simprocAttr, rs, List.length_map, d]
  refine W_loop_ind (fun k e H => ∃ i : Nat, k = a.length - i ∧ i ≤ a.length ∧ decide (a.drop i = b.drop i) = r ∧ gget .bad e 0 = .sl .sh (a.map encStr) ∧ gget .bad e 1 = .sl .sh (b.map encStr) ∧ gget .bad e 5 = .lit (.int .i64 (i : Nat)))
   a.length ⟨0, rfl, by omega, hr, by simp only [go_sem, simprocAttr], by simp only [go_sem, simprocAttr], by simp only [go_sem, simprocAttr] <;> rfl⟩ ?_
  rintro k ih e H ⟨i, rfl, hle, hR, h0, h1, h5⟩
  by_cases hlt : i < a.length
  ·have hlt' : decide ((i : Int) < (a.length : Nat)) = true := by simp; omega
   have hlb : i < b.length := by omega
   rw [drop_cons' [] hlt, drop_cons' [] hlb] at hR
   have ha := iad_encStr (t := 9) (bs := 16) (o := .sh) hlt
   have hb := iad_encStr (t := 9) (bs := 16) (o := .sh) hlb
   generalize a.getD i [] = x at hR ha
   generalize b.getD i [] = y at hR hb
   have hw1 := wrap1 (show i + 1 ≤ 9223372036854775807 by omega)
   have hxy : decide (ba x = ba y) = decide (x = y) := by simp [ba_inj]
   simp only [go_sem, simprocAttr, h0, h1, h5, List.length_map, hlt', ha, hb, encStr]
   refine W_draw [(3, 7)] (by kernel_rfl) ?_
   simp only [go_sem, simprocAttr, h0, h1, h5, List.length_map, hlt', ha, hb, encStr, hxy]
   by_cases he : x = y
   ·have de : decide (x = y) = true := by simp [he]
    have hR' : decide (a.drop (i + 1) = b.drop (i + 1)) = r := by rw [← hR]; simp [he]
    simp only [go_sem, simprocAttr, de, h0, h1, h5, hw1]
    exact ih (a.length - (i + 1)) (by omega) _ _ ⟨i + 1, rfl, by omega, hR', by simp only [go_sem, simprocAttr, h0], by simp only [go_sem, simprocAttr, h1], by simp only [go_sem, simprocAttr]⟩
   ·have de : decide (x = y) = false := by simp [he]
    have hR' : r = false := by rw [← hR]; simp [he]
    simp only [go_sem, simprocAttr, de, hR']
  ·have hlt' : decide ((i : Int) < (a.length : Nat)) = false := by simp; omega
   rw [List.drop_of_length_le (by omega), List.drop_of_length_le (by omega)] at hR
   have hR' : r = true := by rw [← hR]; simp
   simp only [go_sem, simprocAttr, h0, h1, h5, List.length_map, hlt', hR']
 ·have d : decide (((a.length : Nat) : Int) = (b.length : Nat)) = false := by simp; omega
  have hne : decide (a = b) = false := by simp; intro h; exact hl (by rw [h])
  simp only [go_sem, simprocAttr, rs, List.length_map, d, hne]
/-- What is said of statements' lists that are no larger than so much. -/
def StmtsOk (n : Nat) : Prop := ∀ (a b : List GStmt) (o o' : Own) (H : Heap), szSs a ≤ n → fitSs a = true → a.length ≤ BIG →
 calls Tryz.prog cfg 31 [.sl o (a.map encStmt), .sl o' (b.map encStmt)] H = some (.ret (.lit (.bool (eqSs a b))) H)
theorem fitSs_drop {a : List GStmt} (h : fitSs a = true) {i : Nat} (hi : i < a.length) : fitS (a.getD i noStmt) = true := by
 rw [fitSs_all, List.all_eq_true] at h
 apply h
 rw [List.getD_eq_getElem?_getD, List.getElem?_eq_getElem hi]
 exact List.getElem_mem hi
set_option maxRecDepth 20000 in
theorem c_stmts_step (n : Nat) (ih : StmtsOk n) : StmtsOk (n + 1) := by
 intro a b o o' H hsz hfit hlen
 unfold BIG at hlen
 refine calls_pure (fn := Tryz.f31) rfl rfl rfl rfl rfl ?_ H
 have rs : Tryz.f31.results.toList = [.tmp 4] := rfl
 by_cases hl : a.length = b.length
 ·have d : decide (((a.length : Nat) : Int) = (b.length : Nat)) = true := by simp; omega
  generalize hr : eqSs a b = r
  simp only [go_sem, simprocAttr, rs, List.length_map, d]
  refine W_loop_ind (fun k e H => ∃ i : Nat, k = a.length - i ∧ i ≤ a.length ∧ eqSs (a.drop i) (b.drop i) = r ∧ gget .bad e 0 = .sl .sh (a.map encStmt) ∧ gget .bad e 1 = .sl .sh (b.map encStmt) ∧ gget .bad e 5 = .lit (.int .i64 (i : Nat)))
   a.length ⟨0, rfl, by omega, hr, by simp only [go_sem, simprocAttr], by simp only [go_sem, simprocAttr], by simp only [go_sem, simprocAttr] <;> rfl⟩ ?_
  rintro k ihk e H ⟨i, rfl, hle, hR, h0, h1, h5⟩
  obtain ⟨m, hm⟩ : ∃ m, H.next = m := ⟨_, rfl⟩
  by_cases hlt : i < a.length
  ·have hlt' : decide ((i : Int) < (a.length : Nat)) = true := by simp; omega
   have hlb : i < b.length := by omega
   rw [drop_cons' noStmt hlt, drop_cons' noStmt hlb] at hR
   have ha := iad_encStmt (t := 40) (bs := 152) (o := .sh) hlt
   have hb := iad_encStmt (t := 40) (bs := 152) (o := .sh) hlb
   have hfx := fitSs_drop hfit hlt
   have hsx : szS (a.getD i noStmt) ≤ n := by
    have h1 : a[i]? = some (a.getD i noStmt) := by rw [List.getD_eq_getElem?_getD, List.getElem?_eq_getElem hlt]; rfl
    have := szSs_mem h1; omega
   generalize a.getD i noStmt = x at hR ha hfx hsx
   generalize b.getD i noStmt = y at hR hb
   have hw1 := wrap1 (show i + 1 ≤ 9223372036854775807 by omega)
   obtain ⟨op, x, z, p, ar, ps, th, el⟩ := x
   obtain ⟨op', x', z', p', ar', ps', th', el'⟩ := y
   simp only [szS] at hsx
   simp only [fitS, Bool.and_eq_true, decide_eq_true_eq] at hfx
   obtain ⟨f1, f2, f3, f4, f5, f6⟩ := hfx
   have iT := fun H => ih th th' .sh .sh H (by omega) f5 f3
   have iE := fun H => ih el el' .sh .sh H (by omega) f6 f4
   have iP := fun H => c_texts ps ps' f2 .sh .sh H
   unfold BIG at f1
   simp only [encStmt_mk] at ha hb
   have q2 : decide (ba x = ba x') = decide (x = x') := by simp [ba_inj]
   have q3 : decide (ba z = ba z') = decide (z = z') := by simp [ba_inj]
   have q4 : decide (ba p = ba p') = decide (p = p') := by simp [ba_inj]
   have q5 : decide ((ar.length : Int) = (ar'.length : Nat)) = decide (ar.length = ar'.length) := by rw [Bool.eq_iff_iff]; simp; omega
   simp only [eqSs, eqS] at hR
   simp only [go_sem, simprocAttr, h0, h1, h5, hm, List.length_map, hlt', ha, hb]
   refine W_draw [(3,7),(3,8),(7,8),(3,9),(7,9),(8,9),(7,10)] (by kernel_rfl) ?_
   simp only [go_sem, simprocAttr, h0, h1, h5, hm, List.length_map, ha, hb, q2, q3, q4, q5]
   cases k0 : decide (op = op') with
   | false =>
    have hR' : r = false := by rw [← hR, k0]; simp only [Bool.false_and, Bool.and_false]
    simp only [go_sem, simprocAttr, k0, q2, q3, q4, q5, List.length_map, iT, iE, iP, hR']
   | true =>
   rw [k0] at hR
   simp only [go_sem, simprocAttr, k0, q2, q3, q4, q5, List.length_map, iT, iE, iP]
   cases k1 : decide (x = x') with
   | false =>
    have hR' : r = false := by rw [← hR, k1]; simp only [Bool.false_and, Bool.and_false]
    simp only [go_sem, simprocAttr, k1, q2, q3, q4, q5, List.length_map, iT, iE, iP, hR']
   | true =>
   rw [k1] at hR
   simp only [go_sem, simprocAttr, k1, q2, q3, q4, q5, List.length_map, iT, iE, iP]
   cases k2 : decide (z = z') with
   | false =>
    have hR' : r = false := by rw [← hR, k2]; simp only [Bool.false_and, Bool.and_false]
    simp only [go_sem, simprocAttr, k2, q2, q3, q4, q5, List.length_map, iT, iE, iP, hR']
   | true =>
   rw [k2] at hR
   simp only [go_sem, simprocAttr, k2, q2, q3, q4, q5, List.length_map, iT, iE, iP]
   cases k3 : decide (p = p') with
   | false =>
    have hR' : r = false := by rw [← hR, k3]; simp only [Bool.false_and, Bool.and_false]
    simp only [go_sem, simprocAttr, k3, q2, q3, q4, q5, List.length_map, iT, iE, iP, hR']
   | true =>
   rw [k3] at hR
   simp only [go_sem, simprocAttr, k3, q2, q3, q4, q5, List.length_map, iT, iE, iP]
   cases k4 : decide (ar.length = ar'.length) with
   | false =>
    have hne : decide (ar = ar') = false := by simp at k4 ⊢; intro h; exact k4 (by rw [h])
    have hR' : r = false := by rw [← hR, hne]; simp only [Bool.false_and, Bool.and_false]
    simp only [go_sem, simprocAttr, k4, q2, q3, q4, q5, List.length_map, hR']
   | true =>
   simp only [go_sem, simprocAttr, k4, q2, q3, q4, q5, List.length_map, iT, iE, iP]
   cases k5 : decide (ps = ps') with
   | false =>
    have hR' : r = false := by rw [← hR, k5]; simp only [Bool.false_and, Bool.and_false]
    simp only [go_sem, simprocAttr, k5, q2, q3, q4, q5, List.length_map, iT, iE, iP, hR']
   | true =>
   rw [k5] at hR
   simp only [go_sem, simprocAttr, k5, q2, q3, q4, q5, List.length_map, iT, iE, iP]
   cases k6 : eqSs th th' with
   | false =>
    have hR' : r = false := by rw [← hR, k6]; simp only [Bool.false_and, Bool.and_false]
    simp only [go_sem, simprocAttr, k6, q2, q3, q4, q5, List.length_map, iT, iE, iP, hR']
   | true =>
   rw [k6] at hR
   simp only [go_sem, simprocAttr, k6, q2, q3, q4, q5, List.length_map, iT, iE, iP]
   cases k7 : eqSs el el' with
   | false =>
    have hR' : r = false := by rw [← hR, k7]; simp only [Bool.false_and, Bool.and_false]
    simp only [go_sem, simprocAttr, k7, q2, q3, q4, q5, List.length_map, iT, iE, iP, hR']
   | true =>
   rw [k7] at hR
   simp only [go_sem, simprocAttr, k7, q2, q3, q4, q5, List.length_map, iT, iE, iP]
   simp only [Bool.true_and, Bool.and_true] at hR
   have hla : ar.length = ar'.length := by simpa using k4
   generalize hS : eqSs (a.drop (i + 1)) (b.drop (i + 1)) = rS at hR
   refine W_loop_ind (fun k e H => ∃ j : Nat, k = ar.length - j ∧ j ≤ ar.length ∧ (decide (ar.drop j = ar'.drop j) && rS) = r ∧ gget .bad e 0 = .sl .sh (a.map encStmt) ∧ gget .bad e 1 = .sl .sh (b.map encStmt) ∧ gget .bad e 5 = .lit (.int .i64 (i : Nat)) ∧
     gget .bad e 6 = .ptr (m + 12) 0 ∧ gget .bad e 7 = .ptr (m + 13) 0 ∧ gget .bad e 8 = .lit (.int .i64 (j : Nat)) ∧
     H.get (m + 12) = some [.lit (.int .i64 op), .lit (.string (ba x)), .lit (.string (ba z)), .lit (.string (ba p)), .sl .sh (ar.map encOpd), .sl .sh (ps.map encStr), .sl .sh (th.map encStmt), .sl .sh (el.map encStmt)] ∧
     H.get (m + 13) = some [.lit (.int .i64 op'), .lit (.string (ba x')), .lit (.string (ba z')), .lit (.string (ba p')), .sl .sh (ar'.map encOpd), .sl .sh (ps'.map encStr), .sl .sh (th'.map encStmt), .sl .sh (el'.map encStmt)])
    ar.length ⟨0, rfl, by omega, hR, by simp only [go_sem, simprocAttr, h0], by simp only [go_sem, simprocAttr, h1], by simp only [go_sem, simprocAttr, h5], by simp only [go_sem, simprocAttr], by simp only [go_sem, simprocAttr], by simp only [go_sem, simprocAttr] <;> rfl, by simp only [go_sem, simprocAttr] <;> rfl, by simp only [go_sem, simprocAttr] <;> rfl⟩ ?_
   clear hR
   rintro k ihj e H ⟨j, rfl, hjl, hR, h0, h1, h5, h6, h7, h8, g6, g7⟩
   obtain ⟨m', hm'⟩ : ∃ m, H.next = m := ⟨_, rfl⟩
   by_cases hjt : j < ar.length
   ·have hjt' : decide ((j : Int) < (ar.length : Nat)) = true := by simp; omega
    have hjb : j < ar'.length := by omega
    rw [drop_cons' ⟨0, 0, []⟩ hjt, drop_cons' ⟨0, 0, []⟩ hjb] at hR
    have ja := iad_encOpd (t := 50) (bs := 32) (o := .sh) hjt
    have jb := iad_encOpd (t := 50) (bs := 32) (o := .sh) hjb
    generalize ar.getD j ⟨0, 0, []⟩ = u at hR ja
    generalize ar'.getD j ⟨0, 0, []⟩ = v at hR jb
    have hw2 := wrap1 (show j + 1 ≤ 9223372036854775807 by omega)
    have huv : (decide (u.kind = v.kind) && (decide (u.n = v.n) && decide (ba u.name = ba v.name))) = decide (u = v) := by
     cases u; cases v; rw [Bool.eq_iff_iff]; simp [ba_inj]
    simp only [go_sem, simprocAttr, h0, h1, h5, h6, h7, h8, g6, g7, hm', List.length_map, hjt', ja, jb, encOpd]
    refine W_draw [(1,6),(4,6),(1,9),(4,9)] (by kernel_rfl) ?_
    simp only [go_sem, simprocAttr, h0, h1, h5, h6, h7, h8, g6, g7, hm', List.length_map, hjt', ja, jb, encOpd, huv]
    by_cases he : u = v
    ·have de : decide (u = v) = true := by simp [he]
     have hR' : (decide (ar.drop (j + 1) = ar'.drop (j + 1)) && rS) = r := by rw [← hR]; simp [he]
     simp only [go_sem, simprocAttr, de, h0, h1, h5, h6, h7, h8, g6, g7, hw2]
     exact ihj (ar.length - (j + 1)) (by omega) _ _ ⟨j + 1, rfl, by omega, hR', by simp only [go_sem, simprocAttr, h0], by simp only [go_sem, simprocAttr, h1], by simp only [go_sem, simprocAttr, h5], by simp only [go_sem, simprocAttr, h6], by simp only [go_sem, simprocAttr, h7], by simp only [go_sem, simprocAttr], g6, g7⟩
    ·have de : decide (u = v) = false := by simp [he]
     have hR' : r = false := by rw [← hR]; simp [he]
     simp only [go_sem, simprocAttr, de, hR']
   ·have hjt' : decide ((j : Int) < (ar.length : Nat)) = false := by simp; omega
    rw [List.drop_of_length_le (by omega), List.drop_of_length_le (by omega)] at hR
    have hR' : rS = r := by rw [← hR]; simp
    simp only [go_sem, simprocAttr, h0, h1, h5, h6, h7, h8, g6, g7, hm', List.length_map, hjt', hw1]
    exact ihk (a.length - (i + 1)) (by omega) _ _ ⟨i + 1, rfl, by omega, hS.trans hR', by simp only [go_sem, simprocAttr, h0], by simp only [go_sem, simprocAttr, h1], by simp only [go_sem, simprocAttr]⟩
  ·have hlt' : decide ((i : Int) < (a.length : Nat)) = false := by simp; omega
   rw [List.drop_of_length_le (by omega), List.drop_of_length_le (by omega)] at hR
   have hR' : r = true := by rw [← hR]; rfl
   simp only [go_sem, simprocAttr, h0, h1, h5, hm, List.length_map, hlt', hR']
 ·have d : decide (((a.length : Nat) : Int) = (b.length : Nat)) = false := by simp; omega
  have hne : eqSs a b = false := by
   cases he : eqSs a b with
   | false => rfl
   | true => exact absurd (eqSs_len he) hl
  simp only [go_sem, simprocAttr, rs, List.length_map, d, hne]
theorem c_stmts (a b : List GStmt) (hf : fitSs a = true) (hl : a.length ≤ BIG) (o o' : Own) (H : Heap) :
  calls Tryz.prog cfg 31 [.sl o (a.map encStmt), .sl o' (b.map encStmt)] H = some (.ret (.lit (.bool (eqSs a b))) H) := by
 have h : ∀ n, StmtsOk n := by
  intro n
  induction n with
  | zero => intro a b o o' H hz; exact absurd hz (by cases a <;> simp [szSs])
  | succ n ih => exact c_stmts_step n ih
 exact h _ a b o o' H (Nat.le_refl _) hf hl
theorem iad_encFunc {t : TypeId} {bs : Nat} {o : Own} {l : List GFunc} {i : Nat} (h : i < l.length) : iad (some (t, 3, bs)) (.sl o (l.map encFunc)) (some i) = some (.ep (encFunc (l.getD i ⟨[], [], []⟩))) := by
 refine iad_some ?_ rfl
 rw [List.getElem?_map, List.getElem?_eq_getElem h, List.getD_eq_getElem?_getD, List.getElem?_eq_getElem h]
 rfl
theorem fitP_get {a : List GFunc} (h : fitP a = true) {i : Nat} (hi : i < a.length) : fitF (a.getD i ⟨[], [], []⟩) = true := by
 simp only [fitP, Bool.and_eq_true, List.all_eq_true] at h
 apply h.2
 rw [List.getD_eq_getElem?_getD, List.getElem?_eq_getElem hi]
 exact List.getElem_mem hi
set_option maxRecDepth 20000 in
theorem c_rSame (a b : List GFunc) (hfit : fitP a = true) (o o' : Own) (H : Heap) :
  calls Tryz.prog cfg 14 [.agg [.sl o (a.map encFunc)], .agg [.sl o' (b.map encFunc)]] H = some (.ret (.lit (.bool (eqFs a b))) H) := by
 have hlen : a.length ≤ BIG := by simp only [fitP, Bool.and_eq_true, decide_eq_true_eq] at hfit; exact hfit.1
 unfold BIG at hlen
 refine calls_pure (fn := Tryz.f14) rfl rfl rfl rfl rfl ?_ H
 have rs : Tryz.f14.results.toList = [.tmp 4] := rfl
 by_cases hl : a.length = b.length
 ·have d : decide (((a.length : Nat) : Int) = (b.length : Nat)) = true := by simp; omega
  generalize hr : eqFs a b = r
  simp only [go_sem, simprocAttr, rs, List.length_map, d]
  refine W_loop_ind (fun k e H => ∃ i : Nat, k = a.length - i ∧ i ≤ a.length ∧ eqFs (a.drop i) (b.drop i) = r ∧ gget .bad e 2 = .ptr 0 0 ∧ gget .bad e 3 = .ptr 1 0 ∧ gget .bad e 5 = .lit (.int .i64 (i : Nat)) ∧
    H.get 0 = some [.sl .sh (a.map encFunc)] ∧ H.get 1 = some [.sl .sh (b.map encFunc)] ∧ 2 ≤ H.next)
   a.length ⟨0, rfl, by omega, hr, by simp only [go_sem, simprocAttr], by simp only [go_sem, simprocAttr], by simp only [go_sem, simprocAttr] <;> rfl, by simp only [go_sem, simprocAttr] <;> rfl, by simp only [go_sem, simprocAttr] <;> rfl, by simp only [go_sem, simprocAttr] <;> omega⟩ ?_
  rintro k ihk e H ⟨i, rfl, hle, hR, h2, h3, h5, g0, g1, hnx⟩
  obtain ⟨m, hm⟩ : ∃ m, H.next = m + 2 := ⟨H.next - 2, by omega⟩
  by_cases hlt : i < a.length
  ·have hlt' : decide ((i : Int) < (a.length : Nat)) = true := by simp; omega
   have hlb : i < b.length := by omega
   rw [drop_cons' ⟨[], [], []⟩ hlt, drop_cons' ⟨[], [], []⟩ hlb] at hR
   have ha := iad_encFunc (t := 42) (bs := 64) (o := .sh) hlt
   have hb := iad_encFunc (t := 42) (bs := 64) (o := .sh) hlb
   have hfx := fitP_get hfit hlt
   generalize a.getD i ⟨[], [], []⟩ = x at hR ha hfx
   generalize b.getD i ⟨[], [], []⟩ = y at hR hb
   have hw1 := wrap1 (show i + 1 ≤ 9223372036854775807 by omega)
   obtain ⟨nm, ps, bd⟩ := x
   obtain ⟨nm', ps', bd'⟩ := y
   simp only [fitF, Bool.and_eq_true, decide_eq_true_eq] at hfx
   obtain ⟨f1, f2, f3⟩ := hfx
   have iP := fun H => c_texts ps ps' f1 .sh .sh H
   have iS := fun H => c_stmts bd bd' f3 f2 .sh .sh H
   have q1 : decide (ba nm = ba nm') = decide (nm = nm') := by simp [ba_inj]
   simp only [eqFs, eqF] at hR
   simp only [encFunc] at ha hb
   simp only [go_sem, simprocAttr, h2, h3, h5, g0, g1, hm, List.length_map, hlt', ha, hb]
   refine W_draw [(1,6),(4,6),(1,9),(4,9),(1,10),(4,10),(6,10),(9,10),(1,11),(4,11),(6,11),(9,11),(10,11),(6,12),(9,12)] (by kernel_rfl) ?_
   simp only [go_sem, simprocAttr, h2, h3, h5, g0, g1, hm, List.length_map, hlt', ha, hb, q1]
   cases k0 : decide (nm = nm') with
   | false =>
    have hR' : r = false := by rw [← hR, k0]; simp only [Bool.false_and, Bool.and_false]
    simp only [go_sem, simprocAttr, k0, q1, hR']
   | true =>
   rw [k0] at hR
   simp only [go_sem, simprocAttr, k0, q1, iP]
   cases k1 : decide (ps = ps') with
   | false =>
    have hR' : r = false := by rw [← hR, k1]; simp only [Bool.false_and, Bool.and_false]
    simp only [go_sem, simprocAttr, k1, iP, hR']
   | true =>
   rw [k1] at hR
   simp only [go_sem, simprocAttr, k1, iP, iS]
   cases k2 : eqSs bd bd' with
   | false =>
    have hR' : r = false := by rw [← hR, k2]; simp only [Bool.false_and, Bool.and_false]
    simp only [go_sem, simprocAttr, k2, iS, hR']
   | true =>
   rw [k2] at hR
   simp only [go_sem, simprocAttr, k2, iS, h2, h3, h5, hw1]
   simp only [Bool.true_and, Bool.and_true] at hR
   exact ihk (a.length - (i + 1)) (by omega) _ _ ⟨i + 1, rfl, by omega, hR, by simp only [go_sem, simprocAttr, h2], by simp only [go_sem, simprocAttr, h3], by simp only [go_sem, simprocAttr], by simp only [go_sem, simprocAttr, g0], by simp only [go_sem, simprocAttr, g1], by simp only [go_sem, simprocAttr, hm] <;> omega⟩
  ·have hlt' : decide ((i : Int) < (a.length : Nat)) = false := by simp; omega
   rw [List.drop_of_length_le (by omega), List.drop_of_length_le (by omega)] at hR
   have hR' : r = true := by rw [← hR]; rfl
   simp only [go_sem, simprocAttr, h2, h3, h5, g0, g1, hm, List.length_map, hlt', hR']
 ·have d : decide (((a.length : Nat) : Int) = (b.length : Nat)) = false := by simp; omega
  have hne : eqFs a b = false := by
   cases he : eqFs a b with
   | false => rfl
   | true => exact absurd (eqFs_len he) hl
  simp only [go_sem, simprocAttr, rs, List.length_map, d, hne]
end Go.Proofs.YtghhkbigmmjanaaGreatDoor.VA

/-! Ph2 -/
namespace Go.Proofs.YtghhkbigmmjanaaGreatDoor.VA
open Go Go.RowKit
attribute [local go_sem] Nat.add_eq_left Nat.left_eq_add true_and and_true ite_true if_false Int.cast_ofNat_Int eq_self Nat.add_assoc Option.some.injEq decide_true decide_false Bool.not_true Bool.not_false List.size_toArray List.length_cons List.length_nil
set_option linter.unusedSimpArgs false
set_option maxRecDepth 100000

set_option maxRecDepth 20000 in
theorem c_eqStrs (a b : List (List UInt8)) (hlen : a.length ≤ BIG) (o o' : Own) (H : Heap) :
  calls Tryz.prog cfg 34 [.sl o (a.map encStr), .sl o' (b.map encStr)] H = some (.ret (.lit (.bool (decide (a = b)))) H) := by
 unfold BIG at hlen
 refine calls_pure (fn := Tryz.f34) rfl rfl rfl rfl rfl ?_ H
 have rs : Tryz.f34.results.toList = [.tmp 4] := rfl
 by_cases hl : a.length = b.length
 ·have d : decide (((a.length : Nat) : Int) = (b.length : Nat)) = true := by simp; omega
  generalize hr : decide (a = b) = r
  simp only [go_sem, simprocAttr, rs, List.length_map, d]
  refine W_loop_ind (fun k e H => ∃ i : Nat, k = a.length - i ∧ i ≤ a.length ∧ decide (a.drop i = b.drop i) = r ∧ gget .bad e 0 = .sl .sh (a.map encStr) ∧ gget .bad e 1 = .sl .sh (b.map encStr) ∧ gget .bad e 12 = .lit (.int .i64 (a.length : Nat)) ∧ gget .bad e 13 = .lit (.int .i64 (i : Nat)))
   a.length ⟨0, rfl, by omega, hr, by simp only [go_sem, simprocAttr], by simp only [go_sem, simprocAttr], by simp only [go_sem, simprocAttr], by simp only [go_sem, simprocAttr] <;> rfl⟩ ?_
  rintro k ih e H ⟨i, rfl, hle, hR, h0, h1, h12, h13⟩
  by_cases hlt : i < a.length
  ·have hlt' : decide ((i : Int) < (a.length : Nat)) = true := by simp; omega
   have hlb : i < b.length := by omega
   rw [drop_cons' [] hlt, drop_cons' [] hlb] at hR
   have ha := iad_encStr (t := 9) (bs := 16) (o := .sh) hlt
   have hb := iad_encStr (t := 9) (bs := 16) (o := .sh) hlb
   generalize a.getD i [] = x at hR ha
   generalize b.getD i [] = y at hR hb
   have hw1 := wrap1 (show i + 1 ≤ 9223372036854775807 by omega)
   have hxy : decide (ba x = ba y) = decide (x = y) := by simp [ba_inj]
   simp only [go_sem, simprocAttr, h0, h1, h12, h13, List.length_map, hlt', ha, hb, encStr]
   refine W_draw [(3, 7)] (by kernel_rfl) ?_
   simp only [go_sem, simprocAttr, h0, h1, h12, h13, List.length_map, hlt', ha, hb, encStr, hxy]
   by_cases he : x = y
   ·have de : decide (x = y) = true := by simp [he]
    have hR' : decide (a.drop (i + 1) = b.drop (i + 1)) = r := by rw [← hR]; simp [he]
    simp only [go_sem, simprocAttr, de, h0, h1, h12, h13, hw1]
    exact ih (a.length - (i + 1)) (by omega) _ _ ⟨i + 1, rfl, by omega, hR', by simp only [go_sem, simprocAttr, h0], by simp only [go_sem, simprocAttr, h1], by simp only [go_sem, simprocAttr, h12], by simp only [go_sem, simprocAttr]⟩
   ·have de : decide (x = y) = false := by simp [he]
    have hR' : r = false := by rw [← hR]; simp [he]
    simp only [go_sem, simprocAttr, de, hR']
  ·have hlt' : decide ((i : Int) < (a.length : Nat)) = false := by simp; omega
   rw [List.drop_of_length_le (by omega), List.drop_of_length_le (by omega)] at hR
   have hR' : r = true := by rw [← hR]; simp
   simp only [go_sem, simprocAttr, h0, h1, h12, h13, List.length_map, hlt', hR']
 ·have d : decide (((a.length : Nat) : Int) = (b.length : Nat)) = false := by simp; omega
  have hne : decide (a = b) = false := by simp; intro h; exact hl (by rw [h])
  simp only [go_sem, simprocAttr, rs, List.length_map, d, hne]
set_option maxRecDepth 20000 in
theorem c_eqOpds (a b : List Opd) (hlen : a.length ≤ BIG) (o o' : Own) (H : Heap) :
  calls Tryz.prog cfg 64 [.sl o (a.map encOpd), .sl o' (b.map encOpd)] H = some (.ret (.lit (.bool (decide (a = b)))) H) := by
 unfold BIG at hlen
 refine calls_pure (fn := Tryz.f64) rfl rfl rfl rfl rfl ?_ H
 have rs : Tryz.f64.results.toList = [.tmp 4] := rfl
 by_cases hl : a.length = b.length
 ·have d : decide (((a.length : Nat) : Int) = (b.length : Nat)) = true := by simp; omega
  generalize hr : decide (a = b) = r
  simp only [go_sem, simprocAttr, rs, List.length_map, d]
  refine W_loop_ind (fun k e H => ∃ i : Nat, k = a.length - i ∧ i ≤ a.length ∧ decide (a.drop i = b.drop i) = r ∧ gget .bad e 0 = .sl .sh (a.map encOpd) ∧ gget .bad e 1 = .sl .sh (b.map encOpd) ∧ gget .bad e 12 = .lit (.int .i64 (a.length : Nat)) ∧ gget .bad e 13 = .lit (.int .i64 (i : Nat)))
   a.length ⟨0, rfl, by omega, hr, by simp only [go_sem, simprocAttr], by simp only [go_sem, simprocAttr], by simp only [go_sem, simprocAttr], by simp only [go_sem, simprocAttr] <;> rfl⟩ ?_
  rintro k ih e H ⟨i, rfl, hle, hR, h0, h1, h12, h13⟩
  by_cases hlt : i < a.length
  ·have hlt' : decide ((i : Int) < (a.length : Nat)) = true := by simp; omega
   have hlb : i < b.length := by omega
   rw [drop_cons' ⟨0, 0, []⟩ hlt, drop_cons' ⟨0, 0, []⟩ hlb] at hR
   have ha := iad_encOpd (t := 50) (bs := 32) (o := .sh) hlt
   have hb := iad_encOpd (t := 50) (bs := 32) (o := .sh) hlb
   generalize a.getD i ⟨0, 0, []⟩ = x at hR ha
   generalize b.getD i ⟨0, 0, []⟩ = y at hR hb
   have hw1 := wrap1 (show i + 1 ≤ 9223372036854775807 by omega)
   have hxy : (decide (x.kind = y.kind) && (decide (x.n = y.n) && decide (ba x.name = ba y.name))) = decide (x = y) := by cases x; cases y; rw [Bool.eq_iff_iff]; simp [ba_inj]
   simp only [go_sem, simprocAttr, h0, h1, h12, h13, List.length_map, hlt', ha, hb, encOpd]
   refine W_draw [(3, 7)] (by kernel_rfl) ?_
   simp only [go_sem, simprocAttr, h0, h1, h12, h13, List.length_map, hlt', ha, hb, encOpd, hxy]
   by_cases he : x = y
   ·have de : decide (x = y) = true := by simp [he]
    have hR' : decide (a.drop (i + 1) = b.drop (i + 1)) = r := by rw [← hR]; simp [he]
    simp only [go_sem, simprocAttr, de, h0, h1, h12, h13, hw1]
    exact ih (a.length - (i + 1)) (by omega) _ _ ⟨i + 1, rfl, by omega, hR', by simp only [go_sem, simprocAttr, h0], by simp only [go_sem, simprocAttr, h1], by simp only [go_sem, simprocAttr, h12], by simp only [go_sem, simprocAttr]⟩
   ·have de : decide (x = y) = false := by simp [he]
    have hR' : r = false := by rw [← hR]; simp [he]
    simp only [go_sem, simprocAttr, de, hR']
  ·have hlt' : decide ((i : Int) < (a.length : Nat)) = false := by simp; omega
   rw [List.drop_of_length_le (by omega), List.drop_of_length_le (by omega)] at hR
   have hR' : r = true := by rw [← hR]; simp
   simp only [go_sem, simprocAttr, h0, h1, h12, h13, List.length_map, hlt', hR']
 ·have d : decide (((a.length : Nat) : Int) = (b.length : Nat)) = false := by simp; omega
  have hne : decide (a = b) = false := by simp; intro h; exact hl (by rw [h])
  simp only [go_sem, simprocAttr, rs, List.length_map, d, hne]
set_option maxRecDepth 20000 in
theorem c_eqStmts (a b : List GStmt) (hlen : a.length ≤ BIG) (hC : ∀ i, i < a.length → ∀ (y : GStmt) (H : Heap), calls Tryz.prog cfg 36 [.agg (encStmt (a.getD i noStmt)), .agg (encStmt y)] H = some (.ret (.lit (.bool (eqS (a.getD i noStmt) y))) H)) (o o' : Own) (H : Heap) :
  calls Tryz.prog cfg 35 [.sl o (a.map encStmt), .sl o' (b.map encStmt), .fn 36 []] H = some (.ret (.lit (.bool (eqSs a b))) H) := by
 unfold BIG at hlen
 refine calls_pure (fn := Tryz.f35) rfl rfl rfl rfl rfl ?_ H
 have rs : Tryz.f35.results.toList = [.tmp 6] := rfl
 by_cases hl : a.length = b.length
 ·have d : decide (((a.length : Nat) : Int) = (b.length : Nat)) = true := by simp; omega
  generalize hr : eqSs a b = r
  simp only [go_sem, simprocAttr, rs, List.length_map, d]
  refine W_loop_ind (fun k e H => ∃ i : Nat, k = a.length - i ∧ i ≤ a.length ∧ eqSs (a.drop i) (b.drop i) = r ∧ gget .bad e 1 = .sl .sh (b.map encStmt) ∧ gget .bad e 2 = .fn 36 [] ∧ gget .bad e 15 = .sl .sh (a.map encStmt) ∧ gget .bad e 16 = .lit (.int .i64 (a.length : Nat)) ∧ gget .bad e 17 = .lit (.int .i64 (i : Nat)))
   a.length ⟨0, rfl, by omega, hr, by simp only [go_sem, simprocAttr], by simp only [go_sem, simprocAttr], by simp only [go_sem, simprocAttr], by simp only [go_sem, simprocAttr], by simp only [go_sem, simprocAttr] <;> rfl⟩ ?_
  rintro k ih e H ⟨i, rfl, hle, hR, h1, h2, h15, h16, h17⟩
  obtain ⟨m, hm⟩ : ∃ m, H.next = m := ⟨_, rfl⟩
  by_cases hlt : i < a.length
  ·have hlt' : decide ((i : Int) < (a.length : Nat)) = true := by simp; omega
   have hlb : i < b.length := by omega
   have hq := hC i hlt
   rw [drop_cons' noStmt hlt, drop_cons' noStmt hlb] at hR
   have ha := iad_encStmt (t := 40) (bs := 152) (o := .sh) hlt
   have hb := iad_encStmt (t := 40) (bs := 152) (o := .sh) hlb
   generalize a.getD i noStmt = x at hR ha hq
   generalize b.getD i noStmt = y at hR hb
   have hw1 := wrap1 (show i + 1 ≤ 9223372036854775807 by omega)
   have hc := fun H => hq y H
   simp only [eqSs] at hR
   generalize eqS x y = q at hR hc
   obtain ⟨op, x1, z, p, ar, ps, th, el⟩ := x
   obtain ⟨op', x1', z', p', ar', ps', th', el'⟩ := y
   simp only [encStmt_mk] at ha hb hc
   simp only [go_sem, simprocAttr, h1, h2, h15, h16, h17, hm, List.length_map, hlt', ha, hb, hc]
   cases q with
   | false =>
    have hR' : r = false := by rw [← hR]; rfl
    simp only [go_sem, simprocAttr, hR']
   | true =>
    rw [Bool.true_and] at hR
    simp only [go_sem, simprocAttr, h1, h2, h15, h16, h17, hw1]
    exact ih (a.length - (i + 1)) (by omega) _ _ ⟨i + 1, rfl, by omega, hR, by simp only [go_sem, simprocAttr, h1], by simp only [go_sem, simprocAttr, h2], by simp only [go_sem, simprocAttr, h15], by simp only [go_sem, simprocAttr, h16], by simp only [go_sem, simprocAttr]⟩
  ·have hlt' : decide ((i : Int) < (a.length : Nat)) = false := by simp; omega
   rw [List.drop_of_length_le (by omega), List.drop_of_length_le (by omega)] at hR
   have hR' : r = true := by rw [← hR]; rfl
   simp only [go_sem, simprocAttr, h1, h2, h15, h16, h17, hm, List.length_map, hlt', hR']
 ·have d : decide (((a.length : Nat) : Int) = (b.length : Nat)) = false := by simp; omega
  have hne : eqSs a b = false := by
   cases he : eqSs a b with
   | false => rfl
   | true => exact absurd (eqSs_len he) hl
  simp only [go_sem, simprocAttr, rs, List.length_map, d, hne]
/-- What is said of statements' lists that are no larger than so much. -/
def EqOk (n : Nat) : Prop := ∀ (a b : List GStmt) (o o' : Own) (H : Heap), szSs a ≤ n → fitSs a = true → a.length ≤ BIG →
 calls Tryz.prog cfg 35 [.sl o (a.map encStmt), .sl o' (b.map encStmt), .fn 36 []] H = some (.ret (.lit (.bool (eqSs a b))) H)
set_option maxRecDepth 20000 in
theorem c_sameStmt (n : Nat) (ih : EqOk n) (s t : GStmt) (hsz : szS s ≤ n + 1) (hfx : fitS s = true) (H : Heap) :
  calls Tryz.prog cfg 36 [.agg (encStmt s), .agg (encStmt t)] H = some (.ret (.lit (.bool (eqS s t))) H) := by
 obtain ⟨op, x, z, p, ar, ps, th, el⟩ := s
 obtain ⟨op', x', z', p', ar', ps', th', el'⟩ := t
 simp only [szS] at hsz
 simp only [fitS, Bool.and_eq_true, decide_eq_true_eq] at hfx
 obtain ⟨f1, f2, f3, f4, f5, f6⟩ := hfx
 have iT := fun H => ih th th' .sh .sh H (by omega) f5 f3
 have iE := fun H => ih el el' .sh .sh H (by omega) f6 f4
 have iP := fun H => c_eqStrs ps ps' f2 .sh .sh H
 have iA := fun H => c_eqOpds ar ar' f1 .sh .sh H
 have q2 : decide (ba x = ba x') = decide (x = x') := by simp [ba_inj]
 have q3 : decide (ba z = ba z') = decide (z = z') := by simp [ba_inj]
 have q4 : decide (ba p = ba p') = decide (p = p') := by simp [ba_inj]
 generalize hR : eqS (.mk op x z p ar ps th el) (.mk op' x' z' p' ar' ps' th' el') = r
 simp only [eqS] at hR
 simp only [encStmt_mk]
 refine calls_pure (fn := Tryz.f36) rfl rfl rfl rfl rfl ?_ H
 have rs : Tryz.f36.results.toList = [.tmp 4] := rfl
 simp only [go_sem, simprocAttr, q2, q3, q4]
 cases k0 : decide (op = op') with
 | false =>
  have hR' : r = false := by rw [← hR, k0]; simp only [Bool.false_and, Bool.and_false]
  simp only [go_sem, simprocAttr, rs, k0, q2, q3, q4, iA, iP, iT, iE, hR']
 | true =>
 rw [k0] at hR
 simp only [go_sem, simprocAttr, k0, q2, q3, q4, iA, iP, iT, iE]
 cases k1 : decide (x = x') with
 | false =>
  have hR' : r = false := by rw [← hR, k1]; simp only [Bool.false_and, Bool.and_false]
  simp only [go_sem, simprocAttr, rs, k1, q2, q3, q4, iA, iP, iT, iE, hR']
 | true =>
 rw [k1] at hR
 simp only [go_sem, simprocAttr, k1, q2, q3, q4, iA, iP, iT, iE]
 cases k2 : decide (z = z') with
 | false =>
  have hR' : r = false := by rw [← hR, k2]; simp only [Bool.false_and, Bool.and_false]
  simp only [go_sem, simprocAttr, rs, k2, q2, q3, q4, iA, iP, iT, iE, hR']
 | true =>
 rw [k2] at hR
 simp only [go_sem, simprocAttr, k2, q2, q3, q4, iA, iP, iT, iE]
 cases k3 : decide (p = p') with
 | false =>
  have hR' : r = false := by rw [← hR, k3]; simp only [Bool.false_and, Bool.and_false]
  simp only [go_sem, simprocAttr, rs, k3, q2, q3, q4, iA, iP, iT, iE, hR']
 | true =>
 rw [k3] at hR
 simp only [go_sem, simprocAttr, k3, q2, q3, q4, iA, iP, iT, iE]
 cases k4 : decide (ar = ar') with
 | false =>
  have hR' : r = false := by rw [← hR, k4]; simp only [Bool.false_and, Bool.and_false]
  simp only [go_sem, simprocAttr, rs, k4, q2, q3, q4, iA, iP, iT, iE, hR']
 | true =>
 rw [k4] at hR
 simp only [go_sem, simprocAttr, k4, q2, q3, q4, iA, iP, iT, iE]
 cases k5 : decide (ps = ps') with
 | false =>
  have hR' : r = false := by rw [← hR, k5]; simp only [Bool.false_and, Bool.and_false]
  simp only [go_sem, simprocAttr, rs, k5, q2, q3, q4, iA, iP, iT, iE, hR']
 | true =>
 rw [k5] at hR
 simp only [go_sem, simprocAttr, k5, q2, q3, q4, iA, iP, iT, iE]
 cases k6 : eqSs th th' with
 | false =>
  have hR' : r = false := by rw [← hR, k6]; simp only [Bool.false_and, Bool.and_false]
  simp only [go_sem, simprocAttr, rs, k6, q2, q3, q4, iA, iP, iT, iE, hR']
 | true =>
 rw [k6] at hR
 simp only [go_sem, simprocAttr, k6, q2, q3, q4, iA, iP, iT, iE]
 simp only [Bool.and_self, Bool.true_and] at hR
 simp only [go_sem, simprocAttr, rs, iE, hR]
theorem eqOk : ∀ n, EqOk n := by
 intro n
 induction n with
 | zero => intro a b o o' H hz; exact absurd hz (by cases a <;> simp [szSs])
 | succ n ih =>
  intro a b o o' H hz hf hl
  refine c_eqStmts a b hl (fun i hi y H => ?_) o o' H
  have h1 : a[i]? = some (a.getD i noStmt) := by rw [List.getD_eq_getElem?_getD, List.getElem?_eq_getElem hi]; rfl
  have := szSs_mem h1
  exact c_sameStmt n ih _ _ (by omega) (fitSs_drop hf hi) H
set_option maxRecDepth 20000 in
theorem c_sameFn (f g : GFunc) (hfx : fitF f = true) (H : Heap) :
  calls Tryz.prog cfg 33 [.agg (encFunc f), .agg (encFunc g)] H = some (.ret (.lit (.bool (eqF f g))) H) := by
 obtain ⟨nm, ps, bd⟩ := f
 obtain ⟨nm', ps', bd'⟩ := g
 simp only [fitF, Bool.and_eq_true, decide_eq_true_eq] at hfx
 obtain ⟨f1, f2, f3⟩ := hfx
 have iP := fun H => c_eqStrs ps ps' f1 .sh .sh H
 have iS := fun H => eqOk _ bd bd' .sh .sh H (Nat.le_refl _) f3 f2
 have q1 : decide (ba nm = ba nm') = decide (nm = nm') := by simp [ba_inj]
 generalize hR : eqF ⟨nm, ps, bd⟩ ⟨nm', ps', bd'⟩ = r
 simp only [eqF] at hR
 simp only [encFunc]
 refine calls_pure (fn := Tryz.f33) rfl rfl rfl rfl rfl ?_ H
 have rs : Tryz.f33.results.toList = [.tmp 4] := rfl
 simp only [go_sem, simprocAttr, q1]
 cases k0 : decide (nm = nm') with
 | false =>
  have hR' : r = false := by rw [← hR, k0]; simp only [Bool.false_and, Bool.and_false]
  simp only [go_sem, simprocAttr, rs, k0, q1, hR']
 | true =>
 rw [k0] at hR
 simp only [go_sem, simprocAttr, k0, q1, iP]
 cases k1 : decide (ps = ps') with
 | false =>
  have hR' : r = false := by rw [← hR, k1]; simp only [Bool.false_and, Bool.and_false]
  simp only [go_sem, simprocAttr, rs, k1, iP, hR']
 | true =>
 rw [k1] at hR
 simp only [Bool.true_and] at hR
 simp only [go_sem, simprocAttr, rs, k1, iP, iS, hR]
set_option maxRecDepth 20000 in
theorem c_eqFuncs (a b : List GFunc) (hlen : a.length ≤ BIG) (hC : ∀ i, i < a.length → ∀ (y : GFunc) (H : Heap), calls Tryz.prog cfg 33 [.agg (encFunc (a.getD i ⟨[], [], []⟩)), .agg (encFunc y)] H = some (.ret (.lit (.bool (eqF (a.getD i ⟨[], [], []⟩) y))) H)) (o o' : Own) (H : Heap) :
  calls Tryz.prog cfg 32 [.sl o (a.map encFunc), .sl o' (b.map encFunc), .fn 33 []] H = some (.ret (.lit (.bool (eqFs a b))) H) := by
 unfold BIG at hlen
 refine calls_pure (fn := Tryz.f32) rfl rfl rfl rfl rfl ?_ H
 have rs : Tryz.f32.results.toList = [.tmp 6] := rfl
 by_cases hl : a.length = b.length
 ·have d : decide (((a.length : Nat) : Int) = (b.length : Nat)) = true := by simp; omega
  generalize hr : eqFs a b = r
  simp only [go_sem, simprocAttr, rs, List.length_map, d]
  refine W_loop_ind (fun k e H => ∃ i : Nat, k = a.length - i ∧ i ≤ a.length ∧ eqFs (a.drop i) (b.drop i) = r ∧ gget .bad e 1 = .sl .sh (b.map encFunc) ∧ gget .bad e 2 = .fn 33 [] ∧ gget .bad e 15 = .sl .sh (a.map encFunc) ∧ gget .bad e 16 = .lit (.int .i64 (a.length : Nat)) ∧ gget .bad e 17 = .lit (.int .i64 (i : Nat)))
   a.length ⟨0, rfl, by omega, hr, by simp only [go_sem, simprocAttr], by simp only [go_sem, simprocAttr], by simp only [go_sem, simprocAttr], by simp only [go_sem, simprocAttr], by simp only [go_sem, simprocAttr] <;> rfl⟩ ?_
  rintro k ih e H ⟨i, rfl, hle, hR, h1, h2, h15, h16, h17⟩
  obtain ⟨m, hm⟩ : ∃ m, H.next = m := ⟨_, rfl⟩
  by_cases hlt : i < a.length
  ·have hlt' : decide ((i : Int) < (a.length : Nat)) = true := by simp; omega
   have hlb : i < b.length := by omega
   have hq := hC i hlt
   rw [drop_cons' ⟨[], [], []⟩ hlt, drop_cons' ⟨[], [], []⟩ hlb] at hR
   have ha := iad_encFunc (t := 42) (bs := 64) (o := .sh) hlt
   have hb := iad_encFunc (t := 42) (bs := 64) (o := .sh) hlb
   generalize a.getD i ⟨[], [], []⟩ = x at hR ha hq
   generalize b.getD i ⟨[], [], []⟩ = y at hR hb
   have hw1 := wrap1 (show i + 1 ≤ 9223372036854775807 by omega)
   have hc := fun H => hq y H
   simp only [eqFs] at hR
   generalize eqF x y = q at hR hc
   obtain ⟨nm, ps, bd⟩ := x
   obtain ⟨nm', ps', bd'⟩ := y
   simp only [encFunc] at ha hb hc
   simp only [go_sem, simprocAttr, h1, h2, h15, h16, h17, hm, List.length_map, hlt', ha, hb, hc]
   cases q with
   | false =>
    have hR' : r = false := by rw [← hR]; rfl
    simp only [go_sem, simprocAttr, hR']
   | true =>
    rw [Bool.true_and] at hR
    simp only [go_sem, simprocAttr, h1, h2, h15, h16, h17, hw1]
    exact ih (a.length - (i + 1)) (by omega) _ _ ⟨i + 1, rfl, by omega, hR, by simp only [go_sem, simprocAttr, h1], by simp only [go_sem, simprocAttr, h2], by simp only [go_sem, simprocAttr, h15], by simp only [go_sem, simprocAttr, h16], by simp only [go_sem, simprocAttr]⟩
  ·have hlt' : decide ((i : Int) < (a.length : Nat)) = false := by simp; omega
   rw [List.drop_of_length_le (by omega), List.drop_of_length_le (by omega)] at hR
   have hR' : r = true := by rw [← hR]; rfl
   simp only [go_sem, simprocAttr, h1, h2, h15, h16, h17, hm, List.length_map, hlt', hR']
 ·have d : decide (((a.length : Nat) : Int) = (b.length : Nat)) = false := by simp; omega
  have hne : eqFs a b = false := by
   cases he : eqFs a b with
   | false => rfl
   | true => exact absurd (eqFs_len he) hl
  simp only [go_sem, simprocAttr, rs, List.length_map, d, hne]
set_option maxRecDepth 20000 in
theorem c_pSame (a b : List GFunc) (hfit : fitP a = true) (o o' : Own) (H : Heap) :
  calls Tryz.prog cfg 17 [.agg [.sl o (a.map encFunc)], .agg [.sl o' (b.map encFunc)]] H = some (.ret (.lit (.bool (eqFs a b))) H) := by
 have hlen : a.length ≤ BIG := by simp only [fitP, Bool.and_eq_true, decide_eq_true_eq] at hfit; exact hfit.1
 have hf := fun H => c_eqFuncs a b hlen (fun i hi y H => c_sameFn _ y (fitP_get hfit hi) H) .sh .sh H
 refine calls_pure (fn := Tryz.f17) rfl rfl rfl rfl rfl ?_ H
 have rs : Tryz.f17.results.toList = [.tmp 4] := rfl
 simp only [go_sem, simprocAttr, rs, hf]
end Go.Proofs.YtghhkbigmmjanaaGreatDoor.VA

/-! Pe0 -/
namespace Go.Proofs.YtghhkbigmmjanaaGreatDoor.VA
open Go Go.RowKit
set_option linter.unusedSimpArgs false
set_option maxRecDepth 100000

def PQ' (P : Program) (r : Nat) (rs : List ResultVar) (H0 : Heap) : Out → Post
 | .ok v cs => fun x e H => match x with
  | .nrm | .ret => (aResults P e H rs).map (fun vs => san (oneOr vs)) = some v ∧ H.get r = some cs ∧ Adv r H0 H
  | _ => False
 | .bad v => fun x _ H => match x with
  | .pan u => san u = v ∧ Adv r H0 H
  | _ => False
section
variable {P : Program} {c : Cfg} {r : Nat} {rs : List ResultVar} {H0 H : Heap} {e : List AV} {v : AV} {cs : List AV}
@[go_sem] theorem PQ'_nrm : PQ' P r rs H0 (.ok v cs) .nrm e H = ((aResults P e H rs).map (fun vs => san (oneOr vs)) = some v ∧ H.get r = some cs ∧ Adv r H0 H) := rfl
@[go_sem] theorem PQ'_ret : PQ' P r rs H0 (.ok v cs) .ret e H = ((aResults P e H rs).map (fun vs => san (oneOr vs)) = some v ∧ H.get r = some cs ∧ Adv r H0 H) := rfl
@[go_sem] theorem PQ'_pan {u : AV} : PQ' P r rs H0 (.bad v) (.pan u) e H = (san u = v ∧ Adv r H0 H) := rfl
theorem PCall_of' {f : FuncId} {fn : Func} {code : Code} {args : List AV} {q : Out} (ht : c.told f = none) (hf : c.fn f = some fn) (hi : c.imp f = true) (hb : fn.body = some code) (hn : Nat.ble args.length fn.ntmps = true)
  (h : W P c code [] args H (PQ' P r fn.results.toList H q)) (htr : c.trim f = none := by rfl) : PCall P c r f args H q := by
 refine PCall_of ht hf hi hb hn ?_ htr
 obtain ⟨x, e1, H1, hx, hq⟩ := h
 refine ⟨x, e1, H1, hx, ?_⟩
 rw [Fin_nil] at hq ⊢
 cases q with
 | bad v => exact hq
 | ok v cs =>
  have conv : (aResults P e1 H1 fn.results.toList).map (fun vs => san (oneOr vs)) = some v → ∃ vs, aResults P e1 H1 fn.results.toList = some vs ∧ san (oneOr vs) = v := by
   intro h
   cases hv : aResults P e1 H1 fn.results.toList with
   | none => rw [hv] at h; cases h
   | some vs => rw [hv] at h; exact ⟨vs, rfl, by simpa using h⟩
  cases x with
  | nrm => exact ⟨conv hq.1, hq.2⟩
  | ret => exact ⟨conv hq.1, hq.2⟩
  | pan u => exact hq.elim
  | exit j => exact hq.elim
end
/-- A fault, as the parser panics with it. -/
def encTrouble (code : Nat) (a : Int) : AV := .ifc 73 (.agg [.lit (.int .i64 ((code + 20 : Nat) : Int)), .lit (.int .i64 a)])
@[go_sem] theorem san_trouble (code : Nat) (a : Int) : san (encTrouble code a) = encTrouble code a := by simp only [encTrouble, go_sem]
def outP (l : List GTok) (en : Int) (s : PS) (v : AV) : Out :=
 match s.f with
 | none => .ok v (cP l en s)
 | some (c, a) => .bad (encTrouble c a)
section
variable {l : List GTok} {en : Int} {P : Program} {c : Cfg} {r : Nat} {s' : PS} {v : AV} {H : Heap} {e : List AV}
theorem outP_none (h : s'.f = none) : outP l en s' v = .ok v (cP l en s') := by simp only [outP, h]
theorem outP_some {q : Nat × Int} (h : s'.f = some q) : outP l en s' v = .bad (encTrouble q.1 q.2) := by simp only [outP, h]
variable {st : List Fr} {Q : Post} {ds : List (Option Tmp)} {base : Nat} {dst : Option Tmp} {os : List Oper} {i : Nat} {f : FuncId} {args : List AV} {un : List (Nat × Nat)} {dd : List (List Nat)} {tr : List Tr}
theorem goC_out (h : PCall P c r f args H (outP l en s' v)) (ok : s'.f = none → ∀ H', H'.get r = some (cP l en s') → Adv r H H' → WO P c ds base os i st (aput e dst v) H' Q)
  (bad : ∀ q, s'.f = some q → ∀ H', Adv r H H' → Fin P c st (.pan (encTrouble q.1 q.2)) e H' Q) : goC P c (calls P c f args H) ds base dst os i st e Q := by
 cases hf : s'.f with
 | none => rw [outP_none hf] at h; exact goC_ok h (ok hf)
 | some q => rw [outP_some hf] at h; exact goC_bad h (bad q hf)
theorem eK_out (hi : c.imp f = true) (h : PCall P c r f args H (outP l en s' v))
  (ok : s'.f = none → ∀ H', H'.get r = some (cP l en s') → Adv r H H' → WE P c un ds dd base st Q os (i + 1) (tr ++ [.call v H H']) (aput e dst v) H')
  (bad : ∀ q, s'.f = some q → ∀ H', Adv r H H' → WX P c un ds (gget [] dd i) base st (encTrouble q.1 q.2) H' Q os (i + 1) (tr ++ [.pan]) e H) :
  eK P c (calls P c f args H) true un ds dd base st Q dst os i tr e H := by
 cases hf : s'.f with
 | none => rw [outP_none hf] at h; have := eK_ok hi h (ok hf); rw [hi] at this; exact this
 | some q => rw [outP_some hf] at h; have := eK_bad (dst := dst) hi h (bad q hf); rw [hi] at this; exact this
theorem eK_ok' (hi : c.imp f = true) {cs : List AV} (h : PCall P c r f args H (.ok v cs))
  (ok : ∀ H', H'.get r = some cs → Adv r H H' → WE P c un ds dd base st Q os (i + 1) (tr ++ [.call v H H']) (aput e dst v) H') :
  eK P c (calls P c f args H) true un ds dd base st Q dst os i tr e H := by
 have := eK_ok hi h ok; rw [hi] at this; exact this
end
end Go.Proofs.YtghhkbigmmjanaaGreatDoor.VA

/-! Pe1 -/
namespace Go.Proofs.YtghhkbigmmjanaaGreatDoor.VA
open Go Go.RowKit
attribute [local go_sem] Nat.add_eq_left Nat.left_eq_add true_and and_true ite_true if_false Int.cast_ofNat_Int eq_self Nat.add_assoc Option.some.injEq decide_true decide_false Bool.not_true Bool.not_false List.size_toArray List.length_cons List.length_nil
set_option linter.unusedSimpArgs false
set_option maxRecDepth 100000

theorem conc_tro : Tryz.prog.concrete 73 = true := by kernel_rfl
section
variable {l : List GTok} {en : Int} {r : Nat} {s : PS} {H : Heap}
theorem ne_new {H : Heap} {r : Nat} (h : r < H.next) : ∀ k, (H.next + k = r) = False := fun k => eq_false (by omega)
theorem ne_new' {H : Heap} {r : Nat} (h : r < H.next) : ∀ k, (r = H.next + k) = False := fun k => eq_false (by omega)
theorem ne_new0 {H : Heap} {r : Nat} (h : r < H.next) : (H.next = r) = False := eq_false (by omega)
theorem ne_all {H : Heap} {r : Nat} (h : r < H.next) : (∀ k, (H.next + k = r) = False) ∧ (H.next = r) = False ∧ (∀ k, (r = H.next + k) = False) ∧ ∀ n : Nat, n + 0 = n := ⟨ne_new h, ne_new0 h, ne_new' h, Nat.add_zero⟩
theorem ne_thr {a b : Nat} (h : a < b) : (∀ j, (b + j = a) = False) ∧ (b = a) = False ∧ ∀ j, (a = b + j) = False := ⟨fun j => eq_false (by omega), eq_false (by omega), fun j => eq_false (by omega)⟩
def sZ : List AV := [.lit (.int .i64 0), .lit (.string (ba [])), .lit (.string (ba [])), .lit (.string (ba [])), .sl .nil [], .sl .nil [], .sl .nil [], .sl .nil []]
@[go_sem] theorem sZ_eq : sZ = [.lit (.int .i64 0), .lit (.string (ba [])), .lit (.string (ba [])), .lit (.string (ba [])), .sl .nil [], .sl .nil [], .sl .nil [], .sl .nil []] := rfl
theorem c_place (_ : r < H.next) (hg : H.get r = some (cP l en s)) : PCall Tryz.prog cfg r 113 [.ptr r 0] H (.ok (.lit (.int .i64 (place l en s.at_))) (cP l en s)) := by
 refine PCall_of' (fn := Tryz.f113) rfl rfl rfl rfl rfl ?_
 have rs : Tryz.f113.results.toList = [.tmp 2] := rfl
 simp only [go_sem, simprocAttr]
 refine W_draw [(3, 7)] (by kernel_rfl) ?_
 by_cases hlt : s.at_ < l.length
 ·have hlt' : decide ((s.at_ : Int) < (l.length : Nat)) = true := by simp; omega
  have ha := iad_encG (t := 66) (bs := 32) (o := .sh) hlt
  have hp : place l en s.at_ = (l.getD s.at_ default).at_ := by simp only [place, hlt, if_true]
  rw [hp]
  simp only [go_sem, simprocAttr, hg, List.length_map, hlt']
  refine W_draw [(3, 7)] (by kernel_rfl) ?_
  simp only [go_sem, simprocAttr, rs, hg, ha, encG]
  (repeat first | exact Adv.refl _ _ | assumption | refine Adv.trans ?_ ha1 | refine Adv.trans ?_ ha2 | refine Adv.trans ?_ ha3 | refine Adv.trans ?_ ha4 | refine Adv.trans ?_ ha5 | refine Adv.trans ?_ ha6 | apply Adv.up | apply Adv.put | refine Adv.new ?_ (by omega) _ | refine Adv.live ?_ (by omega) _)
 ·have hlt' : decide ((s.at_ : Int) < (l.length : Nat)) = false := by simp; omega
  have hp : place l en s.at_ = en := by simp only [place, hlt, if_false]
  rw [hp]
  simp only [go_sem, simprocAttr, rs, hg, List.length_map, hlt']
  (repeat first | exact Adv.refl _ _ | assumption | refine Adv.trans ?_ ha1 | refine Adv.trans ?_ ha2 | refine Adv.trans ?_ ha3 | refine Adv.trans ?_ ha4 | refine Adv.trans ?_ ha5 | refine Adv.trans ?_ ha6 | apply Adv.up | apply Adv.put | refine Adv.new ?_ (by omega) _ | refine Adv.live ?_ (by omega) _)
theorem c_fail (hr : r < H.next) (hg : H.get r = some (cP l en s)) (code : Nat) {k : Int} (hk : k = ((code + 20 : Nat) : Int)) :
  PCall Tryz.prog cfg r 101 [.ptr r 0, .lit (.int .i64 k)] H (.bad (encTrouble code (place l en s.at_))) := by
 refine PCall_of' (fn := Tryz.f101) rfl rfl rfl rfl rfl ?_
 have rs : Tryz.f101.results.toList = [] := rfl
 subst hk
 simp only [go_sem, simprocAttr]
 refine goC_ok (c_place (s := s) (l := l) (en := en) (by simp only [go_sem, simprocAttr]; omega) (by simp only [go_sem, simprocAttr, hg])) ?_
 intro H1 hg1 ha1
 have e1 : ∀ (ρ : Operand → AV) (H : Heap) (id : Nat) (x : Operand), astep Tryz.prog ρ H id (.makeInterface 73 x) = some (.val (.ifc 73 (ρ x)) [] []) := fun ρ H id x => st_makeIface x conc_tro
 simp only [go_sem, simprocAttr, e1, encTrouble]
 (repeat first | exact Adv.refl _ _ | assumption | refine Adv.trans ?_ ha1 | refine Adv.trans ?_ ha2 | refine Adv.trans ?_ ha3 | refine Adv.trans ?_ ha4 | refine Adv.trans ?_ ha5 | refine Adv.trans ?_ ha6 | apply Adv.up | apply Adv.put | refine Adv.new ?_ (by omega) _ | refine Adv.live ?_ (by omega) _)
theorem slice_tok {i : Nat} (h : i < l.length) : aSlice Tryz.prog 45 (.sl .sh (l.map encG)) (some (.lit (.int .i64 (i : Nat)))) (some (.lit (.int .i64 (i + 1 : Nat)))) = some (.sl .sh ([l.getD i default].map encG)) := by
 have hi : (l.map encG)[i]? = some (encG (l.getD i default)) := by
  rw [List.getElem?_map, List.getElem?_eq_getElem h, List.getD_eq_getElem?_getD, List.getElem?_eq_getElem h]; rfl
 have hd : ((l.map encG).drop i).take 1 = [l.getD i default].map encG := by
  rw [← List.map_drop, drop_cons' default h]; rfl
 have h1 : ((i + 1 : Nat) : Int) = (i : Int) + 1 := by omega
 simp only [aSlice, el_tok, optNat, aNat_cast, hi, List.length_map]
 rw [if_pos (by omega), if_neg (by omega)]
 simp only [encG, List.length_cons, List.length_nil, if_true]
 rw [show i + 1 - i = 1 by omega, hd]
/-- The next token, or the zero one. -/
def peekG (l : List GTok) (s : PS) : GTok := match l[s.at_]? with | some x => if rightG x = true then x else ⟨-1, [], 0⟩ | none => ⟨-1, [], 0⟩
theorem c_peek (hlen : l.length ≤ LM) (hr : r < H.next) (hg : H.get r = some (cP l en s)) : PCall Tryz.prog cfg r 114 [.ptr r 0] H (.ok (.agg (encG (peekG l s))) (cP l en s)) := by
 refine PCall_of' (fn := Tryz.f114) rfl rfl rfl rfl rfl ?_
 have rs : Tryz.f114.results.toList = [.cell 2 66] := rfl
 have hn := ne_new hr
 have hn' := ne_new' hr
 have hn0 := ne_new0 hr
 simp only [go_sem, simprocAttr]
 refine W_draw [(3, 7), (14, 18), (14, 22), (18, 22)] (by kernel_rfl) ?_
 have hz : encG ⟨-1, [], 0⟩ = [.lit (.int .i64 (-1)), .lit (.string (ba [])), .lit (.int .i64 0)] := rfl
 by_cases hlt : s.at_ < l.length
 ·have hlt' : decide ((s.at_ : Int) < (l.length : Nat)) = true := by simp; omega
  have hx : l[s.at_]? = some (l.getD s.at_ default) := by rw [List.getD_eq_getElem?_getD, List.getElem?_eq_getElem hlt]; rfl
  have hw := at_wrap hlen hlt
  have hsl := slice_tok hlt
  have ha := iad_encG (t := 66) (bs := 32) (o := .sh) hlt
  generalize l.getD s.at_ default = x at hx hsl ha
  have hmay : [x].all rightG = rightG x := by simp
  have hm : ∀ H, calls Tryz.prog cfg 121 [.sl .sh [encG x]] H = some (.ret (.lit (.bool (rightG x))) H) := fun H => by
   have := c_may [x] (by simp) .sh H
   rwa [hmay] at this
  cases hR : rightG x with
  | true =>
   have hp : peekG l s = x := by simp only [peekG, hx, hR, if_true]
   rw [hp]
   simp only [go_sem, simprocAttr, hg, hn, hn0, List.length_map, hlt', hw, hsl, hm, hR]
   refine W_draw [(3, 7)] (by kernel_rfl) ?_
   simp only [go_sem, simprocAttr, rs, hg, hn, hn0, ha, encG]
   (repeat first | exact Adv.refl _ _ | assumption | refine Adv.trans ?_ ha1 | refine Adv.trans ?_ ha2 | refine Adv.trans ?_ ha3 | refine Adv.trans ?_ ha4 | refine Adv.trans ?_ ha5 | refine Adv.trans ?_ ha6 | apply Adv.up | apply Adv.put | refine Adv.new ?_ (by omega) _ | refine Adv.live ?_ (by omega) _)
  | false =>
   have hp : peekG l s = ⟨-1, [], 0⟩ := by simp only [peekG, hx, hR]; rfl
   rw [hp]
   simp only [go_sem, simprocAttr, rs, hg, hn, hn0, List.length_map, hlt', hw, hsl, hm, hR, hz]
   (repeat first | exact Adv.refl _ _ | assumption | refine Adv.trans ?_ ha1 | refine Adv.trans ?_ ha2 | refine Adv.trans ?_ ha3 | refine Adv.trans ?_ ha4 | refine Adv.trans ?_ ha5 | refine Adv.trans ?_ ha6 | apply Adv.up | apply Adv.put | refine Adv.new ?_ (by omega) _ | refine Adv.live ?_ (by omega) _)
 ·have hlt' : decide ((s.at_ : Int) < (l.length : Nat)) = false := by simp; omega
  have hx : l[s.at_]? = none := List.getElem?_eq_none (by omega)
  have hp : peekG l s = ⟨-1, [], 0⟩ := by simp only [peekG, hx]
  rw [hp]
  simp only [go_sem, simprocAttr, rs, hg, hn, hn0, List.length_map, hlt', hz]
  (repeat first | exact Adv.refl _ _ | assumption | refine Adv.trans ?_ ha1 | refine Adv.trans ?_ ha2 | refine Adv.trans ?_ ha3 | refine Adv.trans ?_ ha4 | refine Adv.trans ?_ ha5 | refine Adv.trans ?_ ha6 | apply Adv.up | apply Adv.put | refine Adv.new ?_ (by omega) _ | refine Adv.live ?_ (by omega) _)
theorem peek_is (hf : s.f = none) (t : List UInt8) (ht : t ≠ []) : (decide ((peekG l s).text = t) && !decide ((peekG l s).kind = 1)) = isT l s t := by
 cases h : l[s.at_]? with
 | none =>
  simp only [peekG, isT, tk, hf, h]
  simp [ht.symm]
 | some x =>
  simp only [peekG, isT, tk, hf, h]
  cases hx : rightG x with
  | true => simp
  | false => simp [ht.symm]
theorem peek_name (hf : s.f = none) : (decide ((peekG l s).kind = 0) && !keyword (peekG l s).text) = isName l s := by
 cases h : l[s.at_]? with
 | none =>
  simp only [peekG, isName, tk, hf, h]
  simp
 | some x =>
  simp only [peekG, isName, tk, hf, h]
  cases hx : rightG x with
  | true => simp
  | false => simp
theorem peek_num (hf : s.f = none) : decide ((peekG l s).kind = 1) = isNum l s := by
 cases h : l[s.at_]? with
 | none =>
  simp only [peekG, isNum, tk, hf, h]
  simp
 | some x =>
  simp only [peekG, isNum, tk, hf, h]
  cases hx : rightG x with
  | true => simp
  | false => simp
theorem c_is (hlen : l.length ≤ LM) (hf : s.f = none) (hr : r < H.next) (hg : H.get r = some (cP l en s)) (t : List UInt8) (ht : t ≠ []) :
  PCall Tryz.prog cfg r 103 [.ptr r 0, .lit (.string (ba t))] H (.ok (.lit (.bool (isT l s t))) (cP l en s)) := by
 refine PCall_of' (fn := Tryz.f103) rfl rfl rfl rfl rfl ?_
 have rs : Tryz.f103.results.toList = [.tmp 4] := rfl
 have hp := peek_is (l := l) hf t ht
 generalize isT l s t = b at hp
 simp only [go_sem, simprocAttr]
 refine goC_ok (c_peek (s := s) (l := l) (en := en) hlen (by simp only [go_sem, simprocAttr]; omega) (by simp only [go_sem, simprocAttr, hg])) ?_
 intro H1 hg1 ha1
 have hl1 := ha1.1
 simp only [go_sem, simprocAttr] at hl1
 have hr1 : r < H1.next := by omega
 have hn := ne_new hr1
 have hn0 := ne_new0 hr1
 have hm := ne_new hr
 have hm0 := ne_new0 hr
 generalize peekG l s = x at hp
 have hd : decide (ba x.text = ba t) = decide (x.text = t) := by simp [ba_inj]
 simp only [go_sem, simprocAttr, encG, hn, hn0, hm, hm0, hg1, hd]
 cases h1 : decide (x.text = t) with
 | true =>
  rw [h1, Bool.true_and] at hp
  simp only [go_sem, simprocAttr, rs, encG, hn, hn0, hm, hm0, hg1, hp]
  (repeat first | exact Adv.refl _ _ | assumption | refine Adv.trans ?_ ha1 | refine Adv.trans ?_ ha2 | refine Adv.trans ?_ ha3 | refine Adv.trans ?_ ha4 | refine Adv.trans ?_ ha5 | refine Adv.trans ?_ ha6 | apply Adv.up | apply Adv.put | refine Adv.new ?_ (by omega) _ | refine Adv.live ?_ (by omega) _)
 | false =>
  rw [h1, Bool.false_and] at hp
  simp only [go_sem, simprocAttr, rs, encG, hn, hn0, hm, hm0, hg1, ← hp]
  (repeat first | exact Adv.refl _ _ | assumption | refine Adv.trans ?_ ha1 | refine Adv.trans ?_ ha2 | refine Adv.trans ?_ ha3 | refine Adv.trans ?_ ha4 | refine Adv.trans ?_ ha5 | refine Adv.trans ?_ ha6 | apply Adv.up | apply Adv.put | refine Adv.new ?_ (by omega) _ | refine Adv.live ?_ (by omega) _)
end
end Go.Proofs.YtghhkbigmmjanaaGreatDoor.VA

/-! Pe2 -/
namespace Go.Proofs.YtghhkbigmmjanaaGreatDoor.VA
open Go Go.RowKit
attribute [local go_sem] Nat.add_eq_left Nat.left_eq_add true_and and_true ite_true if_false Int.cast_ofNat_Int eq_self Nat.add_assoc Option.some.injEq decide_true decide_false Bool.not_true Bool.not_false List.size_toArray List.length_cons List.length_nil
set_option linter.unusedSimpArgs false
set_option maxRecDepth 100000

section
variable {l : List GTok} {en : Int} {r : Nat} {s : PS} {H : Heap}
def takeP (l : List GTok) (s : PS) (t : List UInt8) : PS := match isT l s t with | true => s.adv | false => s
theorem outP_fail (hf : s.f = none) (code : Nat) (v : AV) : outP l en (pfail l en s code) v = .bad (encTrouble code (place l en s.at_)) := by simp only [pfail, hf, outP]
theorem c_take (hlen : l.length ≤ LM) (hf : s.f = none) (hr : r < H.next) (hg : H.get r = some (cP l en s)) (t : List UInt8) (ht : t ≠ []) :
  PCall Tryz.prog cfg r 100 [.ptr r 0, .lit (.string (ba t))] H (.ok (.lit (.bool (isT l s t))) (cP l en (takeP l s t))) := by
 refine PCall_of' (fn := Tryz.f100) rfl rfl rfl rfl rfl ?_
 have rs : Tryz.f100.results.toList = [.tmp 4] := rfl
 have hn := ne_new hr
 have hz := ne_new0 hr
 have hn' := ne_new' hr
 simp only [go_sem, simprocAttr]
 refine goC_ok (c_is (s := s) (l := l) (en := en) hlen hf (by first | omega | (simp only [go_sem, simprocAttr]; omega)) (by first | assumption | simp only [go_sem, simprocAttr, hg, hn, hz, hn', Nat.add_zero]) t ht) ?_
 intro H1 hg1 ha1
 have hl1 := ha1.1
 try simp only [go_sem, simprocAttr] at hl1
 have hr1 : r < H1.next := by omega
 have hn1 := ne_new hr1
 have hz1 := ne_new0 hr1
 have hx1 := ne_new' hr1
 cases h : isT l s t with
 | true =>
  have hw := at_wrap hlen (isT_at h)
  have e : takeP l s t = s.adv := by simp only [takeP, h]
  rw [e]
  simp only [go_sem, simprocAttr, hg1, hn, hz, hn', Nat.add_zero, hn1, hz1, hx1, rs, hw]
  (repeat first | exact Adv.refl _ _ | assumption | refine Adv.trans ?_ had | refine Adv.trans ?_ ha1 | refine Adv.trans ?_ ha2 | refine Adv.trans ?_ ha3 | refine Adv.trans ?_ ha4 | refine Adv.trans ?_ ha5 | refine Adv.trans ?_ ha6 | refine Adv.trans ?_ ha7 | refine Adv.trans ?_ ha8 | refine Adv.trans ?_ ha9 | refine Adv.trans ?_ ha10 | refine Adv.trans ?_ ha11 | refine Adv.trans ?_ ha12 | apply Adv.up | apply Adv.put | refine Adv.new ?_ (by omega) _ | refine Adv.live ?_ (by omega) _ | refine Adv.owns ?_ (by omega) (by first | exact OwnB.lo ‹_› | exact fun _ _ _ h => by cases h))
 | false =>
  have e : takeP l s t = s := by simp only [takeP, h]
  rw [e]
  simp only [go_sem, simprocAttr, hg1, hn, hz, hn', Nat.add_zero, hn1, hz1, hx1, rs]
  (repeat first | exact Adv.refl _ _ | assumption | refine Adv.trans ?_ had | refine Adv.trans ?_ ha1 | refine Adv.trans ?_ ha2 | refine Adv.trans ?_ ha3 | refine Adv.trans ?_ ha4 | refine Adv.trans ?_ ha5 | refine Adv.trans ?_ ha6 | refine Adv.trans ?_ ha7 | refine Adv.trans ?_ ha8 | refine Adv.trans ?_ ha9 | refine Adv.trans ?_ ha10 | refine Adv.trans ?_ ha11 | refine Adv.trans ?_ ha12 | apply Adv.up | apply Adv.put | refine Adv.new ?_ (by omega) _ | refine Adv.live ?_ (by omega) _ | refine Adv.owns ?_ (by omega) (by first | exact OwnB.lo ‹_› | exact fun _ _ _ h => by cases h))
theorem c_take_yes (hlen : l.length ≤ LM) (hf : s.f = none) (hr : r < H.next) (hg : H.get r = some (cP l en s)) {t : List UInt8} (ht : t ≠ []) (h : isT l s t = true) :
  PCall Tryz.prog cfg r 100 [.ptr r 0, .lit (.string (ba t))] H (.ok (.lit (.bool true)) (cP l en s.adv)) := by
 have := c_take hlen hf hr hg t ht
 simp only [takeP, h] at this
 exact this
theorem c_take_no (hlen : l.length ≤ LM) (hf : s.f = none) (hr : r < H.next) (hg : H.get r = some (cP l en s)) {t : List UInt8} (ht : t ≠ []) (h : isT l s t = false) :
  PCall Tryz.prog cfg r 100 [.ptr r 0, .lit (.string (ba t))] H (.ok (.lit (.bool false)) (cP l en s)) := by
 have := c_take hlen hf hr hg t ht
 simp only [takeP, h] at this
 exact this
theorem needYes {t : List UInt8} (h : isT l s t = true) : need l en s t = s.adv := by simp only [need, h]
theorem c_need (hlen : l.length ≤ LM) (hf : s.f = none) (hr : r < H.next) (hg : H.get r = some (cP l en s)) (t : List UInt8) (ht : t ≠ []) :
  PCall Tryz.prog cfg r 81 [.ptr r 0, .lit (.string (ba t))] H (outP l en (need l en s t) (.tup [])) := by
 refine PCall_of' (fn := Tryz.f81) rfl rfl rfl rfl rfl ?_
 have rs : Tryz.f81.results.toList = [] := rfl
 have hn := ne_new hr
 have hz := ne_new0 hr
 have hn' := ne_new' hr
 simp only [go_sem, simprocAttr]
 cases h : isT l s t with
 | true =>
  rw [needYes h, outP_none (show s.adv.f = none from hf)]
  refine goC_ok (c_take_yes (s := s) (l := l) (en := en) hlen hf (by first | omega | (simp only [go_sem, simprocAttr]; omega)) (by first | assumption | simp only [go_sem, simprocAttr, hg, hn, hz, hn', Nat.add_zero]) ht h) ?_
  intro H1 hg1 ha1
  have hl1 := ha1.1
  try simp only [go_sem, simprocAttr] at hl1
  have hr1 : r < H1.next := by omega
  have hn1 := ne_new hr1
  have hz1 := ne_new0 hr1
  have hx1 := ne_new' hr1
  simp only [go_sem, simprocAttr, hg1, hn, hz, hn', Nat.add_zero, hn1, hz1, hx1, rs]
  (repeat first | exact Adv.refl _ _ | assumption | refine Adv.trans ?_ had | refine Adv.trans ?_ ha1 | refine Adv.trans ?_ ha2 | refine Adv.trans ?_ ha3 | refine Adv.trans ?_ ha4 | refine Adv.trans ?_ ha5 | refine Adv.trans ?_ ha6 | refine Adv.trans ?_ ha7 | refine Adv.trans ?_ ha8 | refine Adv.trans ?_ ha9 | refine Adv.trans ?_ ha10 | refine Adv.trans ?_ ha11 | refine Adv.trans ?_ ha12 | apply Adv.up | apply Adv.put | refine Adv.new ?_ (by omega) _ | refine Adv.live ?_ (by omega) _ | refine Adv.owns ?_ (by omega) (by first | exact OwnB.lo ‹_› | exact fun _ _ _ h => by cases h))
 | false =>
  have e : need l en s t = pfail l en s 0 := by simp only [need, h]
  rw [e, outP_fail hf]
  refine goC_ok (c_take_no (s := s) (l := l) (en := en) hlen hf (by first | omega | (simp only [go_sem, simprocAttr]; omega)) (by first | assumption | simp only [go_sem, simprocAttr, hg, hn, hz, hn', Nat.add_zero]) ht h) ?_
  intro H1 hg1 ha1
  have hl1 := ha1.1
  try simp only [go_sem, simprocAttr] at hl1
  have hr1 : r < H1.next := by omega
  have hn1 := ne_new hr1
  have hz1 := ne_new0 hr1
  have hx1 := ne_new' hr1
  simp only [go_sem, simprocAttr, hg1, hn, hz, hn', Nat.add_zero, hn1, hz1, hx1, rs]
  refine goC_bad (c_fail (s := s) (l := l) (en := en) (by first | omega | (simp only [go_sem, simprocAttr]; omega)) (by first | assumption | simp only [go_sem, simprocAttr, hg1, hn, hz, hn', Nat.add_zero, hn1, hz1, hx1]) 0 rfl) ?_
  intro H2 had
  simp only [go_sem, simprocAttr, hg1, hn, hz, hn', Nat.add_zero, hn1, hz1, hx1, san_trouble]
  (repeat first | exact Adv.refl _ _ | assumption | refine Adv.trans ?_ had | refine Adv.trans ?_ ha1 | refine Adv.trans ?_ ha2 | refine Adv.trans ?_ ha3 | refine Adv.trans ?_ ha4 | refine Adv.trans ?_ ha5 | refine Adv.trans ?_ ha6 | refine Adv.trans ?_ ha7 | refine Adv.trans ?_ ha8 | refine Adv.trans ?_ ha9 | refine Adv.trans ?_ ha10 | refine Adv.trans ?_ ha11 | refine Adv.trans ?_ ha12 | apply Adv.up | apply Adv.put | refine Adv.new ?_ (by omega) _ | refine Adv.live ?_ (by omega) _ | refine Adv.owns ?_ (by omega) (by first | exact OwnB.lo ‹_› | exact fun _ _ _ h => by cases h))
theorem c_isName (hlen : l.length ≤ LM) (hf : s.f = none) (hr : r < H.next) (hg : H.get r = some (cP l en s)) :
  PCall Tryz.prog cfg r 102 [.ptr r 0] H (.ok (.lit (.bool (isName l s))) (cP l en s)) := by
 refine PCall_of' (fn := Tryz.f102) rfl rfl rfl rfl rfl ?_
 have rs : Tryz.f102.results.toList = [.tmp 2] := rfl
 have hn := ne_new hr
 have hz := ne_new0 hr
 have hn' := ne_new' hr
 have hp := peek_name (l := l) hf
 generalize isName l s = b at hp
 simp only [go_sem, simprocAttr]
 refine goC_ok (c_peek (s := s) (l := l) (en := en) hlen (by first | omega | (simp only [go_sem, simprocAttr]; omega)) (by first | assumption | simp only [go_sem, simprocAttr, hg, hn, hz, hn', Nat.add_zero])) ?_
 intro H1 hg1 ha1
 have hl1 := ha1.1
 try simp only [go_sem, simprocAttr] at hl1
 have hr1 : r < H1.next := by omega
 have hn1 := ne_new hr1
 have hz1 := ne_new0 hr1
 have hx1 := ne_new' hr1
 generalize peekG l s = x at hp
 simp only [go_sem, simprocAttr, hg1, hn, hz, hn', Nat.add_zero, hn1, hz1, hx1, encG]
 cases h1 : decide (x.kind = 0) with
 | true =>
  rw [h1, Bool.true_and] at hp
  simp only [go_sem, simprocAttr, hg1, hn, hz, hn', Nat.add_zero, hn1, hz1, hx1, rs, encG, c_keyword, hp]
  (repeat first | exact Adv.refl _ _ | assumption | refine Adv.trans ?_ had | refine Adv.trans ?_ ha1 | refine Adv.trans ?_ ha2 | refine Adv.trans ?_ ha3 | refine Adv.trans ?_ ha4 | refine Adv.trans ?_ ha5 | refine Adv.trans ?_ ha6 | refine Adv.trans ?_ ha7 | refine Adv.trans ?_ ha8 | refine Adv.trans ?_ ha9 | refine Adv.trans ?_ ha10 | refine Adv.trans ?_ ha11 | refine Adv.trans ?_ ha12 | apply Adv.up | apply Adv.put | refine Adv.new ?_ (by omega) _ | refine Adv.live ?_ (by omega) _ | refine Adv.owns ?_ (by omega) (by first | exact OwnB.lo ‹_› | exact fun _ _ _ h => by cases h))
 | false =>
  rw [h1, Bool.false_and] at hp
  simp only [go_sem, simprocAttr, hg1, hn, hz, hn', Nat.add_zero, hn1, hz1, hx1, rs, encG, ← hp]
  (repeat first | exact Adv.refl _ _ | assumption | refine Adv.trans ?_ had | refine Adv.trans ?_ ha1 | refine Adv.trans ?_ ha2 | refine Adv.trans ?_ ha3 | refine Adv.trans ?_ ha4 | refine Adv.trans ?_ ha5 | refine Adv.trans ?_ ha6 | refine Adv.trans ?_ ha7 | refine Adv.trans ?_ ha8 | refine Adv.trans ?_ ha9 | refine Adv.trans ?_ ha10 | refine Adv.trans ?_ ha11 | refine Adv.trans ?_ ha12 | apply Adv.up | apply Adv.put | refine Adv.new ?_ (by omega) _ | refine Adv.live ?_ (by omega) _ | refine Adv.owns ?_ (by omega) (by first | exact OwnB.lo ‹_› | exact fun _ _ _ h => by cases h))
theorem c_name (hlen : l.length ≤ LM) (hf : s.f = none) (hr : r < H.next) (hg : H.get r = some (cP l en s)) :
  PCall Tryz.prog cfg r 82 [.ptr r 0] H (outP l en (nameP l en s).1 (.lit (.string (ba (nameP l en s).2)))) := by
 refine PCall_of' (fn := Tryz.f82) rfl rfl rfl rfl rfl ?_
 have rs : Tryz.f82.results.toList = [.tmp 2] := rfl
 have hn := ne_new hr
 have hz := ne_new0 hr
 have hn' := ne_new' hr
 simp only [go_sem, simprocAttr]
 refine goC_ok (c_isName (s := s) (l := l) (en := en) hlen hf (by first | omega | (simp only [go_sem, simprocAttr]; omega)) (by first | assumption | simp only [go_sem, simprocAttr, hg, hn, hz, hn', Nat.add_zero])) ?_
 intro H1 hg1 ha1
 have hl1 := ha1.1
 try simp only [go_sem, simprocAttr] at hl1
 have hr1 : r < H1.next := by omega
 have hn1 := ne_new hr1
 have hz1 := ne_new0 hr1
 have hx1 := ne_new' hr1
 cases h : isName l s with
 | true =>
  have hlt := isName_at h
  have hw := at_wrap hlen hlt
  have e : nameP l en s = (s.adv, (l.getD s.at_ default).text) := by simp only [nameP, h, text]
  rw [e, outP_none (show (s.adv, (l.getD s.at_ default).text).1.f = none from hf)]
  have ha := iad_encG (t := 66) (bs := 32) (o := .sh) hlt
  have hwb : IntKind.wrap .i64 (((s.at_ + 1 : Nat) : Int) - 1) = (s.at_ : Nat) := by unfold LM at hlen; rw [wrap64 (by omega) (by omega)]; omega
  have hadv : s.adv.at_ = s.at_ + 1 := rfl
  generalize l.getD s.at_ default = x at ha
  simp only [go_sem, simprocAttr, hg1, hn, hz, hn', Nat.add_zero, hn1, hz1, hx1, hw]
  refine W_draw [(3, 7)] (by kernel_rfl) ?_
  simp only [go_sem, simprocAttr, hg1, hn, hz, hn', Nat.add_zero, hn1, hz1, hx1, rs, hadv, hwb, ha, encG]
  (repeat first | exact Adv.refl _ _ | assumption | refine Adv.trans ?_ had | refine Adv.trans ?_ ha1 | refine Adv.trans ?_ ha2 | refine Adv.trans ?_ ha3 | refine Adv.trans ?_ ha4 | refine Adv.trans ?_ ha5 | refine Adv.trans ?_ ha6 | refine Adv.trans ?_ ha7 | refine Adv.trans ?_ ha8 | refine Adv.trans ?_ ha9 | refine Adv.trans ?_ ha10 | refine Adv.trans ?_ ha11 | refine Adv.trans ?_ ha12 | apply Adv.up | apply Adv.put | refine Adv.new ?_ (by omega) _ | refine Adv.live ?_ (by omega) _ | refine Adv.owns ?_ (by omega) (by first | exact OwnB.lo ‹_› | exact fun _ _ _ h => by cases h))
 | false =>
  have e : nameP l en s = (pfail l en s 0, []) := by simp only [nameP, h]
  rw [e, outP_fail hf]
  simp only [go_sem, simprocAttr, hg1, hn, hz, hn', Nat.add_zero, hn1, hz1, hx1]
  refine goC_bad (c_fail (s := s) (l := l) (en := en) (by first | omega | (simp only [go_sem, simprocAttr]; omega)) (by first | assumption | simp only [go_sem, simprocAttr, hg1, hn, hz, hn', Nat.add_zero, hn1, hz1, hx1]) 0 rfl) ?_
  intro H2 had
  simp only [go_sem, simprocAttr, hg1, hn, hz, hn', Nat.add_zero, hn1, hz1, hx1, san_trouble]
  (repeat first | exact Adv.refl _ _ | assumption | refine Adv.trans ?_ had | refine Adv.trans ?_ ha1 | refine Adv.trans ?_ ha2 | refine Adv.trans ?_ ha3 | refine Adv.trans ?_ ha4 | refine Adv.trans ?_ ha5 | refine Adv.trans ?_ ha6 | refine Adv.trans ?_ ha7 | refine Adv.trans ?_ ha8 | refine Adv.trans ?_ ha9 | refine Adv.trans ?_ ha10 | refine Adv.trans ?_ ha11 | refine Adv.trans ?_ ha12 | apply Adv.up | apply Adv.put | refine Adv.new ?_ (by omega) _ | refine Adv.live ?_ (by omega) _ | refine Adv.owns ?_ (by omega) (by first | exact OwnB.lo ‹_› | exact fun _ _ _ h => by cases h))
end
end Go.Proofs.YtghhkbigmmjanaaGreatDoor.VA

/-! Pe3 -/
namespace Go.Proofs.YtghhkbigmmjanaaGreatDoor.VA
open Go Go.RowKit
attribute [local go_sem] Nat.add_eq_left Nat.left_eq_add true_and and_true ite_true if_false Int.cast_ofNat_Int eq_self Nat.add_assoc Option.some.injEq decide_true decide_false Bool.not_true Bool.not_false List.size_toArray List.length_cons List.length_nil
set_option linter.unusedSimpArgs false
set_option maxRecDepth 100000

section
variable {l : List GTok} {en : Int} {r : Nat} {s : PS} {H : Heap}
theorem c_atoi (t : List UInt8) (h1 : t.all (fun b => isDigit b.toNat) = true) (h2 : 1 ≤ t.length) (h3 : t.length ≤ 18) (H : Heap) :
  calls Tryz.prog cfg 122 [.lit (.string (ba t))] H = some (.ret (.tup [.lit (.int .i64 (numOf t : Nat)), .lit .nilIface]) H) :=
 calls_told (h := tAtoi) rfl (by
  simp only [sanL, san, tAtoi, ba_list]
  rw [if_pos ⟨h1, h2, h3⟩]) H
theorem peek_text (h : isNum l s = true) : (peekG l s).text = text l s ∧ (text l s).all (fun b => isDigit b.toNat) = true ∧ 1 ≤ (text l s).length ∧ (text l s).length ≤ 9 := by
 obtain ⟨x, hx, hg, hk⟩ := isNum_some h
 obtain ⟨hf, _, hlt, hd⟩ := tk_some hx
 have ht : text l s = x.text := by simp only [text, hd]
 have hi : l[s.at_]? = some x := by simpa only [tk, hf] using hx
 obtain ⟨n1, n2, n3⟩ := right_num hg hk
 refine ⟨?_, ?_⟩
 ·simp only [peekG, hi, hg, if_true, ht]
 ·rw [ht]; exact ⟨n1, n2, n3⟩
set_option maxRecDepth 20000 in
theorem c_operand (hlen : l.length ≤ LM) (hf : s.f = none) (hr : r < H.next) (hg : H.get r = some (cP l en s)) :
  PCall Tryz.prog cfg r 115 [.ptr r 0] H (outP l en (operand l en s).1 (.agg (encOpd (operand l en s).2))) := by
 refine PCall_of' (fn := Tryz.f115) rfl rfl rfl rfl rfl ?_
 have rs : Tryz.f115.results.toList = [.cell 2 50] := rfl
 have hn := ne_new hr
 have hz := ne_new0 hr
 have hn' := ne_new' hr
 generalize hq : operand l en s = q
 unfold operand at hq
 have hp := peek_num (l := l) hf
 simp only [go_sem, simprocAttr]
 have rR : (H.next = r) = False := eq_false (by omega)
 have qR : (r = H.next) = False := eq_false (by omega)
 refine goC_ok (c_peek (s := s) (l := l) (en := en) hlen (by first | omega | (simp only [go_sem, simprocAttr]; omega)) (by first | assumption | simp only [go_sem, simprocAttr, hg, hn, hz, hn', Nat.add_zero, rR, qR])) ?_
 intro H1 hg1 ha1
 have hl1 := ha1.1
 try simp only [go_sem, simprocAttr] at hl1
 have hr1 : r < H1.next := by omega
 have hn1 := ne_new hr1
 have hz1 := ne_new0 hr1
 have hx1 := ne_new' hr1
 have bR1 : H1.get (H.next) = some ([.lit (.int .i64 0), .lit (.int .i64 0), .lit (.string (ba []))]) := (ha1.get (by first | omega | (simp only [go_sem, simprocAttr]; omega)) (by omega)).trans (by simp only [go_sem, simprocAttr, hg, hn, hz, hn', Nat.add_zero, rR, qR])
 have cR1 : ∀ j, (H1.next + j = H.next) = False := fun j => eq_false (by omega)
 have dR1 : (H1.next = H.next) = False := eq_false (by omega)
 have eR1 : ∀ j, (H.next = H1.next + j) = False := fun j => eq_false (by omega)
 have pTR : (H.next + 3 = H.next) = False := eq_false (by omega)
 have pRT : (H.next = H.next + 3) = False := eq_false (by omega)
 have rT : (H.next + 3 = r) = False := eq_false (by omega)
 have qT : (r = H.next + 3) = False := eq_false (by omega)
 have eT : ([.lit (.int .i64 (peekG l s).kind), .lit (.string (ba (peekG l s).text)), .lit (.int .i64 (peekG l s).at_)] : List AV) = encG (peekG l s) := rfl
 have tT : ∀ x : GTok, (encG x).length = 3 ∧ (encG x).all AV.one = true ∧ (encG x).drop 3 = [] ∧ (encG x).take 3 = encG x ∧ encG x ++ [] = encG x ∧ (encG x)[0]? = some (.lit (.int .i64 x.kind)) ∧ (encG x)[1]? = some (.lit (.string (ba x.text))) := fun x => ⟨rfl, rfl, rfl, rfl, rfl, rfl, rfl⟩
 have t1 := fun x => (tT x).1
 have t2 := fun x => (tT x).2.1
 have t3 := fun x => (tT x).2.2.1
 have t4 := fun x => (tT x).2.2.2.1
 have t5 := fun x => (tT x).2.2.2.2.1
 have t6 := fun x => (tT x).2.2.2.2.2.1
 have t7 := fun x => (tT x).2.2.2.2.2.2
 simp only [go_sem, simprocAttr, hg1, hn, hz, hn', Nat.add_zero, hn1, hz1, hx1, bR1, cR1, dR1, eR1, rR, qR, pRT, rT, qT, pTR, t1, t2, t3, t4, t5, t6, t7]
 cases h0 : isT l s [110, 117, 108, 108] with
 | true =>
  refine goC_ok (c_take_yes (s := s) (l := l) (en := en) hlen hf (by first | omega | (simp only [go_sem, simprocAttr]; omega)) (by first | assumption | simp only [go_sem, simprocAttr, hg1, hn, hz, hn', Nat.add_zero, hn1, hz1, hx1, bR1, cR1, dR1, eR1, rR, qR, pRT, rT, qT, pTR, t1, t2, t3, t4, t5, t6, t7]) (by decide) h0) ?_
  intro H2 hg2 ha2
  have hl2 := ha2.1
  try simp only [go_sem, simprocAttr] at hl2
  have hr2 : r < H2.next := by omega
  have hn2 := ne_new hr2
  have hz2 := ne_new0 hr2
  have hx2 := ne_new' hr2
  have bR2 : H2.get (H.next) = some ([.lit (.int .i64 0), .lit (.int .i64 0), .lit (.string (ba []))]) := (ha2.get (by first | omega | (simp only [go_sem, simprocAttr]; omega)) (by omega)).trans (by simp only [go_sem, simprocAttr, hg1, hn, hz, hn', Nat.add_zero, hn1, hz1, hx1, bR1, cR1, dR1, eR1, rR, qR, pRT, rT, qT, pTR, t1, t2, t3, t4, t5, t6, t7])
  have cR2 : ∀ j, (H2.next + j = H.next) = False := fun j => eq_false (by omega)
  have dR2 : (H2.next = H.next) = False := eq_false (by omega)
  have eR2 : ∀ j, (H.next = H2.next + j) = False := fun j => eq_false (by omega)
  have bT2 : H2.get (H.next + 3) = some (encG (peekG l s)) := (ha2.get (by first | omega | (simp only [go_sem, simprocAttr]; omega)) (by omega)).trans (by simp only [go_sem, simprocAttr, hg1, hn, hz, hn', Nat.add_zero, hn1, hz1, hx1, bR1, cR1, dR1, eR1, rR, qR, pRT, rT, qT, pTR, t1, t2, t3, t4, t5, t6, t7])
  have cT2 : ∀ j, (H2.next + j = H.next + 3) = False := fun j => eq_false (by omega)
  have dT2 : (H2.next = H.next + 3) = False := eq_false (by omega)
  have eT2 : ∀ j, (H.next + 3 = H2.next + j) = False := fun j => eq_false (by omega)
  rw [show isT l s tNull = true from h0] at hq
  simp only at hq
  subst hq
  rw [outP_none (show s.adv.f = none from hf)]
  have e0 : ([.lit (.int .i64 0), .lit (.int .i64 0), .lit (.string (ba []))] : List AV) = encOpd ⟨0, 0, []⟩ := rfl
  simp only [go_sem, simprocAttr, hg2, hn, hz, hn', Nat.add_zero, hn2, hz2, hx2, bR2, cR2, dR2, eR2, rR, qR, pRT, bT2, cT2, dT2, eT2, rT, qT, pTR, t1, t2, t3, t4, t5, t6, t7, rs, e0]
  (repeat first | exact Adv.refl _ _ | assumption | refine Adv.trans ?_ had | refine Adv.trans ?_ ha1 | refine Adv.trans ?_ ha2 | refine Adv.trans ?_ ha3 | refine Adv.trans ?_ ha4 | refine Adv.trans ?_ ha5 | refine Adv.trans ?_ ha6 | refine Adv.trans ?_ ha7 | refine Adv.trans ?_ ha8 | refine Adv.trans ?_ ha9 | refine Adv.trans ?_ ha10 | refine Adv.trans ?_ ha11 | refine Adv.trans ?_ ha12 | apply Adv.up | apply Adv.put | refine Adv.new ?_ (by omega) _ | refine Adv.live ?_ (by omega) _ | refine Adv.owns ?_ (by omega) (by first | exact OwnB.lo ‹_› | exact fun _ _ _ h => by cases h))
 | false =>
 rw [show isT l s tNull = false from h0] at hq
 simp only at hq
 refine goC_ok (c_take_no (s := s) (l := l) (en := en) hlen hf (by first | omega | (simp only [go_sem, simprocAttr]; omega)) (by first | assumption | simp only [go_sem, simprocAttr, hg1, hn, hz, hn', Nat.add_zero, hn1, hz1, hx1, bR1, cR1, dR1, eR1, rR, qR, pRT, rT, qT, pTR, t1, t2, t3, t4, t5, t6, t7]) (by decide) h0) ?_
 intro H2 hg2 ha2
 have hl2 := ha2.1
 try simp only [go_sem, simprocAttr] at hl2
 have hr2 : r < H2.next := by omega
 have hn2 := ne_new hr2
 have hz2 := ne_new0 hr2
 have hx2 := ne_new' hr2
 have bR2 : H2.get (H.next) = some ([.lit (.int .i64 0), .lit (.int .i64 0), .lit (.string (ba []))]) := (ha2.get (by first | omega | (simp only [go_sem, simprocAttr]; omega)) (by omega)).trans (by simp only [go_sem, simprocAttr, hg1, hn, hz, hn', Nat.add_zero, hn1, hz1, hx1, bR1, cR1, dR1, eR1, rR, qR, pRT, rT, qT, pTR, t1, t2, t3, t4, t5, t6, t7])
 have cR2 : ∀ j, (H2.next + j = H.next) = False := fun j => eq_false (by omega)
 have dR2 : (H2.next = H.next) = False := eq_false (by omega)
 have eR2 : ∀ j, (H.next = H2.next + j) = False := fun j => eq_false (by omega)
 have bT2 : H2.get (H.next + 3) = some (encG (peekG l s)) := (ha2.get (by first | omega | (simp only [go_sem, simprocAttr]; omega)) (by omega)).trans (by simp only [go_sem, simprocAttr, hg1, hn, hz, hn', Nat.add_zero, hn1, hz1, hx1, bR1, cR1, dR1, eR1, rR, qR, pRT, rT, qT, pTR, t1, t2, t3, t4, t5, t6, t7])
 have cT2 : ∀ j, (H2.next + j = H.next + 3) = False := fun j => eq_false (by omega)
 have dT2 : (H2.next = H.next + 3) = False := eq_false (by omega)
 have eT2 : ∀ j, (H.next + 3 = H2.next + j) = False := fun j => eq_false (by omega)
 simp only [go_sem, simprocAttr, hg2, hn, hz, hn', Nat.add_zero, hn2, hz2, hx2, bR2, cR2, dR2, eR2, rR, qR, pRT, bT2, cT2, dT2, eT2, rT, qT, pTR, t1, t2, t3, t4, t5, t6, t7]
 cases h1 : isT l s [116, 114, 117, 101] with
 | true =>
  refine goC_ok (c_take_yes (s := s) (l := l) (en := en) hlen hf (by first | omega | (simp only [go_sem, simprocAttr]; omega)) (by first | assumption | simp only [go_sem, simprocAttr, hg2, hn, hz, hn', Nat.add_zero, hn2, hz2, hx2, bR2, cR2, dR2, eR2, rR, qR, pRT, bT2, cT2, dT2, eT2, rT, qT, pTR, t1, t2, t3, t4, t5, t6, t7]) (by decide) h1) ?_
  intro H3 hg3 ha3
  have hl3 := ha3.1
  try simp only [go_sem, simprocAttr] at hl3
  have hr3 : r < H3.next := by omega
  have hn3 := ne_new hr3
  have hz3 := ne_new0 hr3
  have hx3 := ne_new' hr3
  have bR3 : H3.get (H.next) = some ([.lit (.int .i64 0), .lit (.int .i64 0), .lit (.string (ba []))]) := (ha3.get (by first | omega | (simp only [go_sem, simprocAttr]; omega)) (by omega)).trans (by simp only [go_sem, simprocAttr, hg2, hn, hz, hn', Nat.add_zero, hn2, hz2, hx2, bR2, cR2, dR2, eR2, rR, qR, pRT, bT2, cT2, dT2, eT2, rT, qT, pTR, t1, t2, t3, t4, t5, t6, t7])
  have cR3 : ∀ j, (H3.next + j = H.next) = False := fun j => eq_false (by omega)
  have dR3 : (H3.next = H.next) = False := eq_false (by omega)
  have eR3 : ∀ j, (H.next = H3.next + j) = False := fun j => eq_false (by omega)
  have bT3 : H3.get (H.next + 3) = some (encG (peekG l s)) := (ha3.get (by first | omega | (simp only [go_sem, simprocAttr]; omega)) (by omega)).trans (by simp only [go_sem, simprocAttr, hg2, hn, hz, hn', Nat.add_zero, hn2, hz2, hx2, bR2, cR2, dR2, eR2, rR, qR, pRT, bT2, cT2, dT2, eT2, rT, qT, pTR, t1, t2, t3, t4, t5, t6, t7])
  have cT3 : ∀ j, (H3.next + j = H.next + 3) = False := fun j => eq_false (by omega)
  have dT3 : (H3.next = H.next + 3) = False := eq_false (by omega)
  have eT3 : ∀ j, (H.next + 3 = H3.next + j) = False := fun j => eq_false (by omega)
  rw [show isT l s tTrue = true from h1] at hq
  simp only at hq
  subst hq
  rw [outP_none (show s.adv.f = none from hf)]
  have e0 : ([.lit (.int .i64 1), .lit (.int .i64 1), .lit (.string (ba []))] : List AV) = encOpd ⟨1, 1, []⟩ := rfl
  simp only [go_sem, simprocAttr, hg3, hn, hz, hn', Nat.add_zero, hn3, hz3, hx3, bR3, cR3, dR3, eR3, rR, qR, pRT, bT3, cT3, dT3, eT3, rT, qT, pTR, t1, t2, t3, t4, t5, t6, t7, rs, e0]
  (repeat first | exact Adv.refl _ _ | assumption | refine Adv.trans ?_ had | refine Adv.trans ?_ ha1 | refine Adv.trans ?_ ha2 | refine Adv.trans ?_ ha3 | refine Adv.trans ?_ ha4 | refine Adv.trans ?_ ha5 | refine Adv.trans ?_ ha6 | refine Adv.trans ?_ ha7 | refine Adv.trans ?_ ha8 | refine Adv.trans ?_ ha9 | refine Adv.trans ?_ ha10 | refine Adv.trans ?_ ha11 | refine Adv.trans ?_ ha12 | apply Adv.up | apply Adv.put | refine Adv.new ?_ (by omega) _ | refine Adv.live ?_ (by omega) _ | refine Adv.owns ?_ (by omega) (by first | exact OwnB.lo ‹_› | exact fun _ _ _ h => by cases h))
 | false =>
 rw [show isT l s tTrue = false from h1] at hq
 simp only at hq
 refine goC_ok (c_take_no (s := s) (l := l) (en := en) hlen hf (by first | omega | (simp only [go_sem, simprocAttr]; omega)) (by first | assumption | simp only [go_sem, simprocAttr, hg2, hn, hz, hn', Nat.add_zero, hn2, hz2, hx2, bR2, cR2, dR2, eR2, rR, qR, pRT, bT2, cT2, dT2, eT2, rT, qT, pTR, t1, t2, t3, t4, t5, t6, t7]) (by decide) h1) ?_
 intro H3 hg3 ha3
 have hl3 := ha3.1
 try simp only [go_sem, simprocAttr] at hl3
 have hr3 : r < H3.next := by omega
 have hn3 := ne_new hr3
 have hz3 := ne_new0 hr3
 have hx3 := ne_new' hr3
 have bR3 : H3.get (H.next) = some ([.lit (.int .i64 0), .lit (.int .i64 0), .lit (.string (ba []))]) := (ha3.get (by first | omega | (simp only [go_sem, simprocAttr]; omega)) (by omega)).trans (by simp only [go_sem, simprocAttr, hg2, hn, hz, hn', Nat.add_zero, hn2, hz2, hx2, bR2, cR2, dR2, eR2, rR, qR, pRT, bT2, cT2, dT2, eT2, rT, qT, pTR, t1, t2, t3, t4, t5, t6, t7])
 have cR3 : ∀ j, (H3.next + j = H.next) = False := fun j => eq_false (by omega)
 have dR3 : (H3.next = H.next) = False := eq_false (by omega)
 have eR3 : ∀ j, (H.next = H3.next + j) = False := fun j => eq_false (by omega)
 have bT3 : H3.get (H.next + 3) = some (encG (peekG l s)) := (ha3.get (by first | omega | (simp only [go_sem, simprocAttr]; omega)) (by omega)).trans (by simp only [go_sem, simprocAttr, hg2, hn, hz, hn', Nat.add_zero, hn2, hz2, hx2, bR2, cR2, dR2, eR2, rR, qR, pRT, bT2, cT2, dT2, eT2, rT, qT, pTR, t1, t2, t3, t4, t5, t6, t7])
 have cT3 : ∀ j, (H3.next + j = H.next + 3) = False := fun j => eq_false (by omega)
 have dT3 : (H3.next = H.next + 3) = False := eq_false (by omega)
 have eT3 : ∀ j, (H.next + 3 = H3.next + j) = False := fun j => eq_false (by omega)
 simp only [go_sem, simprocAttr, hg3, hn, hz, hn', Nat.add_zero, hn3, hz3, hx3, bR3, cR3, dR3, eR3, rR, qR, pRT, bT3, cT3, dT3, eT3, rT, qT, pTR, t1, t2, t3, t4, t5, t6, t7]
 cases h2 : isT l s [102, 97, 108, 115, 101] with
 | true =>
  refine goC_ok (c_take_yes (s := s) (l := l) (en := en) hlen hf (by first | omega | (simp only [go_sem, simprocAttr]; omega)) (by first | assumption | simp only [go_sem, simprocAttr, hg3, hn, hz, hn', Nat.add_zero, hn3, hz3, hx3, bR3, cR3, dR3, eR3, rR, qR, pRT, bT3, cT3, dT3, eT3, rT, qT, pTR, t1, t2, t3, t4, t5, t6, t7]) (by decide) h2) ?_
  intro H4 hg4 ha4
  have hl4 := ha4.1
  try simp only [go_sem, simprocAttr] at hl4
  have hr4 : r < H4.next := by omega
  have hn4 := ne_new hr4
  have hz4 := ne_new0 hr4
  have hx4 := ne_new' hr4
  have bR4 : H4.get (H.next) = some ([.lit (.int .i64 0), .lit (.int .i64 0), .lit (.string (ba []))]) := (ha4.get (by first | omega | (simp only [go_sem, simprocAttr]; omega)) (by omega)).trans (by simp only [go_sem, simprocAttr, hg3, hn, hz, hn', Nat.add_zero, hn3, hz3, hx3, bR3, cR3, dR3, eR3, rR, qR, pRT, bT3, cT3, dT3, eT3, rT, qT, pTR, t1, t2, t3, t4, t5, t6, t7])
  have cR4 : ∀ j, (H4.next + j = H.next) = False := fun j => eq_false (by omega)
  have dR4 : (H4.next = H.next) = False := eq_false (by omega)
  have eR4 : ∀ j, (H.next = H4.next + j) = False := fun j => eq_false (by omega)
  have bT4 : H4.get (H.next + 3) = some (encG (peekG l s)) := (ha4.get (by first | omega | (simp only [go_sem, simprocAttr]; omega)) (by omega)).trans (by simp only [go_sem, simprocAttr, hg3, hn, hz, hn', Nat.add_zero, hn3, hz3, hx3, bR3, cR3, dR3, eR3, rR, qR, pRT, bT3, cT3, dT3, eT3, rT, qT, pTR, t1, t2, t3, t4, t5, t6, t7])
  have cT4 : ∀ j, (H4.next + j = H.next + 3) = False := fun j => eq_false (by omega)
  have dT4 : (H4.next = H.next + 3) = False := eq_false (by omega)
  have eT4 : ∀ j, (H.next + 3 = H4.next + j) = False := fun j => eq_false (by omega)
  rw [show isT l s tFalse = true from h2] at hq
  simp only at hq
  subst hq
  rw [outP_none (show s.adv.f = none from hf)]
  have e0 : ([.lit (.int .i64 1), .lit (.int .i64 0), .lit (.string (ba []))] : List AV) = encOpd ⟨1, 0, []⟩ := rfl
  simp only [go_sem, simprocAttr, hg4, hn, hz, hn', Nat.add_zero, hn4, hz4, hx4, bR4, cR4, dR4, eR4, rR, qR, pRT, bT4, cT4, dT4, eT4, rT, qT, pTR, t1, t2, t3, t4, t5, t6, t7, rs, e0]
  (repeat first | exact Adv.refl _ _ | assumption | refine Adv.trans ?_ had | refine Adv.trans ?_ ha1 | refine Adv.trans ?_ ha2 | refine Adv.trans ?_ ha3 | refine Adv.trans ?_ ha4 | refine Adv.trans ?_ ha5 | refine Adv.trans ?_ ha6 | refine Adv.trans ?_ ha7 | refine Adv.trans ?_ ha8 | refine Adv.trans ?_ ha9 | refine Adv.trans ?_ ha10 | refine Adv.trans ?_ ha11 | refine Adv.trans ?_ ha12 | apply Adv.up | apply Adv.put | refine Adv.new ?_ (by omega) _ | refine Adv.live ?_ (by omega) _ | refine Adv.owns ?_ (by omega) (by first | exact OwnB.lo ‹_› | exact fun _ _ _ h => by cases h))
 | false =>
 rw [show isT l s tFalse = false from h2] at hq
 simp only at hq
 refine goC_ok (c_take_no (s := s) (l := l) (en := en) hlen hf (by first | omega | (simp only [go_sem, simprocAttr]; omega)) (by first | assumption | simp only [go_sem, simprocAttr, hg3, hn, hz, hn', Nat.add_zero, hn3, hz3, hx3, bR3, cR3, dR3, eR3, rR, qR, pRT, bT3, cT3, dT3, eT3, rT, qT, pTR, t1, t2, t3, t4, t5, t6, t7]) (by decide) h2) ?_
 intro H4 hg4 ha4
 have hl4 := ha4.1
 try simp only [go_sem, simprocAttr] at hl4
 have hr4 : r < H4.next := by omega
 have hn4 := ne_new hr4
 have hz4 := ne_new0 hr4
 have hx4 := ne_new' hr4
 have bR4 : H4.get (H.next) = some ([.lit (.int .i64 0), .lit (.int .i64 0), .lit (.string (ba []))]) := (ha4.get (by first | omega | (simp only [go_sem, simprocAttr]; omega)) (by omega)).trans (by simp only [go_sem, simprocAttr, hg3, hn, hz, hn', Nat.add_zero, hn3, hz3, hx3, bR3, cR3, dR3, eR3, rR, qR, pRT, bT3, cT3, dT3, eT3, rT, qT, pTR, t1, t2, t3, t4, t5, t6, t7])
 have cR4 : ∀ j, (H4.next + j = H.next) = False := fun j => eq_false (by omega)
 have dR4 : (H4.next = H.next) = False := eq_false (by omega)
 have eR4 : ∀ j, (H.next = H4.next + j) = False := fun j => eq_false (by omega)
 have bT4 : H4.get (H.next + 3) = some (encG (peekG l s)) := (ha4.get (by first | omega | (simp only [go_sem, simprocAttr]; omega)) (by omega)).trans (by simp only [go_sem, simprocAttr, hg3, hn, hz, hn', Nat.add_zero, hn3, hz3, hx3, bR3, cR3, dR3, eR3, rR, qR, pRT, bT3, cT3, dT3, eT3, rT, qT, pTR, t1, t2, t3, t4, t5, t6, t7])
 have cT4 : ∀ j, (H4.next + j = H.next + 3) = False := fun j => eq_false (by omega)
 have dT4 : (H4.next = H.next + 3) = False := eq_false (by omega)
 have eT4 : ∀ j, (H.next + 3 = H4.next + j) = False := fun j => eq_false (by omega)
 simp only [go_sem, simprocAttr, hg4, hn, hz, hn', Nat.add_zero, hn4, hz4, hx4, bR4, cR4, dR4, eR4, rR, qR, pRT, bT4, cT4, dT4, eT4, rT, qT, pTR, t1, t2, t3, t4, t5, t6, t7]
 cases h4 : isT l s [38] with
 | true =>
  rw [h4] at hq
  simp only at hq
  subst hq
  refine goC_ok (c_take_yes (s := s) (l := l) (en := en) hlen hf (by first | omega | (simp only [go_sem, simprocAttr]; omega)) (by first | assumption | simp only [go_sem, simprocAttr, hg4, hn, hz, hn', Nat.add_zero, hn4, hz4, hx4, bR4, cR4, dR4, eR4, rR, qR, pRT, bT4, cT4, dT4, eT4, rT, qT, pTR, t1, t2, t3, t4, t5, t6, t7]) (by decide) h4) ?_
  intro H5 hg5 ha5
  have hl5 := ha5.1
  try simp only [go_sem, simprocAttr] at hl5
  have hr5 : r < H5.next := by omega
  have hn5 := ne_new hr5
  have hz5 := ne_new0 hr5
  have hx5 := ne_new' hr5
  have bR5 : H5.get (H.next) = some ([.lit (.int .i64 0), .lit (.int .i64 0), .lit (.string (ba []))]) := (ha5.get (by first | omega | (simp only [go_sem, simprocAttr]; omega)) (by omega)).trans (by simp only [go_sem, simprocAttr, hg4, hn, hz, hn', Nat.add_zero, hn4, hz4, hx4, bR4, cR4, dR4, eR4, rR, qR, pRT, bT4, cT4, dT4, eT4, rT, qT, pTR, t1, t2, t3, t4, t5, t6, t7])
  have cR5 : ∀ j, (H5.next + j = H.next) = False := fun j => eq_false (by omega)
  have dR5 : (H5.next = H.next) = False := eq_false (by omega)
  have eR5 : ∀ j, (H.next = H5.next + j) = False := fun j => eq_false (by omega)
  have bT5 : H5.get (H.next + 3) = some (encG (peekG l s)) := (ha5.get (by first | omega | (simp only [go_sem, simprocAttr]; omega)) (by omega)).trans (by simp only [go_sem, simprocAttr, hg4, hn, hz, hn', Nat.add_zero, hn4, hz4, hx4, bR4, cR4, dR4, eR4, rR, qR, pRT, bT4, cT4, dT4, eT4, rT, qT, pTR, t1, t2, t3, t4, t5, t6, t7])
  have cT5 : ∀ j, (H5.next + j = H.next + 3) = False := fun j => eq_false (by omega)
  have dT5 : (H5.next = H.next + 3) = False := eq_false (by omega)
  have eT5 : ∀ j, (H.next + 3 = H5.next + j) = False := fun j => eq_false (by omega)
  simp only [go_sem, simprocAttr, hg5, hn, hz, hn', Nat.add_zero, hn5, hz5, hx5, bR5, cR5, dR5, eR5, rR, qR, pRT, bT5, cT5, dT5, eT5, rT, qT, pTR, t1, t2, t3, t4, t5, t6, t7]
  refine goC_out (c_name (s := s.adv) (l := l) (en := en) hlen hf (by first | omega | (simp only [go_sem, simprocAttr]; omega)) (by first | assumption | simp only [go_sem, simprocAttr, hg5, hn, hz, hn', Nat.add_zero, hn5, hz5, hx5, bR5, cR5, dR5, eR5, rR, qR, pRT, bT5, cT5, dT5, eT5, rT, qT, pTR, t1, t2, t3, t4, t5, t6, t7])) ?_ ?_
  ·intro hf2 H6 hg6 ha6
   have hl6 := ha6.1
   try simp only [go_sem, simprocAttr] at hl6
   have hr6 : r < H6.next := by omega
   have hn6 := ne_new hr6
   have hz6 := ne_new0 hr6
   have hx6 := ne_new' hr6
   have bR6 : H6.get (H.next) = some ([.lit (.int .i64 0), .lit (.int .i64 0), .lit (.string (ba []))]) := (ha6.get (by first | omega | (simp only [go_sem, simprocAttr]; omega)) (by omega)).trans (by simp only [go_sem, simprocAttr, hg5, hn, hz, hn', Nat.add_zero, hn5, hz5, hx5, bR5, cR5, dR5, eR5, rR, qR, pRT, bT5, cT5, dT5, eT5, rT, qT, pTR, t1, t2, t3, t4, t5, t6, t7])
   have cR6 : ∀ j, (H6.next + j = H.next) = False := fun j => eq_false (by omega)
   have dR6 : (H6.next = H.next) = False := eq_false (by omega)
   have eR6 : ∀ j, (H.next = H6.next + j) = False := fun j => eq_false (by omega)
   have bT6 : H6.get (H.next + 3) = some (encG (peekG l s)) := (ha6.get (by first | omega | (simp only [go_sem, simprocAttr]; omega)) (by omega)).trans (by simp only [go_sem, simprocAttr, hg5, hn, hz, hn', Nat.add_zero, hn5, hz5, hx5, bR5, cR5, dR5, eR5, rR, qR, pRT, bT5, cT5, dT5, eT5, rT, qT, pTR, t1, t2, t3, t4, t5, t6, t7])
   have cT6 : ∀ j, (H6.next + j = H.next + 3) = False := fun j => eq_false (by omega)
   have dT6 : (H6.next = H.next + 3) = False := eq_false (by omega)
   have eT6 : ∀ j, (H.next + 3 = H6.next + j) = False := fun j => eq_false (by omega)
   rw [outP_none (show (((nameP l en s.adv).1, (⟨3, 0, (nameP l en s.adv).2⟩ : Opd))).1.f = none from hf2)]
   have e0 : ([.lit (.int .i64 3), .lit (.int .i64 0), .lit (.string (ba (nameP l en s.adv).2))] : List AV) = encOpd ⟨3, 0, (nameP l en s.adv).2⟩ := rfl
   simp only [go_sem, simprocAttr, hg6, hn, hz, hn', Nat.add_zero, hn6, hz6, hx6, bR6, cR6, dR6, eR6, rR, qR, pRT, bT6, cT6, dT6, eT6, rT, qT, pTR, t1, t2, t3, t4, t5, t6, t7, rs, e0]
   (repeat first | exact Adv.refl _ _ | assumption | refine Adv.trans ?_ had | refine Adv.trans ?_ ha1 | refine Adv.trans ?_ ha2 | refine Adv.trans ?_ ha3 | refine Adv.trans ?_ ha4 | refine Adv.trans ?_ ha5 | refine Adv.trans ?_ ha6 | refine Adv.trans ?_ ha7 | refine Adv.trans ?_ ha8 | refine Adv.trans ?_ ha9 | refine Adv.trans ?_ ha10 | refine Adv.trans ?_ ha11 | refine Adv.trans ?_ ha12 | apply Adv.up | apply Adv.put | refine Adv.new ?_ (by omega) _ | refine Adv.live ?_ (by omega) _ | refine Adv.owns ?_ (by omega) (by first | exact OwnB.lo ‹_› | exact fun _ _ _ h => by cases h))
  ·intro q hf2 H9 had
   rw [outP_some (show (((nameP l en s.adv).1, (⟨3, 0, (nameP l en s.adv).2⟩ : Opd))).1.f = some q from hf2)]
   simp only [go_sem, simprocAttr, san_trouble]
   (repeat first | exact Adv.refl _ _ | assumption | refine Adv.trans ?_ had | refine Adv.trans ?_ ha1 | refine Adv.trans ?_ ha2 | refine Adv.trans ?_ ha3 | refine Adv.trans ?_ ha4 | refine Adv.trans ?_ ha5 | refine Adv.trans ?_ ha6 | refine Adv.trans ?_ ha7 | refine Adv.trans ?_ ha8 | refine Adv.trans ?_ ha9 | refine Adv.trans ?_ ha10 | refine Adv.trans ?_ ha11 | refine Adv.trans ?_ ha12 | apply Adv.up | apply Adv.put | refine Adv.new ?_ (by omega) _ | refine Adv.live ?_ (by omega) _ | refine Adv.owns ?_ (by omega) (by first | exact OwnB.lo ‹_› | exact fun _ _ _ h => by cases h))
 | false =>
 rw [h4] at hq
 simp only at hq
 refine goC_ok (c_take_no (s := s) (l := l) (en := en) hlen hf (by first | omega | (simp only [go_sem, simprocAttr]; omega)) (by first | assumption | simp only [go_sem, simprocAttr, hg4, hn, hz, hn', Nat.add_zero, hn4, hz4, hx4, bR4, cR4, dR4, eR4, rR, qR, pRT, bT4, cT4, dT4, eT4, rT, qT, pTR, t1, t2, t3, t4, t5, t6, t7]) (by decide) h4) ?_
 intro H5 hg5 ha5
 have hl5 := ha5.1
 try simp only [go_sem, simprocAttr] at hl5
 have hr5 : r < H5.next := by omega
 have hn5 := ne_new hr5
 have hz5 := ne_new0 hr5
 have hx5 := ne_new' hr5
 have bR5 : H5.get (H.next) = some ([.lit (.int .i64 0), .lit (.int .i64 0), .lit (.string (ba []))]) := (ha5.get (by first | omega | (simp only [go_sem, simprocAttr]; omega)) (by omega)).trans (by simp only [go_sem, simprocAttr, hg4, hn, hz, hn', Nat.add_zero, hn4, hz4, hx4, bR4, cR4, dR4, eR4, rR, qR, pRT, bT4, cT4, dT4, eT4, rT, qT, pTR, t1, t2, t3, t4, t5, t6, t7])
 have cR5 : ∀ j, (H5.next + j = H.next) = False := fun j => eq_false (by omega)
 have dR5 : (H5.next = H.next) = False := eq_false (by omega)
 have eR5 : ∀ j, (H.next = H5.next + j) = False := fun j => eq_false (by omega)
 have bT5 : H5.get (H.next + 3) = some (encG (peekG l s)) := (ha5.get (by first | omega | (simp only [go_sem, simprocAttr]; omega)) (by omega)).trans (by simp only [go_sem, simprocAttr, hg4, hn, hz, hn', Nat.add_zero, hn4, hz4, hx4, bR4, cR4, dR4, eR4, rR, qR, pRT, bT4, cT4, dT4, eT4, rT, qT, pTR, t1, t2, t3, t4, t5, t6, t7])
 have cT5 : ∀ j, (H5.next + j = H.next + 3) = False := fun j => eq_false (by omega)
 have dT5 : (H5.next = H.next + 3) = False := eq_false (by omega)
 have eT5 : ∀ j, (H.next + 3 = H5.next + j) = False := fun j => eq_false (by omega)
 simp only [go_sem, simprocAttr, hg5, hn, hz, hn', Nat.add_zero, hn5, hz5, hx5, bR5, cR5, dR5, eR5, rR, qR, pRT, bT5, cT5, dT5, eT5, rT, qT, pTR, t1, t2, t3, t4, t5, t6, t7, hp]
 cases h5 : isNum l s with
 | true =>
  rw [h5] at hq
  simp only at hq
  subst hq
  rw [outP_none (show s.adv.f = none from hf)]
  obtain ⟨p1, p2, p3, p4⟩ := peek_text h5
  obtain ⟨x, hx, _⟩ := isNum_some h5
  have hw := at_wrap hlen (tk_some hx).2.2.1
  have ea := c_atoi _ p2 p3 (by omega)
  have e0 : ([.lit (.int .i64 2), .lit (.int .i64 ((numOf (text l s) : Nat) : Int)), .lit (.string (ba []))] : List AV) = encOpd ⟨2, (numOf (text l s) : Nat), []⟩ := rfl
  simp only [go_sem, simprocAttr, hg5, hn, hz, hn', Nat.add_zero, hn5, hz5, hx5, bR5, cR5, dR5, eR5, rR, qR, pRT, bT5, cT5, dT5, eT5, rT, qT, pTR, t1, t2, t3, t4, t5, t6, t7, rs, hw, p1, ea, e0]
  (repeat first | exact Adv.refl _ _ | assumption | refine Adv.trans ?_ had | refine Adv.trans ?_ ha1 | refine Adv.trans ?_ ha2 | refine Adv.trans ?_ ha3 | refine Adv.trans ?_ ha4 | refine Adv.trans ?_ ha5 | refine Adv.trans ?_ ha6 | refine Adv.trans ?_ ha7 | refine Adv.trans ?_ ha8 | refine Adv.trans ?_ ha9 | refine Adv.trans ?_ ha10 | refine Adv.trans ?_ ha11 | refine Adv.trans ?_ ha12 | apply Adv.up | apply Adv.put | refine Adv.new ?_ (by omega) _ | refine Adv.live ?_ (by omega) _ | refine Adv.owns ?_ (by omega) (by first | exact OwnB.lo ‹_› | exact fun _ _ _ h => by cases h))
 | false =>
 rw [h5] at hq
 simp only at hq
 subst hq
 simp only [go_sem, simprocAttr, hg5, hn, hz, hn', Nat.add_zero, hn5, hz5, hx5, bR5, cR5, dR5, eR5, rR, qR, pRT, bT5, cT5, dT5, eT5, rT, qT, pTR, t1, t2, t3, t4, t5, t6, t7]
 refine goC_out (c_name (s := s) (l := l) (en := en) hlen hf (by first | omega | (simp only [go_sem, simprocAttr]; omega)) (by first | assumption | simp only [go_sem, simprocAttr, hg5, hn, hz, hn', Nat.add_zero, hn5, hz5, hx5, bR5, cR5, dR5, eR5, rR, qR, pRT, bT5, cT5, dT5, eT5, rT, qT, pTR, t1, t2, t3, t4, t5, t6, t7])) ?_ ?_
 ·intro hf2 H6 hg6 ha6
  have hl6 := ha6.1
  try simp only [go_sem, simprocAttr] at hl6
  have hr6 : r < H6.next := by omega
  have hn6 := ne_new hr6
  have hz6 := ne_new0 hr6
  have hx6 := ne_new' hr6
  have bR6 : H6.get (H.next) = some ([.lit (.int .i64 0), .lit (.int .i64 0), .lit (.string (ba []))]) := (ha6.get (by first | omega | (simp only [go_sem, simprocAttr]; omega)) (by omega)).trans (by simp only [go_sem, simprocAttr, hg5, hn, hz, hn', Nat.add_zero, hn5, hz5, hx5, bR5, cR5, dR5, eR5, rR, qR, pRT, bT5, cT5, dT5, eT5, rT, qT, pTR, t1, t2, t3, t4, t5, t6, t7])
  have cR6 : ∀ j, (H6.next + j = H.next) = False := fun j => eq_false (by omega)
  have dR6 : (H6.next = H.next) = False := eq_false (by omega)
  have eR6 : ∀ j, (H.next = H6.next + j) = False := fun j => eq_false (by omega)
  have bT6 : H6.get (H.next + 3) = some (encG (peekG l s)) := (ha6.get (by first | omega | (simp only [go_sem, simprocAttr]; omega)) (by omega)).trans (by simp only [go_sem, simprocAttr, hg5, hn, hz, hn', Nat.add_zero, hn5, hz5, hx5, bR5, cR5, dR5, eR5, rR, qR, pRT, bT5, cT5, dT5, eT5, rT, qT, pTR, t1, t2, t3, t4, t5, t6, t7])
  have cT6 : ∀ j, (H6.next + j = H.next + 3) = False := fun j => eq_false (by omega)
  have dT6 : (H6.next = H.next + 3) = False := eq_false (by omega)
  have eT6 : ∀ j, (H.next + 3 = H6.next + j) = False := fun j => eq_false (by omega)
  rw [outP_none (show (((nameP l en s).1, (⟨4, 0, (nameP l en s).2⟩ : Opd))).1.f = none from hf2)]
  have e0 : ([.lit (.int .i64 4), .lit (.int .i64 0), .lit (.string (ba (nameP l en s).2))] : List AV) = encOpd ⟨4, 0, (nameP l en s).2⟩ := rfl
  simp only [go_sem, simprocAttr, hg6, hn, hz, hn', Nat.add_zero, hn6, hz6, hx6, bR6, cR6, dR6, eR6, rR, qR, pRT, bT6, cT6, dT6, eT6, rT, qT, pTR, t1, t2, t3, t4, t5, t6, t7, rs, e0]
  (repeat first | exact Adv.refl _ _ | assumption | refine Adv.trans ?_ had | refine Adv.trans ?_ ha1 | refine Adv.trans ?_ ha2 | refine Adv.trans ?_ ha3 | refine Adv.trans ?_ ha4 | refine Adv.trans ?_ ha5 | refine Adv.trans ?_ ha6 | refine Adv.trans ?_ ha7 | refine Adv.trans ?_ ha8 | refine Adv.trans ?_ ha9 | refine Adv.trans ?_ ha10 | refine Adv.trans ?_ ha11 | refine Adv.trans ?_ ha12 | apply Adv.up | apply Adv.put | refine Adv.new ?_ (by omega) _ | refine Adv.live ?_ (by omega) _ | refine Adv.owns ?_ (by omega) (by first | exact OwnB.lo ‹_› | exact fun _ _ _ h => by cases h))
 ·intro q hf2 H9 had
  rw [outP_some (show (((nameP l en s).1, (⟨4, 0, (nameP l en s).2⟩ : Opd))).1.f = some q from hf2)]
  simp only [go_sem, simprocAttr, san_trouble]
  (repeat first | exact Adv.refl _ _ | assumption | refine Adv.trans ?_ had | refine Adv.trans ?_ ha1 | refine Adv.trans ?_ ha2 | refine Adv.trans ?_ ha3 | refine Adv.trans ?_ ha4 | refine Adv.trans ?_ ha5 | refine Adv.trans ?_ ha6 | refine Adv.trans ?_ ha7 | refine Adv.trans ?_ ha8 | refine Adv.trans ?_ ha9 | refine Adv.trans ?_ ha10 | refine Adv.trans ?_ ha11 | refine Adv.trans ?_ ha12 | apply Adv.up | apply Adv.put | refine Adv.new ?_ (by omega) _ | refine Adv.live ?_ (by omega) _ | refine Adv.owns ?_ (by omega) (by first | exact OwnB.lo ‹_› | exact fun _ _ _ h => by cases h))
end
end Go.Proofs.YtghhkbigmmjanaaGreatDoor.VA

/-! Pe4 -/
namespace Go.Proofs.YtghhkbigmmjanaaGreatDoor.VA
open Go Go.RowKit
attribute [local go_sem] Nat.add_eq_left Nat.left_eq_add true_and and_true ite_true if_false Int.cast_ofNat_Int eq_self Nat.add_assoc Option.some.injEq decide_true decide_false Bool.not_true Bool.not_false List.size_toArray List.length_cons List.length_nil
set_option linter.unusedSimpArgs false
set_option maxRecDepth 100000

/-- A call that answers nothing, and leaves a memory of which something is said; or panics with a fault. -/
def LC (P : Program) (c : Cfg) (f : FuncId) (args : List AV) (H : Heap) (o : Option (Nat × Int)) (I J : Heap → Prop) : Prop :=
 match o with
 | none => ∃ H', calls P c f args H = some (.ret (.tup []) H') ∧ I H'
 | some q => ∃ H', calls P c f args H = some (.pan (encTrouble q.1 q.2) H') ∧ J H'
def LQ (P : Program) (rs : List ResultVar) (o : Option (Nat × Int)) (I J : Heap → Prop) : Post := fun x e H => match x with
 | .nrm | .ret => o = none ∧ (aResults P e H rs).map (fun vs => san (oneOr vs)) = some (.tup []) ∧ I H
 | .pan u => ∃ q, o = some q ∧ san u = encTrouble q.1 q.2 ∧ J H
 | _ => False
section
variable {P : Program} {c : Cfg} {rs : List ResultVar} {o : Option (Nat × Int)} {I J : Heap → Prop} {e : List AV} {H : Heap}
@[go_sem] theorem LQ_nrm : LQ P rs o I J .nrm e H = (o = none ∧ (aResults P e H rs).map (fun vs => san (oneOr vs)) = some (.tup []) ∧ I H) := rfl
@[go_sem] theorem LQ_ret : LQ P rs o I J .ret e H = (o = none ∧ (aResults P e H rs).map (fun vs => san (oneOr vs)) = some (.tup []) ∧ I H) := rfl
@[go_sem] theorem LQ_pan {u : AV} : LQ P rs o I J (.pan u) e H = (∃ q, o = some q ∧ san u = encTrouble q.1 q.2 ∧ J H) := rfl
theorem LC_of {f : FuncId} {fn : Func} {code : Code} {args : List AV} (ht : c.told f = none) (hf : c.fn f = some fn) (hi : c.imp f = true) (hb : fn.body = some code) (hn : Nat.ble args.length fn.ntmps = true)
  (h : W P c code [] args H (LQ P fn.results.toList o I J)) (htr : c.trim f = none := by rfl) : LC P c f args H o I J := by
 obtain ⟨x, e1, H1, hx, hq⟩ := h
 rw [Fin_nil] at hq
 have hn' := Nat.le_of_ble_eq_true hn
 have good : (x = .nrm ∨ x = .ret) → (o = none ∧ (aResults P e1 H1 fn.results.toList).map (fun vs => san (oneOr vs)) = some (.tup []) ∧ I H1) → LC P c f args H o I J := by
  rintro hx2 ⟨rfl, hv, hI⟩
  cases hvs : aResults P e1 H1 fn.results.toList with
  | none => rw [hvs] at hv; cases hv
  | some vs =>
   have hs : san (oneOr vs) = .tup [] := by rw [hvs] at hv; simpa using hv
   obtain ⟨k, hk⟩ := runFn_of_XS hb hn' hx hx2 hvs
   exact ⟨H1, calls_iff.2 ⟨k + 1, by simp only [call, ht, hf, hi, hk, htr, trimK, hs]⟩, hI⟩
 cases x with
 | nrm => exact good (.inl rfl) hq
 | ret => exact good (.inr rfl) hq
 | exit j => exact hq.elim
 | pan v =>
  obtain ⟨q, rfl, hs, hJ⟩ := hq
  obtain ⟨k, hk⟩ := runFn_of_pan hb hn' hx
  exact ⟨H1, calls_iff.2 ⟨k + 1, by simp only [call, ht, hf, hi, hk, htr, trimK, hs]⟩, hJ⟩
variable {st : List Fr} {Q : Post} {ds : List (Option Tmp)} {base : Nat} {dst : Option Tmp} {os : List Oper} {i : Nat} {f : FuncId} {args : List AV}
theorem goC_LC (h : LC P c f args H o I J) (ok : o = none → ∀ H', I H' → WO P c ds base os i st (aput e dst (.tup [])) H' Q) (bad : ∀ q, o = some q → ∀ H', J H' → Fin P c st (.pan (encTrouble q.1 q.2)) e H' Q) :
  goC P c (calls P c f args H) ds base dst os i st e Q := by
 cases o with
 | none => obtain ⟨H', h1, h2⟩ := h; rw [h1]; exact ok rfl H' h2
 | some q => obtain ⟨H', h1, h2⟩ := h; rw [h1]; exact bad q rfl H' h2
end
section
variable {l : List GTok} {en : Int} {r : Nat} {s : PS} {H : Heap}
theorem bad_f {s : PS} {q : Nat × Int} (h : s.f = some q) : s.ok = false := ok_some h
theorem isT_bad {s : PS} (h : s.ok = false) (t : List UInt8) : isT l s t = false := by
 cases h2 : isT l s t with
 | false => rfl
 | true => obtain ⟨x, h3, _⟩ := isT_some h2; rw [(tk_some h3).2.1] at h; cases h
theorem need_bad' {s : PS} (h : s.ok = false) (t : List UInt8) : need l en s t = s := by
 obtain ⟨a, c, f⟩ := s
 cases f with
 | none => cases h
 | some q => rfl
theorem listF_one {X : Type} {one : PS → X → PS × X} {end_ : List UInt8} {s : PS} {x : X} {n : Nat} (h : s.ok = true) (hn : ms l s < n) (h2 : (one s x).1.ok = false) : listF l en one end_ n s x = one s x := by
 obtain ⟨n, rfl⟩ : ∃ k, n = k + 1 := ⟨n - 1, by omega⟩
 simp only [listF, h, isT_bad h2, need_bad' h2, listF_bad _ _ h2]
/-- What is said of a closure that takes one thing. -/
structure OneOk (l : List GTok) (en : Int) (r : Nat) (H0 : Heap) {X : Type} (one : PS → X → PS × X) (f : FuncId) (caps : List AV) (I : PS → X → Heap → Prop) : Prop where
 par : ∀ s x H, I s x H → r < H.next ∧ H.get r = some (cP l en s)
 adv : ∀ s x H s' H', I s x H → s.at_ ≤ s'.at_ → s'.at_ ≤ l.length → Adv r H H' → H'.get r = some (cP l en s') → I s' x H'
 lt : ∀ s x, Lt1 l s (one s x).1
 one : ∀ s x H, s.f = none → I s x H → LC Tryz.prog cfg f caps H (one s x).1.f (fun H' => I (one s x).1 (one s x).2 H') (Adv r H0)
 ad : ∀ s x H, I s x H → Adv r H0 H
 le : ∀ s x H, I s x H → s.at_ ≤ l.length
set_option maxRecDepth 20000 in
theorem c_list (hlen : l.length ≤ LM) {X : Type} {one : PS → X → PS × X} {f : FuncId} {caps : List AV} {I : PS → X → Heap → Prop} {H0 : Heap} (ho : OneOk l en r H0 one f caps I) (end_ : List UInt8) (he : end_ ≠ []) (x : X) (hf : s.f = none) (hI : I s x H) :
  LC Tryz.prog cfg 83 [.ptr r 0, .lit (.string (ba end_)), .fn f caps] H (listP l en one end_ s x).1.f (fun H' => I (listP l en one end_ s x).1 (listP l en one end_ s x).2 H') (Adv r H0) := by
 refine LC_of (fn := Tryz.f83) rfl rfl rfl rfl rfl ?_
 have rs : Tryz.f83.results.toList = [] := rfl
 generalize hR : listP l en one end_ s x = R
 unfold listP at hR
 obtain ⟨hr, hg⟩ := ho.par _ _ _ hI
 have hle := ho.le _ _ _ hI
 simp only [go_sem, simprocAttr]
 cases h0 : isT l s end_ with
 | true =>
  rw [h0] at hR
  subst hR
  refine goC_ok (c_take_yes (s := s) (l := l) (en := en) hlen hf (by simp only [go_sem, simprocAttr]; omega) (by simp only [go_sem, simprocAttr, hg]) he h0) ?_
  intro H1 hg1 ha1
  simp only [go_sem, simprocAttr, rs]
  exact ⟨hf, ho.adv _ _ _ _ _ hI (Nat.le_succ _) (isT_at h0) ((((Adv.refl r H).up 3).trans ha1)) hg1⟩
 | false =>
 rw [h0] at hR
 simp only at hR
 refine goC_ok (c_take_no (s := s) (l := l) (en := en) hlen hf (by simp only [go_sem, simprocAttr]; omega) (by simp only [go_sem, simprocAttr, hg]) he h0) ?_
 intro H1 hg1 ha1
 simp only [go_sem, simprocAttr]
 refine W_loop_ind (fun n e H => ∃ (s : PS) (x : X) (k : Nat), n = ms l s ∧ ms l s < k ∧ s.f = none ∧ listF l en one end_ k s x = R ∧ I s x H ∧ gget .bad e 0 = .ptr r 0 ∧ gget .bad e 1 = .lit (.string (ba end_)) ∧ gget .bad e 2 = .fn f caps)
  (ms l s) ⟨s, x, FN, rfl, ms_FN hlen s, hf, hR, ho.adv _ _ _ _ _ hI (Nat.le_refl _) hle (((Adv.refl r H).up 3).trans ha1) hg1, by simp only [go_sem, simprocAttr], by simp only [go_sem, simprocAttr], by simp only [go_sem, simprocAttr]⟩ ?_
 clear hg1 ha1 h0 hR hI hr hg hle
 rintro n ih e H ⟨s, x, k, rfl, hk, hf, hR, hI, e0, e1, e2⟩
 obtain ⟨hr, hg⟩ := ho.par _ _ _ hI
 have hle := ho.le _ _ _ hI
 have hok := ok_none hf
 simp only [go_sem, simprocAttr, e0, e1, e2]
 refine goC_LC (ho.one s x _ hf (ho.adv _ _ _ _ _ hI (Nat.le_refl _) hle ((Adv.refl r H).up 2) (by simp only [go_sem, simprocAttr, hg]))) ?_ ?_
 ·intro hf1 H1 hI1
  obtain ⟨hr1, hg1⟩ := ho.par _ _ _ hI1
  have hle1 := ho.le _ _ _ hI1
  simp only [go_sem, simprocAttr, e0, e1, e2]
  cases h1 : isT l (one s x).1 end_ with
  | true =>
   have hR' := (listF_end hok hk h1).symm.trans hR
   subst hR'
   refine goC_ok (c_take_yes (s := (one s x).1) (l := l) (en := en) hlen hf1 (by simp only [go_sem, simprocAttr]; omega) (by simp only [go_sem, simprocAttr, hg1]) he h1) ?_
   intro H2 hg2 ha2
   simp only [go_sem, simprocAttr, rs]
   exact ⟨hf1, ho.adv _ _ _ _ _ hI1 (Nat.le_succ _) (isT_at h1) (((Adv.refl r H1).up 3).trans ha2) hg2⟩
  | false =>
   obtain ⟨k, rfl, h2⟩ := listF_more (en := en) (one := one) (x := x) hok hk h1
   rw [h2] at hR
   refine goC_ok (c_take_no (s := (one s x).1) (l := l) (en := en) hlen hf1 (by simp only [go_sem, simprocAttr]; omega) (by simp only [go_sem, simprocAttr, hg1]) he h1) ?_
   intro H2 hg2 ha2
   have hl2 := ha2.1
   simp only [go_sem, simprocAttr] at hl2
   simp only [go_sem, simprocAttr, e0, e1, e2]
   refine goC_out (c_need (s := (one s x).1) (l := l) (en := en) hlen hf1 (by simp only [go_sem, simprocAttr]; omega) (by simp only [go_sem, simprocAttr, hg2]) [44] (by decide)) ?_ ?_
   ·intro hf3 H3 hg3 ha3
    have hlt := (ho.lt s x).trans_le (need_lt (en := en) (one s x).1 [44]).le
    have hms := ms_lt hlt hok
    obtain ⟨_, _, hle3⟩ := hlt (ok_none hf3)
    obtain ⟨_, hle4, _⟩ := need_lt (l := l) (en := en) (one s x).1 [44] (ok_none hf3)
    simp only [go_sem, simprocAttr, e0, e1, e2]
    exact ih _ hms _ _ ⟨_, _, k, rfl, by omega, hf3, hR, ho.adv _ _ _ _ _ hI1 (by omega) hle3 (((((Adv.refl r H1).up 3).trans ha2).up 2).trans ha3) hg3, by simp only [go_sem, simprocAttr, e0], by simp only [go_sem, simprocAttr, e1], by simp only [go_sem, simprocAttr, e2]⟩
   ·intro q hf3 H3 had
    rw [listF_bad _ _ (ok_some hf3)] at hR
    subst hR
    simp only [go_sem, simprocAttr, san_trouble]
    exact ⟨q, hf3, rfl, (((((ho.ad _ _ _ hI1).up 3).trans ha2).up 2).trans had)⟩
 ·intro q hf1 H1 had
  have hR' := (listF_one hok hk (ok_some hf1)).symm.trans hR
  subst hR'
  simp only [go_sem, simprocAttr, san_trouble]
  exact ⟨q, hf1, rfl, had⟩
end
end Go.Proofs.YtghhkbigmmjanaaGreatDoor.VA

/-! Pe5 -/
namespace Go.Proofs.YtghhkbigmmjanaaGreatDoor.VA
open Go Go.RowKit
attribute [local go_sem] Nat.add_eq_left Nat.left_eq_add true_and and_true ite_true if_false Int.cast_ofNat_Int eq_self Nat.add_assoc Option.some.injEq decide_true decide_false Bool.not_true Bool.not_false List.size_toArray List.length_cons List.length_nil
set_option linter.unusedSimpArgs false
set_option maxRecDepth 100000

section
variable {l : List GTok} {en : Int} {r : Nat} {s : PS} {H : Heap}
theorem listP_bad {X : Type} (one : PS → X → PS × X) (end_ : List UInt8) {s : PS} (h : s.ok = false) (x : X) : listP l en one end_ s x = (s, x) := by
 simp only [listP, isT_bad h, listF_bad _ _ h]
theorem OwnB.appOk {H : Heap} {o : Own} {e : TypeId} {sz lo : Nat} (h : OwnB H o e sz lo) (n : Nat) : AppOk H o n e sz := by
 cases o with
 | nil => trivial
 | own s e' z => exact h.ok
 | sh => exact h.elim
 | ex => exact h.elim
/-- What lies there while a list is read: the parser, the box of its address, the box of what was read. -/
structure Li (l : List GTok) (en : Int) (r : Nat) (H0 : Heap) (q b : Nat) (kp : List (Nat × List AV)) (s : PS) (H : Heap) : Prop where
 rl : r < H0.next
 q0 : H0.next ≤ q
 q1 : q < H.next
 b0 : H0.next ≤ b
 b1 : b < H.next
 qb : q ≠ b
 gr : H.get r = some (cP l en s)
 gq : H.get q = some [.ptr r 0]
 ad : Adv r H0 H
 le : s.at_ ≤ l.length
 kk : ∀ x ∈ kp, x.1 ≠ r ∧ x.1 ≠ b ∧ x.1 < H.next ∧ H.get x.1 = some x.2
theorem Li.adv {H0 : Heap} {q b : Nat} {kp : List (Nat × List AV)} {s s' : PS} {H H' : Heap} (h : Li l en r H0 q b kp s H) (ha : Adv r H H') (hg : H'.get r = some (cP l en s')) (hle : s'.at_ ≤ l.length) : Li l en r H0 q b kp s' H' :=
 ⟨h.rl, h.q0, Nat.lt_of_lt_of_le h.q1 ha.1, h.b0, Nat.lt_of_lt_of_le h.b1 ha.1, h.qb, hg, by rw [ha.get h.q1 (by have := h.rl; have := h.q0; omega)]; exact h.gq, h.ad.trans ha, hle,
  fun x hx => let ⟨k1, k2, k3, k4⟩ := h.kk x hx; ⟨k1, k2, Nat.lt_of_lt_of_le k3 ha.1, by rw [ha.get k3 k1]; exact k4⟩⟩
theorem Li.ne {H0 : Heap} {q b : Nat} {kp : List (Nat × List AV)} {s : PS} {H : Heap} (h : Li l en r H0 q b kp s H) : (r = b) = False ∧ (b = r) = False ∧ (r = q) = False ∧ (q = r) = False ∧ (q = b) = False ∧ (b = q) = False := by
 have := h.rl; have := h.q0; have := h.b0; have := h.qb
 refine ⟨eq_false (by omega), eq_false (by omega), eq_false (by omega), eq_false (by omega), eq_false (by omega), eq_false (by omega)⟩
def IArg (l : List GTok) (en : Int) (r : Nat) (H0 : Heap) (q b : Nat) (kp : List (Nat × List AV)) (s : PS) (acc : List Opd) (H : Heap) : Prop :=
 Li l en r H0 q b kp s H ∧ acc.length ≤ s.at_ ∧ ∃ o, H.get b = some [.sl o (acc.map encOpd)] ∧ OwnB H o 50 3 H0.next
set_option maxRecDepth 20000 in
theorem oneArg_ok (hlen : l.length ≤ LM) (H0 : Heap) (q b : Nat) (kp : List (Nat × List AV)) : OneOk l en r H0 (oneArg l en) 139 [.ptr b 0, .ptr q 0] (IArg l en r H0 q b kp) := by
 refine ⟨fun s x H h => ⟨Nat.lt_of_lt_of_le h.1.rl h.1.ad.1, h.1.gr⟩, fun s x H s' H' h h1 h2 h3 h4 => ?_, oneArg_lt, fun s acc H hf hI => ?_, fun s x H h => h.1.ad, fun s x H h => h.1.le⟩
 ·obtain ⟨hL, hb, o, g, ho⟩ := h
  exact ⟨hL.adv h3 h4 h2, by omega, o, by rw [h3.get hL.b1 (by have := hL.rl; have := hL.b0; omega)]; exact g, ho.adv h3 hL.rl⟩
 ·obtain ⟨hL, hbd, o, gb, ho⟩ := hI
  refine LC_of (fn := Tryz.f139) rfl rfl rfl rfl rfl ?_
  have rs : Tryz.f139.results.toList = [] := rfl
  obtain ⟨n1, n2, n3, n4, n5, n6⟩ := hL.ne
  have hr := Nat.lt_of_lt_of_le hL.rl hL.ad.1
  have hg := hL.gr
  have gq := hL.gq
  have hb1 := hL.b1
  have hq1 := hL.q1
  have hlt := oneArg_lt (l := l) (en := en) s acc
  refine W_drawE [(0, 1), (0, 2)] [[4, 5], [2, 3, 4, 5], [3, 4, 5], [4, 5], [5], []] (by kernel_rfl) ?_
  simp only [go_sem, simprocAttr, gb, gq]
  refine eK_out rfl (c_operand (s := s) (l := l) (en := en) hlen hf (by simp only [go_sem, simprocAttr]; omega) (by simp only [go_sem, simprocAttr, hg])) ?_ ?_
  ·intro hf1 H1 hg1 ha1
   have hl1 := ha1.1
   simp only [go_sem, simprocAttr] at hl1
   have gb1 : H1.get b = some [.sl o (acc.map encOpd)] := (ha1.get (by simp only [go_sem, simprocAttr]; omega) (by have := hL.rl; have := hL.b0; omega)).trans (by simp only [go_sem, simprocAttr, gb])
   have gq1 : H1.get q = some [.ptr r 0] := (ha1.get (by simp only [go_sem, simprocAttr]; omega) (by have := hL.rl; have := hL.q0; omega)).trans (by simp only [go_sem, simprocAttr, gq])
   have hk : Keeps (H.up 6) H1 b := ha1.keeps (by simp only [go_sem, simprocAttr]; omega) (by have := hL.rl; have := hL.b0; omega)
   have ho1 := (ho.up 6).adv ha1 hL.rl
   have hoA := ho1.appOk acc.length
   have hle := hL.le
   have hap := fun o x H id h => app_opd hlen (acc := acc) (by omega) o x H id h
   obtain ⟨_, q2, q3⟩ := hlt (ok_none hf1)
   simp only [go_sem, simprocAttr, gb1, hap, hoA, hk, hf1, rs]
   refine ⟨hf1, ⟨hL.rl, hL.q0, by simp only [go_sem, simprocAttr]; omega, hL.b0, by simp only [go_sem, simprocAttr]; omega, hL.qb, by simp only [go_sem, simprocAttr, n1, n2, hg1, oneArg], by simp only [go_sem, simprocAttr, n5, n6, gq1], ?_, q3, fun x hx => ?_⟩, by simp [oneArg] at q2 ⊢; omega, _, by simp only [go_sem, simprocAttr] <;> rfl, ((OwnB.app H1 o _ _ _ _ (by have := hL.ad.1; omega) (by omega)).put _ _)⟩
   ·exact Adv.new (Adv.owns ((hL.ad.up 6).trans ha1) (by have := hL.ad.1; omega) ho1.lo) hL.b0 _
   ·obtain ⟨k1, k2, k3, k4⟩ := hL.kk x hx
    refine ⟨k1, k2, by simp only [go_sem, simprocAttr]; omega, ?_⟩
    rw [Heap.get_put, if_neg (Ne.symm k2), ownUs_get, ha1.get (by simp only [go_sem, simprocAttr]; omega) k1]
    exact k4
  ·intro q2 hq2 H1 had
   simp only [go_sem, simprocAttr, san_trouble]
   exact ⟨q2, hq2, rfl, (hL.ad.up 6).trans had⟩
def INam (l : List GTok) (en : Int) (r : Nat) (H0 : Heap) (q b : Nat) (kp : List (Nat × List AV)) (nm : List UInt8) (s : PS) (acc : List (List UInt8)) (H : Heap) : Prop :=
 Li l en r H0 q b kp s H ∧ acc.length ≤ s.at_ ∧ ∃ o, H.get b = some [.lit (.string (ba nm)), .sl o (acc.map encStr), .sl .nil []] ∧ OwnB H o 9 1 H0.next
set_option maxRecDepth 20000 in
theorem oneName_ok (hlen : l.length ≤ LM) (H0 : Heap) (q b : Nat) (kp : List (Nat × List AV)) (nm : List UInt8) : OneOk l en r H0 (oneName l en) 84 [.ptr b 0, .ptr q 0] (INam l en r H0 q b kp nm) := by
 refine ⟨fun s x H h => ⟨Nat.lt_of_lt_of_le h.1.rl h.1.ad.1, h.1.gr⟩, fun s x H s' H' h h1 h2 h3 h4 => ?_, oneName_lt, fun s acc H hf hI => ?_, fun s x H h => h.1.ad, fun s x H h => h.1.le⟩
 ·obtain ⟨hL, hb, o, g, ho⟩ := h
  exact ⟨hL.adv h3 h4 h2, by omega, o, by rw [h3.get hL.b1 (by have := hL.rl; have := hL.b0; omega)]; exact g, ho.adv h3 hL.rl⟩
 ·obtain ⟨hL, hbd, o, gb, ho⟩ := hI
  refine LC_of (fn := Tryz.f84) rfl rfl rfl rfl rfl ?_
  have rs : Tryz.f84.results.toList = [] := rfl
  obtain ⟨n1, n2, n3, n4, n5, n6⟩ := hL.ne
  have hr := Nat.lt_of_lt_of_le hL.rl hL.ad.1
  have hg := hL.gr
  have gq := hL.gq
  have hb1 := hL.b1
  have hq1 := hL.q1
  have hlt := oneName_lt (l := l) (en := en) s acc
  refine W_drawE [(1, 2), (1, 3)] [[1, 5, 6, 7], [5, 6, 7], [3, 4, 5, 6, 7], [4, 5, 6, 7], [5, 6, 7], [6, 7], [7], []] (by kernel_rfl) ?_
  simp only [go_sem, simprocAttr, gb, gq]
  refine eK_out rfl (c_name (s := s) (l := l) (en := en) hlen hf (by simp only [go_sem, simprocAttr]; omega) (by simp only [go_sem, simprocAttr, hg])) ?_ ?_
  ·intro hf1 H1 hg1 ha1
   have hl1 := ha1.1
   simp only [go_sem, simprocAttr] at hl1
   have gb1 : H1.get b = some [.lit (.string (ba nm)), .sl o (acc.map encStr), .sl .nil []] := (ha1.get (by simp only [go_sem, simprocAttr]; omega) (by have := hL.rl; have := hL.b0; omega)).trans (by simp only [go_sem, simprocAttr, gb])
   have gq1 : H1.get q = some [.ptr r 0] := (ha1.get (by simp only [go_sem, simprocAttr]; omega) (by have := hL.rl; have := hL.q0; omega)).trans (by simp only [go_sem, simprocAttr, gq])
   have hk : Keeps (H.up 8) H1 b := ha1.keeps (by simp only [go_sem, simprocAttr]; omega) (by have := hL.rl; have := hL.b0; omega)
   have ho1 := (ho.up 8).adv ha1 hL.rl
   have hoA := ho1.appOk acc.length
   have hle := hL.le
   have hap := fun o x H id h => app_str hlen (acc := acc) (by omega) o x H id h
   obtain ⟨_, q2, q3⟩ := hlt (ok_none hf1)
   simp only [go_sem, simprocAttr, gb1, hap, hoA, hk, hf1, rs]
   refine ⟨hf1, ⟨hL.rl, hL.q0, by simp only [go_sem, simprocAttr]; omega, hL.b0, by simp only [go_sem, simprocAttr]; omega, hL.qb, by simp only [go_sem, simprocAttr, n1, n2, hg1, oneName], by simp only [go_sem, simprocAttr, n5, n6, gq1], ?_, q3, fun x hx => ?_⟩, by simp [oneName] at q2 ⊢; omega, _, by simp only [go_sem, simprocAttr] <;> rfl, ((OwnB.app H1 o _ _ _ _ (by have := hL.ad.1; omega) (by omega)).put _ _)⟩
   ·exact Adv.new (Adv.owns ((hL.ad.up 8).trans ha1) (by have := hL.ad.1; omega) ho1.lo) hL.b0 _
   ·obtain ⟨k1, k2, k3, k4⟩ := hL.kk x hx
    refine ⟨k1, k2, by simp only [go_sem, simprocAttr]; omega, ?_⟩
    rw [Heap.get_put, if_neg (Ne.symm k2), ownUs_get, ha1.get (by simp only [go_sem, simprocAttr]; omega) k1]
    exact k4
  ·intro q2 hq2 H1 had
   simp only [go_sem, simprocAttr, san_trouble]
   exact ⟨q2, hq2, rfl, (hL.ad.up 8).trans had⟩
set_option maxRecDepth 20000 in
theorem c_args (hlen : l.length ≤ LM) (hf : s.f = none) (hr : r < H.next) (hg : H.get r = some (cP l en s)) :
  PCall Tryz.prog cfg r 128 [.ptr r 0] H (outP l en (args l en s).1 (.sl .sh ((args l en s).2.map encOpd))) := by
 refine PCall_of' (fn := Tryz.f128) rfl rfl rfl rfl rfl ?_
 have rs : Tryz.f128.results.toList = [.tmp 2] := rfl
 have ghn := ne_all hr
 simp only [go_sem, simprocAttr]
 have rQ : (H.next = r) = False := eq_false (by omega)
 have qQ : (r = H.next) = False := eq_false (by omega)
 have pBQ : (H.next + 2 = H.next) = False := eq_false (by omega)
 have pQB : (H.next = H.next + 2) = False := eq_false (by omega)
 have rB : (H.next + 2 = r) = False := eq_false (by omega)
 have qB : (r = H.next + 2) = False := eq_false (by omega)
 simp only [go_sem, simprocAttr, hg, ghn, rQ, qQ, pQB, rB, qB, pBQ]
 refine goC_out (c_need (s := s) (l := l) (en := en) hlen hf (by first | omega | (simp only [go_sem, simprocAttr]; omega)) (by first | assumption | simp only [go_sem, simprocAttr, hg, ghn, rQ, qQ, pQB, rB, qB, pBQ]) [40] (by decide)) ?_ ?_
 case refine_2 =>
  intro q hq H1 had
  rw [outP_some (show (args l en s).1.f = some q by unfold args; rw [listP_bad _ _ (ok_some hq)]; exact hq)]
  simp only [go_sem, simprocAttr, san_trouble]
  (repeat first | exact Adv.refl _ _ | assumption | refine Adv.trans ?_ ‹Adv _ _ _› | apply Adv.up | apply Adv.put | refine Adv.new ?_ (by omega) _ | refine Adv.live ?_ (by omega) _ | refine Adv.owns ?_ (by omega) (by first | exact OwnB.lo ‹_› | exact fun _ _ _ h => by cases h))
 intro hf1 H1 hg1 ha1
 have hl1 := ha1.1
 try simp only [go_sem, simprocAttr] at hl1
 have hr1 : r < H1.next := by omega
 have ghn1 := ne_all hr1
 have bQ1 : H1.get (H.next) = some ([.ptr r 0]) := (ha1.get (by first | omega | (simp only [go_sem, simprocAttr]; omega)) (by omega)).trans (by simp only [go_sem, simprocAttr, hg, ghn, rQ, qQ, pQB, rB, qB, pBQ])
 have kQ1 := ne_thr (a := H.next) (b := H1.next) (by omega)
 have bB1 : H1.get (H.next + 2) = some ([.sl .nil []]) := (ha1.get (by first | omega | (simp only [go_sem, simprocAttr]; omega)) (by omega)).trans (by simp only [go_sem, simprocAttr, hg, ghn, rQ, qQ, pQB, rB, qB, pBQ])
 have kB1 := ne_thr (a := H.next + 2) (b := H1.next) (by omega)
 obtain ⟨_, hat1, hat2⟩ := need_lt (l := l) (en := en) s [40] (ok_none hf1)
 simp only [go_sem, simprocAttr, hg1, ghn, ghn1, bQ1, kQ1, rQ, qQ, pQB, bB1, kB1, rB, qB, pBQ]
 refine goC_LC (c_list (s := need l en s [40]) (en := en) hlen (oneArg_ok (l := l) (en := en) (r := r) hlen H H.next (H.next + 2) []) [41] (by decide) [] hf1 ⟨⟨hr, by omega, by simp only [go_sem, simprocAttr]; omega, by omega, by simp only [go_sem, simprocAttr]; omega, by omega, by simp only [go_sem, simprocAttr, hg1], by simp only [go_sem, simprocAttr, bQ1], ?_, hat2, fun x hx => by cases hx⟩, by simp, .nil, by simp only [go_sem, simprocAttr, bB1, List.map_nil], OwnB.nil _ _ _ _⟩) ?_ ?_
 ·(repeat first | exact Adv.refl _ _ | assumption | refine Adv.trans ?_ ‹Adv _ _ _› | apply Adv.up | apply Adv.put | refine Adv.new ?_ (by omega) _ | refine Adv.live ?_ (by omega) _ | refine Adv.owns ?_ (by omega) (by first | exact OwnB.lo ‹_› | exact fun _ _ _ h => by cases h))
 ·intro hfo H2 hI2
  obtain ⟨hL, _, o, g, _⟩ := hI2
  have hg2 := hL.gr
  have ha2 := hL.ad
  rw [outP_none (show (args l en s).1.f = none from hfo)]
  simp only [go_sem, simprocAttr, rs, g, sanLL_encOpd]
  exact ⟨rfl, hg2, by (repeat first | exact Adv.refl _ _ | assumption | refine Adv.trans ?_ ‹Adv _ _ _› | apply Adv.up | apply Adv.put | refine Adv.new ?_ (by omega) _ | refine Adv.live ?_ (by omega) _ | refine Adv.owns ?_ (by omega) (by first | exact OwnB.lo ‹_› | exact fun _ _ _ h => by cases h))⟩
 ·intro q hq H2 had
  rw [outP_some (show (args l en s).1.f = some q from hq)]
  simp only [go_sem, simprocAttr, san_trouble]
  exact had
end
end Go.Proofs.YtghhkbigmmjanaaGreatDoor.VA
