/- What is proved: what the reference's statements and blocks answer, in the abstract interpreter (VA). Condition: no more tokens than a machine holds.
What is proved: what the reference's reader answers for tokens, in the abstract interpreter (VA). Condition: no more tokens than a machine holds.
What is defined and proved: whether programs are the same, and how long a parsed program's lists can be. No program in sight. No condition.
What is proved: whether lists of texts and of statements are the same, as the reference tells, in the abstract interpreter (VA). Condition: no list is longer than a counter tells.
What is proved: whether two programs are the same, as the parser tells, in the abstract interpreter (VA). Condition: no list is longer than a counter tells.
What is proved: rules for the parser's functions, which write to the parser and may panic with a fault, in the abstract interpreter (VA). No condition.
What is proved: what the parser's small functions answer, or panic with, in the abstract interpreter (VA). Condition: no more tokens than a machine holds.
What is proved: what the parser's take, need, name and operand answer, or panic with, in the abstract interpreter (VA). Condition: no more tokens than a machine holds. -/
import Derived.Test.YtghhkbigmmjanaaDoorM4
/-! Pd7 -/
namespace Go.Proofs.YtghhkbigmmjanaaDoor.VA
open Go Go.RowKit
attribute [local go_sem] Nat.add_eq_left Nat.left_eq_add true_and and_true ite_true if_false Int.cast_ofNat_Int eq_self Nat.add_assoc Option.some.injEq decide_true decide_false Bool.not_true Bool.not_false List.size_toArray List.length_cons List.length_nil
set_option linter.unusedSimpArgs false
set_option maxRecDepth 100000

section
variable {l : List GTok} {en : Int}
theorem isT_other {s : PS} {t u : List UInt8} (h : isT l s t = true) (hne : t ≠ u) : isT l s u = false := by
  obtain ⟨x, h1, _, h2, _⟩ := isT_some h
  simp only [isT, h1]
  have : decide (x.text = u) = false := by simp [h2, hne]
  rw [this, Bool.and_false, Bool.false_and]
theorem isT_name {s : PS} {t : List UInt8} (h : isT l s t = true) (hk : keyword t = true) : isName l s = false := by
  obtain ⟨x, h1, _, h2, _⟩ := isT_some h
  simp only [isName, h1, h2, hk, Bool.not_true, Bool.and_false]
theorem name_isT {s : PS} {t : List UInt8} (h : isName l s = true) (hk : keyword t = true) : isT l s t = false := by
  cases h2 : isT l s t with
  | false => rfl
  | true => rw [isT_name h2 hk] at h; cases h
/-- The ways a statement may begin. -/
theorem begins (s : PS) :
    (isName l s = true ∧ isT l s [111, 117, 116] = false ∧ isT l s [114, 101, 116, 117, 114, 110] = false ∧ isT l s [105, 102] = false ∧ isT l s [119, 104, 105, 108, 101] = false) ∨
    (isName l s = false ∧ isT l s [111, 117, 116] = true ∧ isT l s [114, 101, 116, 117, 114, 110] = false ∧ isT l s [105, 102] = false ∧ isT l s [119, 104, 105, 108, 101] = false) ∨
    (isName l s = false ∧ isT l s [111, 117, 116] = false ∧ isT l s [114, 101, 116, 117, 114, 110] = true ∧ isT l s [105, 102] = false ∧ isT l s [119, 104, 105, 108, 101] = false) ∨
    (isName l s = false ∧ isT l s [111, 117, 116] = false ∧ isT l s [114, 101, 116, 117, 114, 110] = false ∧ isT l s [105, 102] = true ∧ isT l s [119, 104, 105, 108, 101] = false) ∨
    (isName l s = false ∧ isT l s [111, 117, 116] = false ∧ isT l s [114, 101, 116, 117, 114, 110] = false ∧ isT l s [105, 102] = false ∧ isT l s [119, 104, 105, 108, 101] = true) ∨
    (isName l s = false ∧ isT l s [111, 117, 116] = false ∧ isT l s [114, 101, 116, 117, 114, 110] = false ∧ isT l s [105, 102] = false ∧ isT l s [119, 104, 105, 108, 101] = false) := by
  cases h0 : isName l s with
  | true => exact .inl ⟨rfl, name_isT h0 rfl, name_isT h0 rfl, name_isT h0 rfl, name_isT h0 rfl⟩
  | false =>
  cases h1 : isT l s [111, 117, 116] with
  | true => exact .inr (.inl ⟨rfl, rfl, isT_other h1 (by decide), isT_other h1 (by decide), isT_other h1 (by decide)⟩)
  | false =>
  cases h2 : isT l s [114, 101, 116, 117, 114, 110] with
  | true => exact .inr (.inr (.inl ⟨rfl, rfl, rfl, isT_other h2 (by decide), isT_other h2 (by decide)⟩))
  | false =>
  cases h3 : isT l s [105, 102] with
  | true => exact .inr (.inr (.inr (.inl ⟨rfl, rfl, rfl, rfl, isT_other h3 (by decide)⟩)))
  | false =>
  cases h4 : isT l s [119, 104, 105, 108, 101] with
  | true => exact .inr (.inr (.inr (.inr (.inl ⟨rfl, rfl, rfl, rfl, rfl⟩))))
  | false => exact .inr (.inr (.inr (.inr (.inr ⟨rfl, rfl, rfl, rfl, rfl⟩))))
theorem encStmt_mk (op : Nat) (x y p : List UInt8) (a : List Opd) (ps : List (List UInt8)) (th el : List GStmt) : encStmt (.mk op x y p a ps th el) =
    [.lit (.int .i64 (op : Nat)), .lit (.string (ba x)), .lit (.string (ba y)), .lit (.string (ba p)), .sl .sh (a.map encOpd), .sl .sh (ps.map encStr), .sl .sh (th.map encStmt), .sl .sh (el.map encStmt)] := by simp only [encStmt, encStmts_map]
theorem app_stm (hlen : l.length ≤ LM) {acc : List GStmt} (h : acc.length ≤ l.length + 5) (o : Own) (x : GStmt) (H : Heap) (id : Nat) (ho : AppOk H o acc.length 65 8) :
    aAppend Tryd.prog 42 (.sl o (acc.map encStmt)) (.sl .ex [encStmt x]) H id = some (.sl (.own id 65 8) ((acc ++ [x]).map encStmt), ownUs o id, ownRs o) := by
  rw [append_any el_sStm zo_sStm (by decide) (by simp; unfold LM at hlen; omega) (by simp; unfold LM at hlen; omega) (eM_len x) H id (by simpa using ho)]
  simp [sanLL, sanL_encStmt]
/-- What is said of statements, with so much fuel. -/
def StmtOk (l : List GTok) (en : Int) (n : Nat) : Prop := ∀ (s : PS) (deep : Nat) (H : Heap), 3 * rem l s + 1 ≤ n → deep ≤ 33 →
  calls Tryd.prog cfg 38 [.agg (cS l en s), .lit (.int .i64 (deep : Nat))] H = some (.ret (.tup [.agg (cS l en (stmtF l en n s deep).1), .agg (encStmt (stmtF l en n s deep).2)]) H)
def BlockOk (l : List GTok) (en : Int) (n : Nat) : Prop := ∀ (s : PS) (deep : Nat) (H : Heap), 3 * rem l s + 3 ≤ n → deep ≤ 33 →
  calls Tryd.prog cfg 19 [.agg (cS l en s), .lit (.int .i64 (deep : Nat))] H = some (.ret (.tup [.agg (cS l en (blockF l en n s deep).1), .sl .sh ((blockF l en n s deep).2.map encStmt)]) H)
set_option maxRecDepth 20000 in
theorem c_rStmt (hlen : l.length ≤ LM) (n : Nat) (ihb : BlockOk l en n) : StmtOk l en (n + 1) := by
  intro s deep H hn hdeep
  refine calls_pure (fn := Tryd.f38) rfl rfl rfl rfl rfl ?_ H
  have rs : Tryd.f38.results.toList = [.cell 4 54, .cell 5 65] := rfl
  generalize hr : stmtF l en (n + 1) s deep = r
  unfold stmtF at hr
  have eM := encStmt_mk
  have cnt : ∀ (s : PS) (t : List UInt8), isT l s.count t = isT l s t := fun _ _ => rfl
  rcases begins (l := l) s with ⟨h0, h1, h2, h3, h4⟩ | ⟨h0, h1, h2, h3, h4⟩ | ⟨h0, h1, h2, h3, h4⟩ | ⟨h0, h1, h2, h3, h4⟩ | ⟨h0, h1, h2, h3, h4⟩ | ⟨h0, h1, h2, h3, h4⟩
  case inr.inr.inr.inr.inr =>
    have hst : starts l s = false := by simp only [starts, tOut, tReturn, tIf, tWhile, h0, h1, h2, h3, h4, Bool.or_self]
    rw [hst] at hr
    simp only at hr
    subst hr
    simp only [go_sem, Nat.reduceBEq, Nat.reduceLeDiff, Nat.reduceEqDiff, Nat.reduceSub, Nat.reduceAdd, Int.reduceEq, Int.reduceLT, Int.reduceLE, Int.reduceAdd, rs, c_rIsName, c_rIs, h0, h1, h2, h3, h4]
    refine W_draw [(0, 2), (1, 2), (2, 3)] (by kernel_rfl) ?_
    simp only [go_sem, Nat.reduceBEq, Nat.reduceLeDiff, Nat.reduceEqDiff, Nat.reduceSub, Nat.reduceAdd, Int.reduceEq, Int.reduceLT, Int.reduceLE, Int.reduceAdd, rs, c_rFail0, eM, List.map_nil]
  all_goals
    have hst : starts l s = true := by simp only [starts, tOut, tReturn, tIf, tWhile, h0, h1, h2, h3, h4, Bool.or_true, Bool.true_or]
    rw [hst] at hr
    simp only [tIf, tWhile, h3, h4] at hr
    by_cases hc : 2000 ≤ s.cnt
    · have d : decide (2000 ≤ ((s.cnt : Nat) : Int)) = true := by simp; omega
      have d' : decide (2000 ≤ s.cnt) = true := by simp [hc]
      rw [d'] at hr
      simp only at hr
      subst hr
      simp only [go_sem, Nat.reduceBEq, Nat.reduceLeDiff, Nat.reduceEqDiff, Nat.reduceSub, Nat.reduceAdd, Int.reduceEq, Int.reduceLT, Int.reduceLE, Int.reduceAdd, rs, c_rIsName, c_rIs, h0, h1, h2, h3, h4, d]
      refine W_draw [(0, 2), (1, 2), (2, 3)] (by kernel_rfl) ?_
      simp only [go_sem, Nat.reduceBEq, Nat.reduceLeDiff, Nat.reduceEqDiff, Nat.reduceSub, Nat.reduceAdd, Int.reduceEq, Int.reduceLT, Int.reduceLE, Int.reduceAdd, rs, c_rFail2, eM, List.map_nil]
    have d : decide (2000 ≤ ((s.cnt : Nat) : Int)) = false := by simp; omega
    have d' : decide (2000 ≤ s.cnt) = false := by simp; omega
    rw [d'] at hr
    simp only at hr
    have hwc := wrap1 (show s.cnt + 1 ≤ 9223372036854775807 by omega)
  · subst hr
    have hsim : simple l en s.count = assign l en s.count := by simp only [simple, tOut, tReturn, cnt, h1, h2]
    simp only [semi, hsim, assign]
    simp only [go_sem, Nat.reduceBEq, Nat.reduceLeDiff, Nat.reduceEqDiff, Nat.reduceSub, Nat.reduceAdd, Int.reduceEq, Int.reduceLT, Int.reduceLE, Int.reduceAdd, rs, c_rIsName, c_rIs, h0, h1, h2, h3, h4, d, hwc, cnt, c_rName2 hlen]
    cases h5 : isT l (nameP l en s.count).1 [46] with
    | true =>
      simp only [go_sem, Nat.reduceBEq, Nat.reduceLeDiff, Nat.reduceEqDiff, Nat.reduceSub, Nat.reduceAdd, Int.reduceEq, Int.reduceLT, Int.reduceLE, Int.reduceAdd, c_rNeed hlen, need_yes h5, c_rName2 hlen, c_rOperand hlen]
      refine W_draw [(0, 4), (1, 4), (4, 7)] (by kernel_rfl) ?_
      simp only [go_sem, Nat.reduceBEq, Nat.reduceLeDiff, Nat.reduceEqDiff, Nat.reduceSub, Nat.reduceAdd, Int.reduceEq, Int.reduceLT, Int.reduceLE, Int.reduceAdd, rs, c_rNeed hlen, eM, List.map_cons, List.map_nil]
    | false =>
      simp only [go_sem, Nat.reduceBEq, Nat.reduceLeDiff, Nat.reduceEqDiff, Nat.reduceSub, Nat.reduceAdd, Int.reduceEq, Int.reduceLT, Int.reduceLE, Int.reduceAdd, c_rNeed hlen, c_rValue hlen]
      refine W_draw [(0, 2), (1, 2), (2, 3)] (by kernel_rfl) ?_
      simp only [go_sem, Nat.reduceBEq, Nat.reduceLeDiff, Nat.reduceEqDiff, Nat.reduceSub, Nat.reduceAdd, Int.reduceEq, Int.reduceLT, Int.reduceLE, Int.reduceAdd, rs, c_rNeed hlen]
  · subst hr
    have hw := at_wrap hlen (s := s.count) (isT_at (s := s.count) h1)
    have hsim : simple l en s.count = ((operand l en s.count.adv).1, .mk 8 [] [] [] [(operand l en s.count.adv).2] [] [] []) := by simp only [simple, tOut, cnt, h1]
    simp only [semi, hsim]
    simp only [go_sem, Nat.reduceBEq, Nat.reduceLeDiff, Nat.reduceEqDiff, Nat.reduceSub, Nat.reduceAdd, Int.reduceEq, Int.reduceLT, Int.reduceLE, Int.reduceAdd, rs, c_rIsName, c_rIs, h0, h1, h2, h3, h4, d, hwc, cnt, hw, c_rOperand hlen]
    refine W_draw [(0, 3), (1, 3), (3, 6)] (by kernel_rfl) ?_
    simp only [go_sem, Nat.reduceBEq, Nat.reduceLeDiff, Nat.reduceEqDiff, Nat.reduceSub, Nat.reduceAdd, Int.reduceEq, Int.reduceLT, Int.reduceLE, Int.reduceAdd, rs, c_rNeed hlen, eM, List.map_cons, List.map_nil] <;> rfl
  · subst hr
    have hw := at_wrap hlen (s := s.count) (isT_at (s := s.count) h2)
    have hsim : simple l en s.count = ((operand l en s.count.adv).1, .mk 11 [] [] [] [(operand l en s.count.adv).2] [] [] []) := by simp only [simple, tOut, tReturn, cnt, h1, h2]
    simp only [semi, hsim]
    simp only [go_sem, Nat.reduceBEq, Nat.reduceLeDiff, Nat.reduceEqDiff, Nat.reduceSub, Nat.reduceAdd, Int.reduceEq, Int.reduceLT, Int.reduceLE, Int.reduceAdd, rs, c_rIsName, c_rIs, h0, h1, h2, h3, h4, d, hwc, cnt, hw, c_rOperand hlen]
    refine W_draw [(0, 3), (1, 3), (3, 6)] (by kernel_rfl) ?_
    simp only [go_sem, Nat.reduceBEq, Nat.reduceLeDiff, Nat.reduceEqDiff, Nat.reduceSub, Nat.reduceAdd, Int.reduceEq, Int.reduceLT, Int.reduceLE, Int.reduceAdd, rs, c_rNeed hlen, eM, List.map_cons, List.map_nil] <;> rfl
  · have hw := at_wrap hlen (s := s.count) (isT_at (s := s.count) h3)
    obtain ⟨x, hx, _⟩ := isT_some h3
    have hrem : rem l (operand l en s.count.adv).1 + 1 ≤ rem l s := (rem_lt (l := l) ((count_lt (adv_isT (s := s.count) h3)).trans_le (operand_lt (en := en) _).le)).2 (tk_some hx).2.1 (tk_some hx).2.2.1
    have hb1 := fun H => ihb (operand l en s.count.adv).1 deep H (by omega) hdeep
    simp only [go_sem, Nat.reduceBEq, Nat.reduceLeDiff, Nat.reduceEqDiff, Nat.reduceSub, Nat.reduceAdd, Int.reduceEq, Int.reduceLT, Int.reduceLE, Int.reduceAdd, rs, c_rIsName, c_rIs, h0, h1, h2, h3, h4, d, hwc, cnt, hw, c_rOperand hlen, hb1]
    cases h5 : isT l (blockF l en n (operand l en s.count.adv).1 deep).1 [101, 108, 115, 101] with
    | true =>
      have h5' : isT l (blockF l en n (operand l en s.count.adv).1 deep).1 tElse = true := h5
      simp only [h5'] at hr
      subst hr
      have hrem2 : rem l (blockF l en n (operand l en s.count.adv).1 deep).1.adv ≤ rem l (operand l en s.count.adv).1 := (rem_lt (l := l) ((blockF_lt (en := en) n _ deep).trans_le (adv_isT h5).le)).1
      have hb2 := fun H => ihb (blockF l en n (operand l en s.count.adv).1 deep).1.adv deep H (by omega) hdeep
      simp only [go_sem, Nat.reduceBEq, Nat.reduceLeDiff, Nat.reduceEqDiff, Nat.reduceSub, Nat.reduceAdd, Int.reduceEq, Int.reduceLT, Int.reduceLE, Int.reduceAdd, c_rNeed hlen, need_yes h5, hb2]
      refine W_draw [(0, 1), (1, 2)] (by kernel_rfl) ?_
      simp only [go_sem, Nat.reduceBEq, Nat.reduceLeDiff, Nat.reduceEqDiff, Nat.reduceSub, Nat.reduceAdd, Int.reduceEq, Int.reduceLT, Int.reduceLE, Int.reduceAdd, rs, eM, List.map_cons, List.map_nil] <;> rfl
    | false =>
      have h5' : isT l (blockF l en n (operand l en s.count.adv).1 deep).1 tElse = false := h5
      simp only [h5'] at hr
      subst hr
      simp only [go_sem, Nat.reduceBEq, Nat.reduceLeDiff, Nat.reduceEqDiff, Nat.reduceSub, Nat.reduceAdd, Int.reduceEq, Int.reduceLT, Int.reduceLE, Int.reduceAdd]
      refine W_draw [(0, 1), (1, 2)] (by kernel_rfl) ?_
      simp only [go_sem, Nat.reduceBEq, Nat.reduceLeDiff, Nat.reduceEqDiff, Nat.reduceSub, Nat.reduceAdd, Int.reduceEq, Int.reduceLT, Int.reduceLE, Int.reduceAdd, rs, eM, List.map_cons, List.map_nil] <;> rfl
  · have hw := at_wrap hlen (s := s.count) (isT_at (s := s.count) h4)
    obtain ⟨x, hx, _⟩ := isT_some h4
    have hrem : rem l (operand l en s.count.adv).1 + 1 ≤ rem l s := (rem_lt (l := l) ((count_lt (adv_isT (s := s.count) h4)).trans_le (operand_lt (en := en) _).le)).2 (tk_some hx).2.1 (tk_some hx).2.2.1
    have hb1 := fun H => ihb (operand l en s.count.adv).1 deep H (by omega) hdeep
    subst hr
    simp only [go_sem, Nat.reduceBEq, Nat.reduceLeDiff, Nat.reduceEqDiff, Nat.reduceSub, Nat.reduceAdd, Int.reduceEq, Int.reduceLT, Int.reduceLE, Int.reduceAdd, rs, c_rIsName, c_rIs, h0, h1, h2, h3, h4, d, hwc, cnt, hw, c_rOperand hlen, hb1]
    refine W_draw [(0, 1), (1, 2)] (by kernel_rfl) ?_
    simp only [go_sem, Nat.reduceBEq, Nat.reduceLeDiff, Nat.reduceEqDiff, Nat.reduceSub, Nat.reduceAdd, Int.reduceEq, Int.reduceLT, Int.reduceLE, Int.reduceAdd, rs, eM, List.map_cons, List.map_nil] <;> rfl
set_option maxRecDepth 20000 in
theorem c_rBlock (hlen : l.length ≤ LM) (n : Nat) (ihs : ∀ k, k < n → StmtOk l en k) : BlockOk l en (n + 1) := by
  intro s deep H hn hdeep
  refine calls_pure (fn := Tryd.f19) rfl rfl rfl rfl rfl ?_ H
  have rs : Tryd.f19.results.toList = [.cell 4 54, .tmp 5] := rfl
  generalize hr : blockF l en (n + 1) s deep = r
  unfold blockF at hr
  have d : decide (32 ≤ ((deep : Nat) : Int)) = decide (32 ≤ deep) := by rw [Bool.eq_iff_iff]; simp; omega
  have hlt := need_lt (l := l) (en := en) s [123]
  have hrem := (rem_lt hlt).1
  have go : (isT l s [123] = false ∧ decide (32 ≤ deep) = false) ∨ (isT l s [123] = false ∧ decide (32 ≤ deep) = true) ∨ (isT l s [123] = true ∧ decide (32 ≤ deep) = false) ∨ (isT l s [123] = true ∧ decide (32 ≤ deep) = true) := by
    cases isT l s [123] <;> cases decide (32 ≤ deep) <;> simp
  rcases go with ⟨h1, h2⟩ | ⟨h1, h2⟩ | ⟨h1, h2⟩ | ⟨h1, h2⟩
  case inr.inr.inr =>
    simp only [h1, h2, Bool.and_self] at hr
    subst hr
    simp only [go_sem, Nat.reduceBEq, Nat.reduceLeDiff, Nat.reduceEqDiff, Nat.reduceSub, Nat.reduceAdd, Int.reduceEq, Int.reduceLT, Int.reduceLE, Int.reduceAdd, rs, bs0_stm, c_rIs, h1, d, h2, c_rFail1, List.map_nil]
  all_goals
    simp only [h1, Bool.false_and, Bool.true_and, h2] at hr
    simp only [go_sem, Nat.reduceBEq, Nat.reduceLeDiff, Nat.reduceEqDiff, Nat.reduceSub, Nat.reduceAdd, Int.reduceEq, Int.reduceLT, Int.reduceLE, Int.reduceAdd, rs, bs0_stm, c_rIs, h1, d, h2, c_rNeed hlen]
    have hdp : (need l en s [123]).ok = true → deep ≤ 32 := by
      intro hk
      first
        | (have h2' : ¬ 32 ≤ deep := by simpa using h2
           omega)
        | (simp only [need, h1] at hk; rw [pfail_bad] at hk; cases hk)
    generalize need l en s [123] = s at hr hlt hrem hdp
    refine W_loop_ind (fun x e H => ∃ (s : PS) (acc : List GStmt) (o : Own) (k : Nat), x = ms l s ∧ 1 ≤ k ∧ k ≤ n ∧ (s.ok = true → 3 * rem l s + 2 ≤ k) ∧ bodyF l en k s deep acc = r ∧ (s.ok = true → acc.length ≤ s.at_ ∧ s.at_ ≤ l.length ∧ deep ≤ 32) ∧
        gget .bad e 1 = .lit (.int .i64 (deep : Nat)) ∧ gget .bad e 2 = .ptr 0 0 ∧ gget .bad e 4 = .ptr 1 0 ∧ gget .bad e 6 = .sl o (acc.map encStmt) ∧ H.get 0 = some (cS l en s) ∧ H.get 1 = some [.sl .nil [], .lit (.int .i64 0), .lit (.int .i64 0), .lit (.int .i64 0), .lit (.int .i64 0), .lit (.int .i64 0)] ∧ 2 ≤ H.next ∧ AppOk H o acc.length 65 8)
      (ms l s) ⟨s, [], .ex, n, rfl, by omega, by omega, fun _ => by omega, hr, fun hk => ⟨by simp, (hlt hk).2.2, hdp hk⟩, by simp only [go_sem, Nat.reduceBEq, Nat.reduceLeDiff, Nat.reduceEqDiff, Nat.reduceSub, Nat.reduceAdd, Int.reduceEq, Int.reduceLT, Int.reduceLE, Int.reduceAdd], by simp only [go_sem, Nat.reduceBEq, Nat.reduceLeDiff, Nat.reduceEqDiff, Nat.reduceSub, Nat.reduceAdd, Int.reduceEq, Int.reduceLT, Int.reduceLE, Int.reduceAdd], by simp only [go_sem, Nat.reduceBEq, Nat.reduceLeDiff, Nat.reduceEqDiff, Nat.reduceSub, Nat.reduceAdd, Int.reduceEq, Int.reduceLT, Int.reduceLE, Int.reduceAdd], by simp only [go_sem, Nat.reduceBEq, Nat.reduceLeDiff, Nat.reduceEqDiff, Nat.reduceSub, Nat.reduceAdd, Int.reduceEq, Int.reduceLT, Int.reduceLE, Int.reduceAdd, List.map_nil], by simp only [go_sem, Nat.reduceBEq, Nat.reduceLeDiff, Nat.reduceEqDiff, Nat.reduceSub, Nat.reduceAdd, Int.reduceEq, Int.reduceLT, Int.reduceLE, Int.reduceAdd], by simp only [go_sem, Nat.reduceBEq, Nat.reduceLeDiff, Nat.reduceEqDiff, Nat.reduceSub, Nat.reduceAdd, Int.reduceEq, Int.reduceLT, Int.reduceLE, Int.reduceAdd], by simp only [go_sem, Nat.reduceBEq, Nat.reduceLeDiff, Nat.reduceEqDiff, Nat.reduceSub, Nat.reduceAdd, Int.reduceEq, Int.reduceLT, Int.reduceLE, Int.reduceAdd], by simp only [go_sem, Nat.reduceBEq, Nat.reduceLeDiff, Nat.reduceEqDiff, Nat.reduceSub, Nat.reduceAdd, Int.reduceEq, Int.reduceLT, Int.reduceLE, Int.reduceAdd]⟩ ?_
    clear hlt hr hrem hdp
    rintro x ih e H ⟨s, acc, o, k, rfl, hk1, hkn, hkr, hr, hb, e1, e2, e4, e6, g0, g1, hnx, ho⟩
    obtain ⟨m, hm⟩ : ∃ m, H.next = m + 2 := ⟨H.next - 2, by omega⟩
    obtain ⟨k, rfl⟩ : ∃ j, k = j + 1 := ⟨k - 1, by omega⟩
    have hend : (s.ok && !isT l s [125]) = false → r = (need l en s [125], acc) := fun h => by rw [← hr]; simp only [bodyF, h]
    cases hok : s.ok with
    | false =>
      have hrr := hend (by rw [hok, Bool.false_and])
      subst hrr
      simp only [go_sem, Nat.reduceBEq, Nat.reduceLeDiff, Nat.reduceEqDiff, Nat.reduceSub, Nat.reduceAdd, Int.reduceEq, Int.reduceLT, Int.reduceLE, Int.reduceAdd, rs, e1, e2, e4, e6, g0, g1, hm, c_rOk, hok, c_rNeed hlen, sanLL_encStmt]
    | true =>
      cases h5 : isT l s [125] with
      | true =>
        have hrr := hend (by rw [h5, Bool.not_true, Bool.and_false])
        subst hrr
        simp only [go_sem, Nat.reduceBEq, Nat.reduceLeDiff, Nat.reduceEqDiff, Nat.reduceSub, Nat.reduceAdd, Int.reduceEq, Int.reduceLT, Int.reduceLE, Int.reduceAdd, rs, e1, e2, e4, e6, g0, g1, hm, c_rOk, hok, c_rIs, h5, c_rNeed hlen, sanLL_encStmt]
      | false =>
        have hr2 : bodyF l en k (stmtF l en k s (deep + 1)).1 deep (acc ++ [(stmtF l en k s (deep + 1)).2]) = r := by rw [← hr]; simp only [bodyF, hok, h5, Bool.not_false, Bool.and_self]
        obtain ⟨hb1, hb2, hb3⟩ := hb hok
        have hkr := hkr hok
        have hst := fun H => ihs k (by omega) s (deep + 1) H (by omega) (by omega)
        have hwd := wrap1 (show deep + 1 ≤ 9223372036854775807 by omega)
        have hap := fun o x H id h => app_stm hlen (acc := acc) (by omega) o x H id h
        have hlt := stmtF_lt (l := l) (en := en) k s (deep + 1)
        have hms := ms_lt hlt hok
        simp only [go_sem, Nat.reduceBEq, Nat.reduceLeDiff, Nat.reduceEqDiff, Nat.reduceSub, Nat.reduceAdd, Int.reduceEq, Int.reduceLT, Int.reduceLE, Int.reduceAdd, rs, e1, e2, e4, e6, g0, g1, hm, c_rOk, hok, c_rIs, h5, hwd, hst, hap, ho]
        exact ih _ hms _ _ ⟨_, _, _, k, rfl, by omega, by omega, fun hk' => by
            obtain ⟨q1, q2, q3⟩ := hlt hk'
            have := (rem_lt hlt).2 hok (by omega)
            omega, hr2, fun hk' => by obtain ⟨q1, q2, q3⟩ := hlt hk'; simp only [List.length_append, List.length_cons, List.length_nil]; omega,
          by simp only [go_sem, Nat.reduceBEq, Nat.reduceLeDiff, Nat.reduceEqDiff, Nat.reduceSub, Nat.reduceAdd, Int.reduceEq, Int.reduceLT, Int.reduceLE, Int.reduceAdd, e1], by simp only [go_sem, Nat.reduceBEq, Nat.reduceLeDiff, Nat.reduceEqDiff, Nat.reduceSub, Nat.reduceAdd, Int.reduceEq, Int.reduceLT, Int.reduceLE, Int.reduceAdd, e2], by simp only [go_sem, Nat.reduceBEq, Nat.reduceLeDiff, Nat.reduceEqDiff, Nat.reduceSub, Nat.reduceAdd, Int.reduceEq, Int.reduceLT, Int.reduceLE, Int.reduceAdd, e4], by simp only [go_sem, Nat.reduceBEq, Nat.reduceLeDiff, Nat.reduceEqDiff, Nat.reduceSub, Nat.reduceAdd, Int.reduceEq, Int.reduceLT, Int.reduceLE, Int.reduceAdd] <;> rfl, by simp only [go_sem, Nat.reduceBEq, Nat.reduceLeDiff, Nat.reduceEqDiff, Nat.reduceSub, Nat.reduceAdd, Int.reduceEq, Int.reduceLT, Int.reduceLE, Int.reduceAdd], by simp only [go_sem, Nat.reduceBEq, Nat.reduceLeDiff, Nat.reduceEqDiff, Nat.reduceSub, Nat.reduceAdd, Int.reduceEq, Int.reduceLT, Int.reduceLE, Int.reduceAdd, g1], by simp only [go_sem, Nat.reduceBEq, Nat.reduceLeDiff, Nat.reduceEqDiff, Nat.reduceSub, Nat.reduceAdd, Int.reduceEq, Int.reduceLT, Int.reduceLE, Int.reduceAdd, hm], by simp only [go_sem, Nat.reduceBEq, Nat.reduceLeDiff, Nat.reduceEqDiff, Nat.reduceSub, Nat.reduceAdd, Int.reduceEq, Int.reduceLT, Int.reduceLE, Int.reduceAdd]⟩
theorem c_rBlocks (hlen : l.length ≤ LM) : ∀ n, StmtOk l en n ∧ BlockOk l en n := by
  intro n
  induction n using Nat.strongRecOn with
  | ind n ih =>
    cases n with
    | zero => exact ⟨fun s deep H h => by omega, fun s deep H h => by omega⟩
    | succ n => exact ⟨c_rStmt hlen n (ih n (by omega)).2, c_rBlock hlen n fun k hk => (ih k (by omega)).1⟩
end
end Go.Proofs.YtghhkbigmmjanaaDoor.VA

/-! Pd8 -/
namespace Go.Proofs.YtghhkbigmmjanaaDoor.VA
open Go Go.RowKit
attribute [local go_sem] Nat.add_eq_left Nat.left_eq_add true_and and_true ite_true if_false Int.cast_ofNat_Int eq_self Nat.add_assoc Option.some.injEq decide_true decide_false Bool.not_true Bool.not_false List.size_toArray List.length_cons List.length_nil
set_option linter.unusedSimpArgs false
set_option maxRecDepth 100000

section
variable {l : List GTok} {en : Int}
theorem app_fun (hlen : l.length ≤ LM) {acc : List GFunc} (h : acc.length ≤ l.length + 5) (o : Own) (x : GFunc) (H : Heap) (id : Nat) (ho : AppOk H o acc.length 44 3) :
    aAppend Tryd.prog 23 (.sl o (acc.map encFunc)) (.sl .ex [encFunc x]) H id = some (.sl (.own id 44 3) ((acc ++ [x]).map encFunc), ownUs o id, ownRs o) := by
  rw [append_any el_sFun zo_sFun (by decide) (by simp; unfold LM at hlen; omega) (by simp; unfold LM at hlen; omega) (by rfl) H id (by simpa using ho)]
  simp [sanLL, sanL_encFunc]
theorem progF_end {s : PS} {acc : List GFunc} {n : Nat} (h : (s.ok && decide (s.at_ < l.length)) = false) : progF l en n s acc = (s, acc) := by
  cases n with
  | zero => rfl
  | succ n => simp only [progF, h]
theorem progF_more {s : PS} {acc : List GFunc} {n : Nat} (h : (s.ok && decide (s.at_ < l.length)) = true) (hn : ms l s < n) : ∃ k, n = k + 1 ∧ progF l en n s acc = progF l en k (funcP l en s).1 (acc ++ [(funcP l en s).2]) := by
  obtain ⟨k, rfl⟩ : ∃ k, n = k + 1 := ⟨n - 1, by omega⟩
  exact ⟨k, rfl, by simp only [progF, h]⟩
theorem rem_FN (hlen : l.length ≤ LM) (s : PS) : 3 * rem l s + 3 ≤ FN := by
  have : rem l s ≤ l.length := by unfold rem; split <;> omega
  unfold LM at hlen; unfold FN; omega
set_option maxRecDepth 20000 in
theorem c_rRead (hlen : l.length ≤ LM) (o : Own) (H : Heap) : calls Tryd.prog cfg 8 [.sl o (l.map encG), .lit (.int .i64 en)] H = some (.ret (encRead (readP l en)) H) := by
  refine calls_pure (fn := Tryd.f8) rfl rfl rfl rfl rfl ?_ H
  have rs : Tryd.f8.results.toList = [.cell 4 25, .cell 5 28] := rfl
  generalize hr : readP l en = r
  unfold readP at hr
  generalize hq : progF l en FN ⟨0, 0, none⟩ [] = q at hr
  have e0 : ([.sl .sh (l.map encG), .lit (.int .i64 0), .lit (.int .i64 en), .lit (.int .i64 0), .lit (.int .i64 0), .lit (.int .i64 0)] : List AV) = cS l en ⟨0, 0, none⟩ := rfl
  have hblk : ∀ s H, calls Tryd.prog cfg 19 [.agg (cS l en s), .lit (.int .i64 0)] H = some (.ret (.tup [.agg (cS l en (blockF l en FN s 0).1), .sl .sh ((blockF l en FN s 0).2.map encStmt)]) H) :=
    fun s H => (c_rBlocks hlen FN).2 s 0 H (rem_FN hlen s) (by omega)
  simp only [go_sem, Nat.reduceBEq, Nat.reduceLeDiff, Nat.reduceEqDiff, Nat.reduceSub, Nat.reduceAdd, Int.reduceEq, Int.reduceLT, Int.reduceLE, Int.reduceAdd, rs, e0]
  refine W_loop_ind (fun x e H => ∃ (s : PS) (acc : List GFunc) (o : Own) (k : Nat), x = ms l s ∧ ms l s < k ∧ progF l en k s acc = q ∧ (s.ok = true → acc.length ≤ s.at_) ∧ acc.length ≤ l.length + 1 ∧
      gget .bad e 0 = .sl .sh (l.map encG) ∧ gget .bad e 4 = .ptr 0 0 ∧ gget .bad e 5 = .ptr 1 0 ∧ gget .bad e 6 = .ptr 5 0 ∧ gget .bad e 7 = .ptr 8 0 ∧ H.get 0 = some [.sl .nil []] ∧ H.get 1 = some [.lit (.int .i64 0), .lit (.int .i64 0)] ∧ H.get 5 = some (cS l en s) ∧
      H.get 8 = some [.sl o (acc.map encFunc)] ∧ 10 ≤ H.next ∧ AppOk H o acc.length 44 3)
    (ms l ⟨0, 0, none⟩) ⟨⟨0, 0, none⟩, [], .nil, FN, rfl, ms_FN hlen _, hq, fun _ => by simp, by simp, by simp only [go_sem, Nat.reduceBEq, Nat.reduceLeDiff, Nat.reduceEqDiff, Nat.reduceSub, Nat.reduceAdd, Int.reduceEq, Int.reduceLT, Int.reduceLE, Int.reduceAdd], by simp only [go_sem, Nat.reduceBEq, Nat.reduceLeDiff, Nat.reduceEqDiff, Nat.reduceSub, Nat.reduceAdd, Int.reduceEq, Int.reduceLT, Int.reduceLE, Int.reduceAdd], by simp only [go_sem, Nat.reduceBEq, Nat.reduceLeDiff, Nat.reduceEqDiff, Nat.reduceSub, Nat.reduceAdd, Int.reduceEq, Int.reduceLT, Int.reduceLE, Int.reduceAdd], by simp only [go_sem, Nat.reduceBEq, Nat.reduceLeDiff, Nat.reduceEqDiff, Nat.reduceSub, Nat.reduceAdd, Int.reduceEq, Int.reduceLT, Int.reduceLE, Int.reduceAdd], by simp only [go_sem, Nat.reduceBEq, Nat.reduceLeDiff, Nat.reduceEqDiff, Nat.reduceSub, Nat.reduceAdd, Int.reduceEq, Int.reduceLT, Int.reduceLE, Int.reduceAdd], by simp only [go_sem, Nat.reduceBEq, Nat.reduceLeDiff, Nat.reduceEqDiff, Nat.reduceSub, Nat.reduceAdd, Int.reduceEq, Int.reduceLT, Int.reduceLE, Int.reduceAdd], by simp only [go_sem, Nat.reduceBEq, Nat.reduceLeDiff, Nat.reduceEqDiff, Nat.reduceSub, Nat.reduceAdd, Int.reduceEq, Int.reduceLT, Int.reduceLE, Int.reduceAdd], by simp only [go_sem, Nat.reduceBEq, Nat.reduceLeDiff, Nat.reduceEqDiff, Nat.reduceSub, Nat.reduceAdd, Int.reduceEq, Int.reduceLT, Int.reduceLE, Int.reduceAdd], by simp only [go_sem, Nat.reduceBEq, Nat.reduceLeDiff, Nat.reduceEqDiff, Nat.reduceSub, Nat.reduceAdd, Int.reduceEq, Int.reduceLT, Int.reduceLE, Int.reduceAdd, List.map_nil], by simp only [go_sem, Nat.reduceBEq, Nat.reduceLeDiff, Nat.reduceEqDiff, Nat.reduceSub, Nat.reduceAdd, Int.reduceEq, Int.reduceLT, Int.reduceLE, Int.reduceAdd], by simp only [go_sem, Nat.reduceBEq, Nat.reduceLeDiff, Nat.reduceEqDiff, Nat.reduceSub, Nat.reduceAdd, Int.reduceEq, Int.reduceLT, Int.reduceLE, Int.reduceAdd]⟩ ?_
  clear hq
  rintro x ih e H ⟨s, acc, o, k, rfl, hk, hq, hb, hba, t0, e4, e5, e6, e7, g0, g1, g5, g8, hnx, ho⟩
  obtain ⟨m, hm⟩ : ∃ m, H.next = m + 10 := ⟨H.next - 10, by omega⟩
  cases hok : s.ok with
  | false =>
    rw [progF_end (by rw [hok, Bool.false_and])] at hq
    subst hq
    have hF : ∃ c a, s.f = some (c, a) := by
      cases hf : s.f with
      | none => rw [ok_none hf] at hok; cases hok
      | some q => exact ⟨q.1, q.2, rfl⟩
    obtain ⟨c, a, hF⟩ := hF
    simp only [hF] at hr
    subst hr
    simp only [go_sem, Nat.reduceBEq, Nat.reduceLeDiff, Nat.reduceEqDiff, Nat.reduceSub, Nat.reduceAdd, Int.reduceEq, Int.reduceLT, Int.reduceLE, Int.reduceAdd, t0, e4, e5, e6, e7, g0, g1, g5, g8, hm, c_rOk, hok]
    refine W_draw [(2, 3)] (by kernel_rfl) ?_
    simp only [go_sem, Nat.reduceBEq, Nat.reduceLeDiff, Nat.reduceEqDiff, Nat.reduceSub, Nat.reduceAdd, Int.reduceEq, Int.reduceLT, Int.reduceLE, Int.reduceAdd, rs, e4, e5, e6, g0, g1, g5, hm, encRead, List.map_nil, fcode, fat, hF]
  | true =>
    by_cases hlt : s.at_ < l.length
    · have hlt' : decide ((s.at_ : Int) < (l.length : Nat)) = true := by simp; omega
      obtain ⟨k, rfl, h2⟩ := progF_more (en := en) (acc := acc) (s := s) (by rw [hok, Bool.true_and]; simp [hlt]) hk
      rw [h2] at hq
      have hap := fun o x H id h => app_fun hlen (acc := acc) (by omega) o x H id h
      have eF : ([.lit (.string (ba (nameP l en (need l en s [102, 117, 110])).2)), .sl .sh ((names l en (nameP l en (need l en s [102, 117, 110])).1).2.map encStr), .sl .sh ((blockF l en FN (names l en (nameP l en (need l en s [102, 117, 110])).1).1 0).2.map encStmt)] : List AV) =
        encFunc (funcP l en s).2 := rfl
      have eS : cS l en (blockF l en FN (names l en (nameP l en (need l en s [102, 117, 110])).1).1 0).1 = cS l en (funcP l en s).1 := rfl
      have hltf := funcP_lt (l := l) (en := en) s
      have hms := ms_lt hltf hok
      simp only [go_sem, Nat.reduceBEq, Nat.reduceLeDiff, Nat.reduceEqDiff, Nat.reduceSub, Nat.reduceAdd, Int.reduceEq, Int.reduceLT, Int.reduceLE, Int.reduceAdd, t0, e4, e5, e6, e7, g0, g1, g5, g8, hm, c_rOk, hok, List.length_map, hlt', c_rNeed hlen, c_rName2 hlen, c_rNames hlen, hblk, eF, hap, ho, eS]
      exact ih _ hms _ _ ⟨_, _, _, k, rfl, by omega, hq, fun hk' => by
          obtain ⟨q1, q2, q3⟩ := hltf hk'
          have := hb hok
          simp only [List.length_append, List.length_cons, List.length_nil]; omega, by have := hb hok; simp only [List.length_append, List.length_cons, List.length_nil]; omega,
        by simp only [go_sem, Nat.reduceBEq, Nat.reduceLeDiff, Nat.reduceEqDiff, Nat.reduceSub, Nat.reduceAdd, Int.reduceEq, Int.reduceLT, Int.reduceLE, Int.reduceAdd, t0], by simp only [go_sem, Nat.reduceBEq, Nat.reduceLeDiff, Nat.reduceEqDiff, Nat.reduceSub, Nat.reduceAdd, Int.reduceEq, Int.reduceLT, Int.reduceLE, Int.reduceAdd, e4], by simp only [go_sem, Nat.reduceBEq, Nat.reduceLeDiff, Nat.reduceEqDiff, Nat.reduceSub, Nat.reduceAdd, Int.reduceEq, Int.reduceLT, Int.reduceLE, Int.reduceAdd, e5], by simp only [go_sem, Nat.reduceBEq, Nat.reduceLeDiff, Nat.reduceEqDiff, Nat.reduceSub, Nat.reduceAdd, Int.reduceEq, Int.reduceLT, Int.reduceLE, Int.reduceAdd, e6], by simp only [go_sem, Nat.reduceBEq, Nat.reduceLeDiff, Nat.reduceEqDiff, Nat.reduceSub, Nat.reduceAdd, Int.reduceEq, Int.reduceLT, Int.reduceLE, Int.reduceAdd, e7], by simp only [go_sem, Nat.reduceBEq, Nat.reduceLeDiff, Nat.reduceEqDiff, Nat.reduceSub, Nat.reduceAdd, Int.reduceEq, Int.reduceLT, Int.reduceLE, Int.reduceAdd, g0], by simp only [go_sem, Nat.reduceBEq, Nat.reduceLeDiff, Nat.reduceEqDiff, Nat.reduceSub, Nat.reduceAdd, Int.reduceEq, Int.reduceLT, Int.reduceLE, Int.reduceAdd, g1], by simp only [go_sem, Nat.reduceBEq, Nat.reduceLeDiff, Nat.reduceEqDiff, Nat.reduceSub, Nat.reduceAdd, Int.reduceEq, Int.reduceLT, Int.reduceLE, Int.reduceAdd], by simp only [go_sem, Nat.reduceBEq, Nat.reduceLeDiff, Nat.reduceEqDiff, Nat.reduceSub, Nat.reduceAdd, Int.reduceEq, Int.reduceLT, Int.reduceLE, Int.reduceAdd] <;> rfl, by simp only [go_sem, Nat.reduceBEq, Nat.reduceLeDiff, Nat.reduceEqDiff, Nat.reduceSub, Nat.reduceAdd, Int.reduceEq, Int.reduceLT, Int.reduceLE, Int.reduceAdd, hm], by simp only [go_sem, Nat.reduceBEq, Nat.reduceLeDiff, Nat.reduceEqDiff, Nat.reduceSub, Nat.reduceAdd, Int.reduceEq, Int.reduceLT, Int.reduceLE, Int.reduceAdd]⟩
    · have hlt' : decide ((s.at_ : Int) < (l.length : Nat)) = false := by simp; omega
      rw [progF_end (by simp [hlt])] at hq
      subst hq
      simp only [f_none hok] at hr
      subst hr
      simp only [go_sem, Nat.reduceBEq, Nat.reduceLeDiff, Nat.reduceEqDiff, Nat.reduceSub, Nat.reduceAdd, Int.reduceEq, Int.reduceLT, Int.reduceLE, Int.reduceAdd, rs, t0, e4, e5, e6, e7, g0, g1, g5, g8, hm, c_rOk, hok, List.length_map, hlt', encRead] <;> rfl
end
end Go.Proofs.YtghhkbigmmjanaaDoor.VA

/-! Ph0 -/
namespace Go.Proofs.YtghhkbigmmjanaaDoor.VA
open Go Go.RowKit
set_option linter.unusedSimpArgs false

/-! ### the same -/
mutual
def eqS : GStmt → GStmt → Bool
  | .mk op x y p a ps th el, .mk op' x' y' p' a' ps' th' el' =>
    decide (op = op') && (decide (x = x') && (decide (y = y') && (decide (p = p') && (decide (a = a') && (decide (ps = ps') && (eqSs th th' && eqSs el el'))))))
def eqSs : List GStmt → List GStmt → Bool
  | [], [] => true
  | s :: l, s' :: l' => eqS s s' && eqSs l l'
  | [], _ :: _ => false
  | _ :: _, [] => false
end
mutual
theorem eqS_refl : ∀ s, eqS s s = true
  | .mk op x y p a ps th el => by simp [eqS, eqSs_refl th, eqSs_refl el]
theorem eqSs_refl : ∀ s, eqSs s s = true
  | [] => rfl
  | s :: l => by simp [eqSs, eqS_refl s, eqSs_refl l]
end
mutual
theorem eqS_eq : ∀ s t, eqS s t = true → s = t
  | .mk op x y p a ps th el, .mk op' x' y' p' a' ps' th' el' => by
    intro h
    simp only [eqS, Bool.and_eq_true, decide_eq_true_eq] at h
    obtain ⟨h1, h2, h3, h4, h5, h6, h7, h8⟩ := h
    have := eqSs_eq _ _ h7
    have := eqSs_eq _ _ h8
    subst_vars; rfl
theorem eqSs_eq : ∀ s t, eqSs s t = true → s = t
  | [], [], _ => rfl
  | s :: l, s' :: l', h => by
    simp only [eqSs, Bool.and_eq_true] at h
    rw [eqS_eq _ _ h.1, eqSs_eq _ _ h.2]
  | [], _ :: _, h => by cases h
  | _ :: _, [], h => by cases h
end
theorem eqSs_len : ∀ {a b : List GStmt}, eqSs a b = true → a.length = b.length := fun h => by rw [eqSs_eq _ _ h]
def eqF (f g : GFunc) : Bool := decide (f.name = g.name) && (decide (f.params = g.params) && eqSs f.body g.body)
def eqFs : List GFunc → List GFunc → Bool
  | [], [] => true
  | s :: l, s' :: l' => eqF s s' && eqFs l l'
  | [], _ :: _ => false
  | _ :: _, [] => false
theorem eqFs_refl : ∀ s, eqFs s s = true
  | [] => rfl
  | s :: l => by simp [eqFs, eqF, eqSs_refl, eqFs_refl l]
theorem eqF_eq {f g : GFunc} (h : eqF f g = true) : f = g := by
  simp only [eqF, Bool.and_eq_true, decide_eq_true_eq] at h
  obtain ⟨h1, h2, h3⟩ := h
  have := eqSs_eq _ _ h3
  cases f; cases g; simp_all
theorem eqFs_eq : ∀ s t, eqFs s t = true → s = t
  | [], [], _ => rfl
  | s :: l, s' :: l', h => by
    simp only [eqFs, Bool.and_eq_true] at h
    rw [eqF_eq h.1, eqFs_eq _ _ h.2]
  | [], _ :: _, h => by cases h
  | _ :: _, [], h => by cases h
theorem eqFs_len {a b : List GFunc} (h : eqFs a b = true) : a.length = b.length := by rw [eqFs_eq _ _ h]

/-! ### no list is too long -/
def BIG : Nat := 549755813888 + 8
mutual
def fitS : GStmt → Bool
  | .mk _ _ _ _ a ps th el => decide (a.length ≤ BIG) && (decide (ps.length ≤ BIG) && (decide (th.length ≤ BIG) && (decide (el.length ≤ BIG) && (fitSs th && fitSs el))))
def fitSs : List GStmt → Bool
  | [] => true
  | s :: l => fitS s && fitSs l
end
def fitF (f : GFunc) : Bool := decide (f.params.length ≤ BIG) && (decide (f.body.length ≤ BIG) && fitSs f.body)
def fitP (fs : List GFunc) : Bool := decide (fs.length ≤ BIG) && fs.all fitF
theorem fitSs_all : ∀ {l : List GStmt}, fitSs l = l.all fitS
  | [] => rfl
  | s :: l => by simp [fitSs, fitSs_all (l := l)]
theorem fitSs_app {a b : List GStmt} (h : fitSs a = true) (k : fitSs b = true) : fitSs (a ++ b) = true := by
  rw [fitSs_all] at *; simp_all
theorem fit_mk {op : Nat} {x y p : List UInt8} {a : List Opd} {ps : List (List UInt8)} {th el : List GStmt} (h1 : a.length ≤ BIG) (h2 : ps.length ≤ BIG) (h3 : th.length ≤ BIG) (h4 : el.length ≤ BIG)
    (h5 : fitSs th = true) (h6 : fitSs el = true) : fitS (.mk op x y p a ps th el) = true := by
  simp only [fitS, h1, h2, h3, h4, h5, h6, decide_true, Bool.and_self]
theorem big0 {α : Type} : ([] : List α).length ≤ BIG := Nat.zero_le _
theorem big1 {n : Nat} (h : n ≤ 549755813888) : n ≤ BIG := Nat.le_trans h (by unfold BIG; omega)
/-! How much there is. -/
mutual
def szS : GStmt → Nat
  | .mk _ _ _ _ _ _ th el => 1 + szSs th + szSs el
def szSs : List GStmt → Nat
  | [] => 1
  | s :: l => 1 + szS s + szSs l
end
theorem szSs_mem {s : GStmt} : ∀ {l : List GStmt} {i : Nat}, l[i]? = some s → szS s < szSs l
  | [], i, h => by simp at h
  | t :: l, 0, h => by simp at h; subst h; simp [szSs]; omega
  | t :: l, i + 1, h => by
    have := szSs_mem (l := l) (i := i) (by simpa using h)
    simp [szSs]; omega

section
variable {l : List GTok} {en : Int}
/-- So many things for so many tokens. -/
theorem listF_len {X : Type} {one : PS → X → PS × X} (h1 : ∀ s x, Lt1 l s (one s x).1) (len : X → Nat) (h2 : ∀ s x, len (one s x).2 ≤ len x + 1) (end_ : List UInt8) :
    ∀ (n : Nat) (s : PS) (x : X), (listF l en one end_ n s x).1.ok = true → len (listF l en one end_ n s x).2 + s.at_ ≤ len x + (listF l en one end_ n s x).1.at_
  | 0, s, x => fun _ => by simp [listF]
  | n + 1, s, x => by
    unfold listF
    cases hs : s.ok with
    | false => intro h; simp only at h ⊢; exact Nat.le_refl _
    | true =>
      simp only
      cases h : isT l (one s x).1 end_ with
      | true =>
        intro hk
        have a := h2 s x
        obtain ⟨b1, b2, b3⟩ := adv_isT h hk
        obtain ⟨c1, c2, c3⟩ := h1 s x b1
        simp only at *
        omega
      | false =>
        intro hk
        have a := h2 s x
        have r := listF_len h1 len h2 end_ n _ _ hk
        obtain ⟨d1, d2, d3⟩ := listF_le h1 end_ n (need l en (one s x).1 [44]) (one s x).2 hk
        obtain ⟨b1, b2, b3⟩ := need_lt _ _ d1
        obtain ⟨c1, c2, c3⟩ := h1 s x b1
        simp only at *
        omega
theorem listP_len {X : Type} {one : PS → X → PS × X} (h1 : ∀ s x, Lt1 l s (one s x).1) (len : X → Nat) (h2 : ∀ s x, len (one s x).2 ≤ len x + 1) (end_ : List UInt8) (s : PS) (x : X)
    (hk : (listP l en one end_ s x).1.ok = true) (hs : s.at_ ≤ l.length) (hx : len x = 0) : len (listP l en one end_ s x).2 ≤ l.length := by
  have hle := listP_le (end_ := end_) h1 s x hk
  revert hk hle
  unfold listP
  cases h : isT l s end_ with
  | true => intro hk hle; simp only at *; omega
  | false =>
    intro hk hle
    have := listF_len (en := en) h1 len h2 end_ FN s x hk
    simp only at *; omega
theorem args_len (s : PS) (hk : (args l en s).1.ok = true) : (args l en s).2.length ≤ l.length := by
  unfold args at hk ⊢
  obtain ⟨d1, d2, d3⟩ := listP_le oneArg_lt _ _ _ hk
  obtain ⟨b1, b2, b3⟩ := need_lt _ _ d1
  exact listP_len oneArg_lt List.length (fun s x => by simp [oneArg]) _ _ _ hk b3 rfl
theorem names_len (s : PS) (hk : (names l en s).1.ok = true) : (names l en s).2.length ≤ l.length := by
  unfold names at hk ⊢
  obtain ⟨d1, d2, d3⟩ := listP_le oneName_lt _ _ _ hk
  obtain ⟨b1, b2, b3⟩ := need_lt _ _ d1
  exact listP_len oneName_lt List.length (fun s x => by simp [oneName]) _ _ _ hk b3 rfl
theorem propsP_len (s : PS) (hk : (propsP l en s).1.ok = true) : (propsP l en s).2.1.length ≤ l.length ∧ (propsP l en s).2.2.length ≤ l.length := by
  unfold propsP at hk ⊢
  obtain ⟨d1, d2, d3⟩ := listP_le oneProp_lt _ _ _ hk
  obtain ⟨b1, b2, b3⟩ := need_lt _ _ d1
  exact ⟨listP_len oneProp_lt (fun x => x.1.length) (fun s x => by simp [oneProp]) _ _ _ hk b3 rfl, listP_len oneProp_lt (fun x => x.2.length) (fun s x => by simp [oneProp]) _ _ _ hk b3 rfl⟩

variable (hl : l.length ≤ 549755813888)
include hl
theorem rest_fit (s : PS) (o : Opd) (hk : (rest l en s o).1.ok = true) : fitS (rest l en s o).2 = true := by
  revert hk
  unfold rest
  cases h : signOf l s arith with
  | some t => intro _; simp [fitS, fitSs, BIG]
  | none =>
    simp only
    cases h1 : decide (o.kind = 4) && isT l s [40] with
    | true => intro hk; exact fit_mk (big1 (Nat.le_trans (args_len _ hk) hl)) big0 big0 big0 rfl rfl
    | false =>
      simp only
      cases h2 : decide (o.kind = 4) && isT l s [46] with
      | true => intro _; simp [fitS, fitSs, BIG]
      | false => intro _; simp [fitS, fitSs, BIG]
theorem object_fit (s : PS) (hk : (object l en s).1.ok = true) : fitS (object l en s).2 = true := by
  unfold object at hk ⊢
  have := propsP_len s (protoP_lt _ hk).1
  refine fit_mk ?_ (big1 (by omega)) big0 big0 rfl rfl
  rw [List.length_append]; unfold BIG; simp only [List.length_cons, List.length_nil]; omega
theorem value_fit (s : PS) (hk : (value l en s).1.ok = true) : fitS (value l en s).2 = true := by
  revert hk
  unfold value
  cases h1 : isT l s tIn with
  | true => intro _; simp [fitS, fitSs, BIG]
  | false =>
  cases h2 : isT l s tCall with
  | true => intro hk; exact fit_mk (big1 (Nat.le_trans (args_len _ hk) hl)) big0 big0 big0 rfl rfl
  | false =>
  cases h3 : isT l s tNew with
  | true => intro hk; exact object_fit hl _ hk
  | false => intro hk; exact rest_fit hl _ _ hk
omit hl in
theorem setX_fit (s : GStmt) (x : List UInt8) : fitS (s.setX x) = fitS s := by cases s; rfl
theorem simple_fit (s : PS) (hk : (simple l en s).1.ok = true) : fitS (simple l en s).2 = true := by
  revert hk
  unfold simple
  cases h1 : isT l s tOut with
  | true => intro _; simp [fitS, fitSs, BIG]
  | false =>
  cases h2 : isT l s tReturn with
  | true => intro _; simp [fitS, fitSs, BIG]
  | false =>
  simp only
  unfold assign
  cases h3 : isT l (nameP l en s).1 [46] with
  | true => intro _; simp [fitS, fitSs, BIG]
  | false => intro hk; simp only [setX_fit]; exact value_fit hl _ hk
theorem blocks_fit : ∀ (n : Nat), (∀ s deep, (stmtF l en n s deep).1.ok = true → fitS (stmtF l en n s deep).2 = true) ∧
    (∀ s deep, (blockF l en n s deep).1.ok = true → fitSs (blockF l en n s deep).2 = true ∧ (blockF l en n s deep).2.length ≤ l.length) ∧
    (∀ s deep acc, (bodyF l en n s deep acc).1.ok = true → fitSs acc = true → fitSs (bodyF l en n s deep acc).2 = true ∧ (bodyF l en n s deep acc).2.length + s.at_ ≤ acc.length + (bodyF l en n s deep acc).1.at_) := by
  intro n
  induction n with
  | zero =>
    refine ⟨fun s _ h => ?_, fun s _ h => ?_, fun s _ _ h => ?_⟩
    · have := pfail_bad (l := l) (en := en) s 0; unfold stmtF at h; rw [this] at h; cases h
    · have := pfail_bad (l := l) (en := en) s 0; unfold blockF at h; rw [this] at h; cases h
    · have := pfail_bad (l := l) (en := en) s 0; unfold bodyF at h; rw [this] at h; cases h
  | succ n ih =>
    obtain ⟨ih1, ih2, ih3⟩ := ih
    refine ⟨fun s deep => ?_, fun s deep => ?_, fun s deep acc => ?_⟩
    · unfold stmtF
      cases starts l s with
      | false => intro h; simp only [pfail_bad] at h; cases h
      | true =>
      cases decide (2000 ≤ s.cnt) with
      | true => intro h; simp only [pfail_bad] at h; cases h
      | false =>
      cases h1 : isT l s tIf with
      | true =>
        simp only
        cases h3 : isT l (blockF l en n (operand l en s.count.adv).1 deep).1 tElse with
        | true =>
          intro hk
          obtain ⟨a1, a2⟩ := ih2 _ _ hk
          obtain ⟨b1, b2⟩ := ih2 _ _ (adv_isT h3 (blockF_lt _ _ _ hk).1).1
          exact fit_mk (by simp [BIG]) big0 (big1 (by omega)) (big1 (by omega)) b1 a1
        | false =>
          intro hk
          obtain ⟨b1, b2⟩ := ih2 _ _ hk
          exact fit_mk (by simp [BIG]) big0 (big1 (by omega)) big0 b1 rfl
      | false =>
      cases h2 : isT l s tWhile with
      | true =>
        intro hk
        obtain ⟨b1, b2⟩ := ih2 _ _ hk
        exact fit_mk (by simp [BIG]) big0 (big1 (by omega)) big0 b1 rfl
      | false =>
        intro hk
        exact simple_fit hl _ (need_lt _ _ hk).1
    · unfold blockF
      cases isT l s [123] && decide (32 ≤ deep) with
      | true => intro h; simp only [pfail_bad] at h; cases h
      | false =>
        intro hk
        obtain ⟨a1, a2⟩ := ih3 _ _ _ hk rfl
        obtain ⟨b1, b2, b3⟩ := bodyF_lt _ _ _ _ hk
        refine ⟨a1, ?_⟩
        simp only [List.length_nil] at *
        omega
    · unfold bodyF
      cases s.ok && !isT l s [125] with
      | true =>
        intro hk ha
        obtain ⟨b1, b2, b3⟩ := bodyF_lt _ _ _ _ hk
        obtain ⟨c1, c2, c3⟩ := stmtF_lt _ _ _ b1
        have hf := ih1 _ _ b1
        obtain ⟨a1, a2⟩ := ih3 _ _ _ hk (fitSs_app ha (by simp [fitSs, hf]))
        refine ⟨a1, ?_⟩
        simp only [List.length_append, List.length_cons, List.length_nil] at *
        omega
      | false =>
        intro hk ha
        obtain ⟨c1, c2, c3⟩ := need_lt _ _ hk
        exact ⟨ha, by simp only at *; omega⟩
theorem funcP_fit (s : PS) (hk : (funcP l en s).1.ok = true) : fitF (funcP l en s).2 = true := by
  unfold funcP at hk ⊢
  obtain ⟨a1, a2⟩ := (blocks_fit hl _).2.1 _ _ hk
  have := names_len _ (blockF_lt _ _ _ hk).1
  simp only [fitF, Bool.and_eq_true, decide_eq_true_eq]
  exact ⟨big1 (Nat.le_trans this hl), big1 (Nat.le_trans a2 hl), a1⟩
theorem progF_fit : ∀ (n : Nat) (s : PS) (acc : List GFunc), (progF l en n s acc).1.ok = true → acc.all fitF = true → acc.length ≤ s.at_ → s.at_ ≤ l.length → (progF l en n s acc).2.all fitF = true ∧ (progF l en n s acc).2.length ≤ l.length := by
  intro n
  induction n with
  | zero => intro s acc _ h h1 h2; exact ⟨h, by simp only [progF]; omega⟩
  | succ n ih =>
    intro s acc
    unfold progF
    cases h : (s.ok && decide (s.at_ < l.length)) with
    | false => intro _ h h1 h2; exact ⟨h, by simp only; omega⟩
    | true =>
      intro hk ha h1 h2
      have hko : (funcP l en s).1.ok = true := by
        by_cases hq : (funcP l en s).1.ok = true
        · exact hq
        · have hqf : (funcP l en s).1.ok = false := by simpa using hq
          exfalso
          revert hk
          simp only
          cases n with
          | zero => simp [progF, hqf]
          | succ n => simp [progF, hqf]
      obtain ⟨c1, c2, c3⟩ := funcP_lt _ hko
      refine ih _ _ hk ?_ ?_ c3
      · rw [List.all_append, ha]; simp [funcP_fit hl _ hko]
      · simp; omega
theorem readP_fit : fitP (readP l en).1 = true := by
  unfold readP
  cases h : (progF l en FN ⟨0, 0, none⟩ []).1.f with
  | some q => rfl
  | none =>
    obtain ⟨a1, a2⟩ := progF_fit (en := en) hl FN ⟨0, 0, none⟩ [] (by simp [PS.ok, h]) rfl (by simp) (by simp)
    simp only [fitP, a1, Bool.and_true, decide_eq_true_eq]
    exact big1 (Nat.le_trans a2 hl)
end
end Go.Proofs.YtghhkbigmmjanaaDoor.VA

/-! Ph1 -/
namespace Go.Proofs.YtghhkbigmmjanaaDoor.VA
open Go Go.RowKit
attribute [local go_sem] Nat.add_eq_left Nat.left_eq_add true_and and_true ite_true if_false Int.cast_ofNat_Int eq_self Nat.add_assoc Option.some.injEq decide_true decide_false Bool.not_true Bool.not_false List.size_toArray List.length_cons List.length_nil
set_option linter.unusedSimpArgs false
set_option maxRecDepth 100000

theorem eg_opd : Tryd.prog.eqGuardType Tryd.prog.depth 67 = false := by kernel_rfl
theorem sh_opd : Tryd.prog.stoodInHeld 67 = false := by kernel_rfl
theorem eq_opd (k k' a a' : Int) (t t' : ByteArray) : aEq Tryd.prog 8 67 (.agg [.lit (.int .i64 k), .lit (.int .i64 a), .lit (.string t)]) (.agg [.lit (.int .i64 k'), .lit (.int .i64 a'), .lit (.string t')]) =
    some (decide (k = k') && (decide (a = a') && decide (t = t'))) := by
  simp only [aEq, Tryd.underlying67, sh_opd, if_true, aEqs, go_sem]
  by_cases h1 : k = k' <;> by_cases h2 : t = t' <;> by_cases h3 : a = a' <;> simp [h1, h2, h3, aEqs, aEq, go_sem, strEq_decide]
@[go_sem] theorem bin_neopd (k k' a a' : Int) (t t' : ByteArray) : aBin Tryd.prog .neq 67 (.agg [.lit (.int .i64 k), .lit (.int .i64 a), .lit (.string t)]) (.agg [.lit (.int .i64 k'), .lit (.int .i64 a'), .lit (.string t')]) =
    some (.lit (.bool (!(decide (k = k') && (decide (a = a') && decide (t = t')))))) := by
  simp only [aBin, eg_opd, eq_opd]; rfl
theorem iad_encOpd {t : TypeId} {bs : Nat} {o : Own} {l : List Opd} {i : Nat} (h : i < l.length) : iad (some (t, 3, bs)) (.sl o (l.map encOpd)) (some i) = some (.ep (encOpd (l.getD i ⟨0, 0, []⟩))) := by
  refine iad_some ?_ rfl
  rw [List.getElem?_map, List.getElem?_eq_getElem h, List.getD_eq_getElem?_getD, List.getElem?_eq_getElem h]
  rfl
def noStmt : GStmt := .mk 0 [] [] [] [] [] [] []
theorem iad_encStmt {t : TypeId} {bs : Nat} {o : Own} {l : List GStmt} {i : Nat} (h : i < l.length) : iad (some (t, 8, bs)) (.sl o (l.map encStmt)) (some i) = some (.ep (encStmt (l.getD i noStmt))) := by
  refine iad_some ?_ (eM_len _)
  rw [List.getElem?_map, List.getElem?_eq_getElem h, List.getD_eq_getElem?_getD, List.getElem?_eq_getElem h]
  rfl

set_option maxRecDepth 20000 in
theorem c_texts (a b : List (List UInt8)) (hlen : a.length ≤ BIG) (o o' : Own) (H : Heap) :
    calls Tryd.prog cfg 22 [.sl o (a.map encStr), .sl o' (b.map encStr)] H = some (.ret (.lit (.bool (decide (a = b)))) H) := by
  unfold BIG at hlen
  refine calls_pure (fn := Tryd.f22) rfl rfl rfl rfl rfl ?_ H
  have rs : Tryd.f22.results.toList = [.tmp 4] := rfl
  by_cases hl : a.length = b.length
  · have d : decide (((a.length : Nat) : Int) = (b.length : Nat)) = true := by simp; omega
    generalize hr : decide (a = b) = r
    simp only [go_sem, Nat.reduceBEq, Nat.reduceLeDiff, Nat.reduceEqDiff, Nat.reduceSub, Nat.reduceAdd, Int.reduceEq, Int.reduceLT, Int.reduceLE, Int.reduceAdd, rs, List.length_map, d]
    refine W_loop_ind (fun k e H => ∃ i : Nat, k = a.length - i ∧ i ≤ a.length ∧ decide (a.drop i = b.drop i) = r ∧ gget .bad e 0 = .sl .sh (a.map encStr) ∧ gget .bad e 1 = .sl .sh (b.map encStr) ∧ gget .bad e 5 = .lit (.int .i64 (i : Nat)))
      a.length ⟨0, rfl, by omega, hr, by simp only [go_sem, Nat.reduceBEq, Nat.reduceLeDiff, Nat.reduceEqDiff, Nat.reduceSub, Nat.reduceAdd, Int.reduceEq, Int.reduceLT, Int.reduceLE, Int.reduceAdd], by simp only [go_sem, Nat.reduceBEq, Nat.reduceLeDiff, Nat.reduceEqDiff, Nat.reduceSub, Nat.reduceAdd, Int.reduceEq, Int.reduceLT, Int.reduceLE, Int.reduceAdd], by simp only [go_sem, Nat.reduceBEq, Nat.reduceLeDiff, Nat.reduceEqDiff, Nat.reduceSub, Nat.reduceAdd, Int.reduceEq, Int.reduceLT, Int.reduceLE, Int.reduceAdd] <;> rfl⟩ ?_
    rintro k ih e H ⟨i, rfl, hle, hR, h0, h1, h5⟩
    by_cases hlt : i < a.length
    · have hlt' : decide ((i : Int) < (a.length : Nat)) = true := by simp; omega
      have hlb : i < b.length := by omega
      rw [drop_cons' [] hlt, drop_cons' [] hlb] at hR
      have ha := iad_encStr (t := 9) (bs := 16) (o := .sh) hlt
      have hb := iad_encStr (t := 9) (bs := 16) (o := .sh) hlb
      generalize a.getD i [] = x at hR ha
      generalize b.getD i [] = y at hR hb
      have hw1 := wrap1 (show i + 1 ≤ 9223372036854775807 by omega)
      have hxy : decide (ba x = ba y) = decide (x = y) := by simp [ba_inj]
      simp only [go_sem, Nat.reduceBEq, Nat.reduceLeDiff, Nat.reduceEqDiff, Nat.reduceSub, Nat.reduceAdd, Int.reduceEq, Int.reduceLT, Int.reduceLE, Int.reduceAdd, h0, h1, h5, List.length_map, hlt', ha, hb, encStr]
      refine W_draw [(3, 7)] (by kernel_rfl) ?_
      simp only [go_sem, Nat.reduceBEq, Nat.reduceLeDiff, Nat.reduceEqDiff, Nat.reduceSub, Nat.reduceAdd, Int.reduceEq, Int.reduceLT, Int.reduceLE, Int.reduceAdd, h0, h1, h5, List.length_map, hlt', ha, hb, encStr, hxy]
      by_cases he : x = y
      · have de : decide (x = y) = true := by simp [he]
        have hR' : decide (a.drop (i + 1) = b.drop (i + 1)) = r := by rw [← hR]; simp [he]
        simp only [go_sem, Nat.reduceBEq, Nat.reduceLeDiff, Nat.reduceEqDiff, Nat.reduceSub, Nat.reduceAdd, Int.reduceEq, Int.reduceLT, Int.reduceLE, Int.reduceAdd, de, h0, h1, h5, hw1]
        exact ih (a.length - (i + 1)) (by omega) _ _ ⟨i + 1, rfl, by omega, hR', by simp only [go_sem, Nat.reduceBEq, Nat.reduceLeDiff, Nat.reduceEqDiff, Nat.reduceSub, Nat.reduceAdd, Int.reduceEq, Int.reduceLT, Int.reduceLE, Int.reduceAdd, h0], by simp only [go_sem, Nat.reduceBEq, Nat.reduceLeDiff, Nat.reduceEqDiff, Nat.reduceSub, Nat.reduceAdd, Int.reduceEq, Int.reduceLT, Int.reduceLE, Int.reduceAdd, h1], by simp only [go_sem, Nat.reduceBEq, Nat.reduceLeDiff, Nat.reduceEqDiff, Nat.reduceSub, Nat.reduceAdd, Int.reduceEq, Int.reduceLT, Int.reduceLE, Int.reduceAdd]⟩
      · have de : decide (x = y) = false := by simp [he]
        have hR' : r = false := by rw [← hR]; simp [he]
        simp only [go_sem, Nat.reduceBEq, Nat.reduceLeDiff, Nat.reduceEqDiff, Nat.reduceSub, Nat.reduceAdd, Int.reduceEq, Int.reduceLT, Int.reduceLE, Int.reduceAdd, de, hR']
    · have hlt' : decide ((i : Int) < (a.length : Nat)) = false := by simp; omega
      rw [List.drop_of_length_le (by omega), List.drop_of_length_le (by omega)] at hR
      have hR' : r = true := by rw [← hR]; simp
      simp only [go_sem, Nat.reduceBEq, Nat.reduceLeDiff, Nat.reduceEqDiff, Nat.reduceSub, Nat.reduceAdd, Int.reduceEq, Int.reduceLT, Int.reduceLE, Int.reduceAdd, h0, h1, h5, List.length_map, hlt', hR']
  · have d : decide (((a.length : Nat) : Int) = (b.length : Nat)) = false := by simp; omega
    have hne : decide (a = b) = false := by simp; intro h; exact hl (by rw [h])
    simp only [go_sem, Nat.reduceBEq, Nat.reduceLeDiff, Nat.reduceEqDiff, Nat.reduceSub, Nat.reduceAdd, Int.reduceEq, Int.reduceLT, Int.reduceLE, Int.reduceAdd, rs, List.length_map, d, hne]
/-- What is said of statements' lists that are no larger than so much. -/
def StmtsOk (n : Nat) : Prop := ∀ (a b : List GStmt) (o o' : Own) (H : Heap), szSs a ≤ n → fitSs a = true → a.length ≤ BIG →
  calls Tryd.prog cfg 23 [.sl o (a.map encStmt), .sl o' (b.map encStmt)] H = some (.ret (.lit (.bool (eqSs a b))) H)
theorem fitSs_drop {a : List GStmt} (h : fitSs a = true) {i : Nat} (hi : i < a.length) : fitS (a.getD i noStmt) = true := by
  rw [fitSs_all, List.all_eq_true] at h
  apply h
  rw [List.getD_eq_getElem?_getD, List.getElem?_eq_getElem hi]
  exact List.getElem_mem hi
set_option maxRecDepth 20000 in
theorem c_stmts_step (n : Nat) (ih : StmtsOk n) : StmtsOk (n + 1) := by
  intro a b o o' H hsz hfit hlen
  unfold BIG at hlen
  refine calls_pure (fn := Tryd.f23) rfl rfl rfl rfl rfl ?_ H
  have rs : Tryd.f23.results.toList = [.tmp 4] := rfl
  by_cases hl : a.length = b.length
  · have d : decide (((a.length : Nat) : Int) = (b.length : Nat)) = true := by simp; omega
    generalize hr : eqSs a b = r
    simp only [go_sem, Nat.reduceBEq, Nat.reduceLeDiff, Nat.reduceEqDiff, Nat.reduceSub, Nat.reduceAdd, Int.reduceEq, Int.reduceLT, Int.reduceLE, Int.reduceAdd, rs, List.length_map, d]
    refine W_loop_ind (fun k e H => ∃ i : Nat, k = a.length - i ∧ i ≤ a.length ∧ eqSs (a.drop i) (b.drop i) = r ∧ gget .bad e 0 = .sl .sh (a.map encStmt) ∧ gget .bad e 1 = .sl .sh (b.map encStmt) ∧ gget .bad e 5 = .lit (.int .i64 (i : Nat)))
      a.length ⟨0, rfl, by omega, hr, by simp only [go_sem, Nat.reduceBEq, Nat.reduceLeDiff, Nat.reduceEqDiff, Nat.reduceSub, Nat.reduceAdd, Int.reduceEq, Int.reduceLT, Int.reduceLE, Int.reduceAdd], by simp only [go_sem, Nat.reduceBEq, Nat.reduceLeDiff, Nat.reduceEqDiff, Nat.reduceSub, Nat.reduceAdd, Int.reduceEq, Int.reduceLT, Int.reduceLE, Int.reduceAdd], by simp only [go_sem, Nat.reduceBEq, Nat.reduceLeDiff, Nat.reduceEqDiff, Nat.reduceSub, Nat.reduceAdd, Int.reduceEq, Int.reduceLT, Int.reduceLE, Int.reduceAdd] <;> rfl⟩ ?_
    rintro k ihk e H ⟨i, rfl, hle, hR, h0, h1, h5⟩
    obtain ⟨m, hm⟩ : ∃ m, H.next = m := ⟨_, rfl⟩
    by_cases hlt : i < a.length
    · have hlt' : decide ((i : Int) < (a.length : Nat)) = true := by simp; omega
      have hlb : i < b.length := by omega
      rw [drop_cons' noStmt hlt, drop_cons' noStmt hlb] at hR
      have ha := iad_encStmt (t := 65) (bs := 152) (o := .sh) hlt
      have hb := iad_encStmt (t := 65) (bs := 152) (o := .sh) hlb
      have hfx := fitSs_drop hfit hlt
      have hsx : szS (a.getD i noStmt) ≤ n := by
        have h1 : a[i]? = some (a.getD i noStmt) := by rw [List.getD_eq_getElem?_getD, List.getElem?_eq_getElem hlt]; rfl
        have := szSs_mem h1; omega
      generalize a.getD i noStmt = x at hR ha hfx hsx
      generalize b.getD i noStmt = y at hR hb
      have hw1 := wrap1 (show i + 1 ≤ 9223372036854775807 by omega)
      obtain ⟨op, x, z, p, ar, ps, th, el⟩ := x
      obtain ⟨op', x', z', p', ar', ps', th', el'⟩ := y
      simp only [szS] at hsx
      simp only [fitS, Bool.and_eq_true, decide_eq_true_eq] at hfx
      obtain ⟨f1, f2, f3, f4, f5, f6⟩ := hfx
      have iT := fun H => ih th th' .sh .sh H (by omega) f5 f3
      have iE := fun H => ih el el' .sh .sh H (by omega) f6 f4
      have iP := fun H => c_texts ps ps' f2 .sh .sh H
      unfold BIG at f1
      simp only [encStmt_mk] at ha hb
      have q1 : decide ((op : Int) = (op' : Nat)) = decide (op = op') := by rw [Bool.eq_iff_iff]; simp; omega
      have q2 : decide (ba x = ba x') = decide (x = x') := by simp [ba_inj]
      have q3 : decide (ba z = ba z') = decide (z = z') := by simp [ba_inj]
      have q4 : decide (ba p = ba p') = decide (p = p') := by simp [ba_inj]
      have q5 : decide ((ar.length : Int) = (ar'.length : Nat)) = decide (ar.length = ar'.length) := by rw [Bool.eq_iff_iff]; simp; omega
      simp only [eqSs, eqS] at hR
      simp only [go_sem, Nat.reduceBEq, Nat.reduceLeDiff, Nat.reduceEqDiff, Nat.reduceSub, Nat.reduceAdd, Int.reduceEq, Int.reduceLT, Int.reduceLE, Int.reduceAdd, h0, h1, h5, hm, List.length_map, hlt', ha, hb]
      refine W_draw [(3,7),(3,8),(7,8),(3,9),(7,9),(8,9),(7,10)] (by kernel_rfl) ?_
      simp only [go_sem, Nat.reduceBEq, Nat.reduceLeDiff, Nat.reduceEqDiff, Nat.reduceSub, Nat.reduceAdd, Int.reduceEq, Int.reduceLT, Int.reduceLE, Int.reduceAdd, h0, h1, h5, hm, List.length_map, ha, hb, q1, q2, q3, q4, q5]
      cases k0 : decide (op = op') with
      | false =>
        have hR' : r = false := by rw [← hR, k0]; simp only [Bool.false_and, Bool.and_false]
        simp only [go_sem, Nat.reduceBEq, Nat.reduceLeDiff, Nat.reduceEqDiff, Nat.reduceSub, Nat.reduceAdd, Int.reduceEq, Int.reduceLT, Int.reduceLE, Int.reduceAdd, k0, q1, q2, q3, q4, q5, List.length_map, iT, iE, iP, hR']
      | true =>
      rw [k0] at hR
      simp only [go_sem, Nat.reduceBEq, Nat.reduceLeDiff, Nat.reduceEqDiff, Nat.reduceSub, Nat.reduceAdd, Int.reduceEq, Int.reduceLT, Int.reduceLE, Int.reduceAdd, k0, q1, q2, q3, q4, q5, List.length_map, iT, iE, iP]
      cases k1 : decide (x = x') with
      | false =>
        have hR' : r = false := by rw [← hR, k1]; simp only [Bool.false_and, Bool.and_false]
        simp only [go_sem, Nat.reduceBEq, Nat.reduceLeDiff, Nat.reduceEqDiff, Nat.reduceSub, Nat.reduceAdd, Int.reduceEq, Int.reduceLT, Int.reduceLE, Int.reduceAdd, k1, q1, q2, q3, q4, q5, List.length_map, iT, iE, iP, hR']
      | true =>
      rw [k1] at hR
      simp only [go_sem, Nat.reduceBEq, Nat.reduceLeDiff, Nat.reduceEqDiff, Nat.reduceSub, Nat.reduceAdd, Int.reduceEq, Int.reduceLT, Int.reduceLE, Int.reduceAdd, k1, q1, q2, q3, q4, q5, List.length_map, iT, iE, iP]
      cases k2 : decide (z = z') with
      | false =>
        have hR' : r = false := by rw [← hR, k2]; simp only [Bool.false_and, Bool.and_false]
        simp only [go_sem, Nat.reduceBEq, Nat.reduceLeDiff, Nat.reduceEqDiff, Nat.reduceSub, Nat.reduceAdd, Int.reduceEq, Int.reduceLT, Int.reduceLE, Int.reduceAdd, k2, q1, q2, q3, q4, q5, List.length_map, iT, iE, iP, hR']
      | true =>
      rw [k2] at hR
      simp only [go_sem, Nat.reduceBEq, Nat.reduceLeDiff, Nat.reduceEqDiff, Nat.reduceSub, Nat.reduceAdd, Int.reduceEq, Int.reduceLT, Int.reduceLE, Int.reduceAdd, k2, q1, q2, q3, q4, q5, List.length_map, iT, iE, iP]
      cases k3 : decide (p = p') with
      | false =>
        have hR' : r = false := by rw [← hR, k3]; simp only [Bool.false_and, Bool.and_false]
        simp only [go_sem, Nat.reduceBEq, Nat.reduceLeDiff, Nat.reduceEqDiff, Nat.reduceSub, Nat.reduceAdd, Int.reduceEq, Int.reduceLT, Int.reduceLE, Int.reduceAdd, k3, q1, q2, q3, q4, q5, List.length_map, iT, iE, iP, hR']
      | true =>
      rw [k3] at hR
      simp only [go_sem, Nat.reduceBEq, Nat.reduceLeDiff, Nat.reduceEqDiff, Nat.reduceSub, Nat.reduceAdd, Int.reduceEq, Int.reduceLT, Int.reduceLE, Int.reduceAdd, k3, q1, q2, q3, q4, q5, List.length_map, iT, iE, iP]
      cases k4 : decide (ar.length = ar'.length) with
      | false =>
        have hne : decide (ar = ar') = false := by simp at k4 ⊢; intro h; exact k4 (by rw [h])
        have hR' : r = false := by rw [← hR, hne]; simp only [Bool.false_and, Bool.and_false]
        simp only [go_sem, Nat.reduceBEq, Nat.reduceLeDiff, Nat.reduceEqDiff, Nat.reduceSub, Nat.reduceAdd, Int.reduceEq, Int.reduceLT, Int.reduceLE, Int.reduceAdd, k4, q1, q2, q3, q4, q5, List.length_map, hR']
      | true =>
      simp only [go_sem, Nat.reduceBEq, Nat.reduceLeDiff, Nat.reduceEqDiff, Nat.reduceSub, Nat.reduceAdd, Int.reduceEq, Int.reduceLT, Int.reduceLE, Int.reduceAdd, k4, q1, q2, q3, q4, q5, List.length_map, iT, iE, iP]
      cases k5 : decide (ps = ps') with
      | false =>
        have hR' : r = false := by rw [← hR, k5]; simp only [Bool.false_and, Bool.and_false]
        simp only [go_sem, Nat.reduceBEq, Nat.reduceLeDiff, Nat.reduceEqDiff, Nat.reduceSub, Nat.reduceAdd, Int.reduceEq, Int.reduceLT, Int.reduceLE, Int.reduceAdd, k5, q1, q2, q3, q4, q5, List.length_map, iT, iE, iP, hR']
      | true =>
      rw [k5] at hR
      simp only [go_sem, Nat.reduceBEq, Nat.reduceLeDiff, Nat.reduceEqDiff, Nat.reduceSub, Nat.reduceAdd, Int.reduceEq, Int.reduceLT, Int.reduceLE, Int.reduceAdd, k5, q1, q2, q3, q4, q5, List.length_map, iT, iE, iP]
      cases k6 : eqSs th th' with
      | false =>
        have hR' : r = false := by rw [← hR, k6]; simp only [Bool.false_and, Bool.and_false]
        simp only [go_sem, Nat.reduceBEq, Nat.reduceLeDiff, Nat.reduceEqDiff, Nat.reduceSub, Nat.reduceAdd, Int.reduceEq, Int.reduceLT, Int.reduceLE, Int.reduceAdd, k6, q1, q2, q3, q4, q5, List.length_map, iT, iE, iP, hR']
      | true =>
      rw [k6] at hR
      simp only [go_sem, Nat.reduceBEq, Nat.reduceLeDiff, Nat.reduceEqDiff, Nat.reduceSub, Nat.reduceAdd, Int.reduceEq, Int.reduceLT, Int.reduceLE, Int.reduceAdd, k6, q1, q2, q3, q4, q5, List.length_map, iT, iE, iP]
      cases k7 : eqSs el el' with
      | false =>
        have hR' : r = false := by rw [← hR, k7]; simp only [Bool.false_and, Bool.and_false]
        simp only [go_sem, Nat.reduceBEq, Nat.reduceLeDiff, Nat.reduceEqDiff, Nat.reduceSub, Nat.reduceAdd, Int.reduceEq, Int.reduceLT, Int.reduceLE, Int.reduceAdd, k7, q1, q2, q3, q4, q5, List.length_map, iT, iE, iP, hR']
      | true =>
      rw [k7] at hR
      simp only [go_sem, Nat.reduceBEq, Nat.reduceLeDiff, Nat.reduceEqDiff, Nat.reduceSub, Nat.reduceAdd, Int.reduceEq, Int.reduceLT, Int.reduceLE, Int.reduceAdd, k7, q1, q2, q3, q4, q5, List.length_map, iT, iE, iP]
      simp only [Bool.true_and, Bool.and_true] at hR
      have hla : ar.length = ar'.length := by simpa using k4
      generalize hS : eqSs (a.drop (i + 1)) (b.drop (i + 1)) = rS at hR
      refine W_loop_ind (fun k e H => ∃ j : Nat, k = ar.length - j ∧ j ≤ ar.length ∧ (decide (ar.drop j = ar'.drop j) && rS) = r ∧ gget .bad e 0 = .sl .sh (a.map encStmt) ∧ gget .bad e 1 = .sl .sh (b.map encStmt) ∧ gget .bad e 5 = .lit (.int .i64 (i : Nat)) ∧
          gget .bad e 6 = .ptr (m + 12) 0 ∧ gget .bad e 7 = .ptr (m + 13) 0 ∧ gget .bad e 8 = .lit (.int .i64 (j : Nat)) ∧
          H.get (m + 12) = some [.lit (.int .i64 (op : Nat)), .lit (.string (ba x)), .lit (.string (ba z)), .lit (.string (ba p)), .sl .sh (ar.map encOpd), .sl .sh (ps.map encStr), .sl .sh (th.map encStmt), .sl .sh (el.map encStmt)] ∧
          H.get (m + 13) = some [.lit (.int .i64 (op' : Nat)), .lit (.string (ba x')), .lit (.string (ba z')), .lit (.string (ba p')), .sl .sh (ar'.map encOpd), .sl .sh (ps'.map encStr), .sl .sh (th'.map encStmt), .sl .sh (el'.map encStmt)])
        ar.length ⟨0, rfl, by omega, hR, by simp only [go_sem, Nat.reduceBEq, Nat.reduceLeDiff, Nat.reduceEqDiff, Nat.reduceSub, Nat.reduceAdd, Int.reduceEq, Int.reduceLT, Int.reduceLE, Int.reduceAdd, h0], by simp only [go_sem, Nat.reduceBEq, Nat.reduceLeDiff, Nat.reduceEqDiff, Nat.reduceSub, Nat.reduceAdd, Int.reduceEq, Int.reduceLT, Int.reduceLE, Int.reduceAdd, h1], by simp only [go_sem, Nat.reduceBEq, Nat.reduceLeDiff, Nat.reduceEqDiff, Nat.reduceSub, Nat.reduceAdd, Int.reduceEq, Int.reduceLT, Int.reduceLE, Int.reduceAdd, h5], by simp only [go_sem, Nat.reduceBEq, Nat.reduceLeDiff, Nat.reduceEqDiff, Nat.reduceSub, Nat.reduceAdd, Int.reduceEq, Int.reduceLT, Int.reduceLE, Int.reduceAdd], by simp only [go_sem, Nat.reduceBEq, Nat.reduceLeDiff, Nat.reduceEqDiff, Nat.reduceSub, Nat.reduceAdd, Int.reduceEq, Int.reduceLT, Int.reduceLE, Int.reduceAdd], by simp only [go_sem, Nat.reduceBEq, Nat.reduceLeDiff, Nat.reduceEqDiff, Nat.reduceSub, Nat.reduceAdd, Int.reduceEq, Int.reduceLT, Int.reduceLE, Int.reduceAdd] <;> rfl, by simp only [go_sem, Nat.reduceBEq, Nat.reduceLeDiff, Nat.reduceEqDiff, Nat.reduceSub, Nat.reduceAdd, Int.reduceEq, Int.reduceLT, Int.reduceLE, Int.reduceAdd] <;> rfl, by simp only [go_sem, Nat.reduceBEq, Nat.reduceLeDiff, Nat.reduceEqDiff, Nat.reduceSub, Nat.reduceAdd, Int.reduceEq, Int.reduceLT, Int.reduceLE, Int.reduceAdd] <;> rfl⟩ ?_
      clear hR
      rintro k ihj e H ⟨j, rfl, hjl, hR, h0, h1, h5, h6, h7, h8, g6, g7⟩
      obtain ⟨m', hm'⟩ : ∃ m, H.next = m := ⟨_, rfl⟩
      by_cases hjt : j < ar.length
      · have hjt' : decide ((j : Int) < (ar.length : Nat)) = true := by simp; omega
        have hjb : j < ar'.length := by omega
        rw [drop_cons' ⟨0, 0, []⟩ hjt, drop_cons' ⟨0, 0, []⟩ hjb] at hR
        have ja := iad_encOpd (t := 67) (bs := 32) (o := .sh) hjt
        have jb := iad_encOpd (t := 67) (bs := 32) (o := .sh) hjb
        generalize ar.getD j ⟨0, 0, []⟩ = u at hR ja
        generalize ar'.getD j ⟨0, 0, []⟩ = v at hR jb
        have hw2 := wrap1 (show j + 1 ≤ 9223372036854775807 by omega)
        have huv : (decide ((u.kind : Int) = (v.kind : Nat)) && (decide (u.n = v.n) && decide (ba u.name = ba v.name))) = decide (u = v) := by
          cases u; cases v; rw [Bool.eq_iff_iff]; simp [ba_inj]; intros; omega
        simp only [go_sem, Nat.reduceBEq, Nat.reduceLeDiff, Nat.reduceEqDiff, Nat.reduceSub, Nat.reduceAdd, Int.reduceEq, Int.reduceLT, Int.reduceLE, Int.reduceAdd, h0, h1, h5, h6, h7, h8, g6, g7, hm', List.length_map, hjt', ja, jb, encOpd]
        refine W_draw [(1,6),(4,6),(1,9),(4,9)] (by kernel_rfl) ?_
        simp only [go_sem, Nat.reduceBEq, Nat.reduceLeDiff, Nat.reduceEqDiff, Nat.reduceSub, Nat.reduceAdd, Int.reduceEq, Int.reduceLT, Int.reduceLE, Int.reduceAdd, h0, h1, h5, h6, h7, h8, g6, g7, hm', List.length_map, hjt', ja, jb, encOpd, huv]
        by_cases he : u = v
        · have de : decide (u = v) = true := by simp [he]
          have hR' : (decide (ar.drop (j + 1) = ar'.drop (j + 1)) && rS) = r := by rw [← hR]; simp [he]
          simp only [go_sem, Nat.reduceBEq, Nat.reduceLeDiff, Nat.reduceEqDiff, Nat.reduceSub, Nat.reduceAdd, Int.reduceEq, Int.reduceLT, Int.reduceLE, Int.reduceAdd, de, h0, h1, h5, h6, h7, h8, g6, g7, hw2]
          exact ihj (ar.length - (j + 1)) (by omega) _ _ ⟨j + 1, rfl, by omega, hR', by simp only [go_sem, Nat.reduceBEq, Nat.reduceLeDiff, Nat.reduceEqDiff, Nat.reduceSub, Nat.reduceAdd, Int.reduceEq, Int.reduceLT, Int.reduceLE, Int.reduceAdd, h0], by simp only [go_sem, Nat.reduceBEq, Nat.reduceLeDiff, Nat.reduceEqDiff, Nat.reduceSub, Nat.reduceAdd, Int.reduceEq, Int.reduceLT, Int.reduceLE, Int.reduceAdd, h1], by simp only [go_sem, Nat.reduceBEq, Nat.reduceLeDiff, Nat.reduceEqDiff, Nat.reduceSub, Nat.reduceAdd, Int.reduceEq, Int.reduceLT, Int.reduceLE, Int.reduceAdd, h5], by simp only [go_sem, Nat.reduceBEq, Nat.reduceLeDiff, Nat.reduceEqDiff, Nat.reduceSub, Nat.reduceAdd, Int.reduceEq, Int.reduceLT, Int.reduceLE, Int.reduceAdd, h6], by simp only [go_sem, Nat.reduceBEq, Nat.reduceLeDiff, Nat.reduceEqDiff, Nat.reduceSub, Nat.reduceAdd, Int.reduceEq, Int.reduceLT, Int.reduceLE, Int.reduceAdd, h7], by simp only [go_sem, Nat.reduceBEq, Nat.reduceLeDiff, Nat.reduceEqDiff, Nat.reduceSub, Nat.reduceAdd, Int.reduceEq, Int.reduceLT, Int.reduceLE, Int.reduceAdd], g6, g7⟩
        · have de : decide (u = v) = false := by simp [he]
          have hR' : r = false := by rw [← hR]; simp [he]
          simp only [go_sem, Nat.reduceBEq, Nat.reduceLeDiff, Nat.reduceEqDiff, Nat.reduceSub, Nat.reduceAdd, Int.reduceEq, Int.reduceLT, Int.reduceLE, Int.reduceAdd, de, hR']
      · have hjt' : decide ((j : Int) < (ar.length : Nat)) = false := by simp; omega
        rw [List.drop_of_length_le (by omega), List.drop_of_length_le (by omega)] at hR
        have hR' : rS = r := by rw [← hR]; simp
        simp only [go_sem, Nat.reduceBEq, Nat.reduceLeDiff, Nat.reduceEqDiff, Nat.reduceSub, Nat.reduceAdd, Int.reduceEq, Int.reduceLT, Int.reduceLE, Int.reduceAdd, h0, h1, h5, h6, h7, h8, g6, g7, hm', List.length_map, hjt', hw1]
        exact ihk (a.length - (i + 1)) (by omega) _ _ ⟨i + 1, rfl, by omega, hS.trans hR', by simp only [go_sem, Nat.reduceBEq, Nat.reduceLeDiff, Nat.reduceEqDiff, Nat.reduceSub, Nat.reduceAdd, Int.reduceEq, Int.reduceLT, Int.reduceLE, Int.reduceAdd, h0], by simp only [go_sem, Nat.reduceBEq, Nat.reduceLeDiff, Nat.reduceEqDiff, Nat.reduceSub, Nat.reduceAdd, Int.reduceEq, Int.reduceLT, Int.reduceLE, Int.reduceAdd, h1], by simp only [go_sem, Nat.reduceBEq, Nat.reduceLeDiff, Nat.reduceEqDiff, Nat.reduceSub, Nat.reduceAdd, Int.reduceEq, Int.reduceLT, Int.reduceLE, Int.reduceAdd]⟩
    · have hlt' : decide ((i : Int) < (a.length : Nat)) = false := by simp; omega
      rw [List.drop_of_length_le (by omega), List.drop_of_length_le (by omega)] at hR
      have hR' : r = true := by rw [← hR]; rfl
      simp only [go_sem, Nat.reduceBEq, Nat.reduceLeDiff, Nat.reduceEqDiff, Nat.reduceSub, Nat.reduceAdd, Int.reduceEq, Int.reduceLT, Int.reduceLE, Int.reduceAdd, h0, h1, h5, hm, List.length_map, hlt', hR']
  · have d : decide (((a.length : Nat) : Int) = (b.length : Nat)) = false := by simp; omega
    have hne : eqSs a b = false := by
      cases he : eqSs a b with
      | false => rfl
      | true => exact absurd (eqSs_len he) hl
    simp only [go_sem, Nat.reduceBEq, Nat.reduceLeDiff, Nat.reduceEqDiff, Nat.reduceSub, Nat.reduceAdd, Int.reduceEq, Int.reduceLT, Int.reduceLE, Int.reduceAdd, rs, List.length_map, d, hne]
theorem c_stmts (a b : List GStmt) (hf : fitSs a = true) (hl : a.length ≤ BIG) (o o' : Own) (H : Heap) :
    calls Tryd.prog cfg 23 [.sl o (a.map encStmt), .sl o' (b.map encStmt)] H = some (.ret (.lit (.bool (eqSs a b))) H) := by
  have h : ∀ n, StmtsOk n := by
    intro n
    induction n with
    | zero => intro a b o o' H hz; exact absurd hz (by cases a <;> simp [szSs])
    | succ n ih => exact c_stmts_step n ih
  exact h _ a b o o' H (Nat.le_refl _) hf hl
theorem iad_encFunc {t : TypeId} {bs : Nat} {o : Own} {l : List GFunc} {i : Nat} (h : i < l.length) : iad (some (t, 3, bs)) (.sl o (l.map encFunc)) (some i) = some (.ep (encFunc (l.getD i ⟨[], [], []⟩))) := by
  refine iad_some ?_ rfl
  rw [List.getElem?_map, List.getElem?_eq_getElem h, List.getD_eq_getElem?_getD, List.getElem?_eq_getElem h]
  rfl
theorem fitP_get {a : List GFunc} (h : fitP a = true) {i : Nat} (hi : i < a.length) : fitF (a.getD i ⟨[], [], []⟩) = true := by
  simp only [fitP, Bool.and_eq_true, List.all_eq_true] at h
  apply h.2
  rw [List.getD_eq_getElem?_getD, List.getElem?_eq_getElem hi]
  exact List.getElem_mem hi
set_option maxRecDepth 20000 in
theorem c_rSame (a b : List GFunc) (hfit : fitP a = true) (o o' : Own) (H : Heap) :
    calls Tryd.prog cfg 10 [.agg [.sl o (a.map encFunc)], .agg [.sl o' (b.map encFunc)]] H = some (.ret (.lit (.bool (eqFs a b))) H) := by
  have hlen : a.length ≤ BIG := by simp only [fitP, Bool.and_eq_true, decide_eq_true_eq] at hfit; exact hfit.1
  unfold BIG at hlen
  refine calls_pure (fn := Tryd.f10) rfl rfl rfl rfl rfl ?_ H
  have rs : Tryd.f10.results.toList = [.tmp 4] := rfl
  by_cases hl : a.length = b.length
  · have d : decide (((a.length : Nat) : Int) = (b.length : Nat)) = true := by simp; omega
    generalize hr : eqFs a b = r
    simp only [go_sem, Nat.reduceBEq, Nat.reduceLeDiff, Nat.reduceEqDiff, Nat.reduceSub, Nat.reduceAdd, Int.reduceEq, Int.reduceLT, Int.reduceLE, Int.reduceAdd, rs, List.length_map, d]
    refine W_loop_ind (fun k e H => ∃ i : Nat, k = a.length - i ∧ i ≤ a.length ∧ eqFs (a.drop i) (b.drop i) = r ∧ gget .bad e 2 = .ptr 0 0 ∧ gget .bad e 3 = .ptr 1 0 ∧ gget .bad e 5 = .lit (.int .i64 (i : Nat)) ∧
        H.get 0 = some [.sl .sh (a.map encFunc)] ∧ H.get 1 = some [.sl .sh (b.map encFunc)] ∧ 2 ≤ H.next)
      a.length ⟨0, rfl, by omega, hr, by simp only [go_sem, Nat.reduceBEq, Nat.reduceLeDiff, Nat.reduceEqDiff, Nat.reduceSub, Nat.reduceAdd, Int.reduceEq, Int.reduceLT, Int.reduceLE, Int.reduceAdd], by simp only [go_sem, Nat.reduceBEq, Nat.reduceLeDiff, Nat.reduceEqDiff, Nat.reduceSub, Nat.reduceAdd, Int.reduceEq, Int.reduceLT, Int.reduceLE, Int.reduceAdd], by simp only [go_sem, Nat.reduceBEq, Nat.reduceLeDiff, Nat.reduceEqDiff, Nat.reduceSub, Nat.reduceAdd, Int.reduceEq, Int.reduceLT, Int.reduceLE, Int.reduceAdd] <;> rfl, by simp only [go_sem, Nat.reduceBEq, Nat.reduceLeDiff, Nat.reduceEqDiff, Nat.reduceSub, Nat.reduceAdd, Int.reduceEq, Int.reduceLT, Int.reduceLE, Int.reduceAdd] <;> rfl, by simp only [go_sem, Nat.reduceBEq, Nat.reduceLeDiff, Nat.reduceEqDiff, Nat.reduceSub, Nat.reduceAdd, Int.reduceEq, Int.reduceLT, Int.reduceLE, Int.reduceAdd] <;> rfl, by simp only [go_sem, Nat.reduceBEq, Nat.reduceLeDiff, Nat.reduceEqDiff, Nat.reduceSub, Nat.reduceAdd, Int.reduceEq, Int.reduceLT, Int.reduceLE, Int.reduceAdd] <;> omega⟩ ?_
    rintro k ihk e H ⟨i, rfl, hle, hR, h2, h3, h5, g0, g1, hnx⟩
    obtain ⟨m, hm⟩ : ∃ m, H.next = m + 2 := ⟨H.next - 2, by omega⟩
    by_cases hlt : i < a.length
    · have hlt' : decide ((i : Int) < (a.length : Nat)) = true := by simp; omega
      have hlb : i < b.length := by omega
      rw [drop_cons' ⟨[], [], []⟩ hlt, drop_cons' ⟨[], [], []⟩ hlb] at hR
      have ha := iad_encFunc (t := 44) (bs := 64) (o := .sh) hlt
      have hb := iad_encFunc (t := 44) (bs := 64) (o := .sh) hlb
      have hfx := fitP_get hfit hlt
      generalize a.getD i ⟨[], [], []⟩ = x at hR ha hfx
      generalize b.getD i ⟨[], [], []⟩ = y at hR hb
      have hw1 := wrap1 (show i + 1 ≤ 9223372036854775807 by omega)
      obtain ⟨nm, ps, bd⟩ := x
      obtain ⟨nm', ps', bd'⟩ := y
      simp only [fitF, Bool.and_eq_true, decide_eq_true_eq] at hfx
      obtain ⟨f1, f2, f3⟩ := hfx
      have iP := fun H => c_texts ps ps' f1 .sh .sh H
      have iS := fun H => c_stmts bd bd' f3 f2 .sh .sh H
      have q1 : decide (ba nm = ba nm') = decide (nm = nm') := by simp [ba_inj]
      simp only [eqFs, eqF] at hR
      simp only [encFunc] at ha hb
      simp only [go_sem, Nat.reduceBEq, Nat.reduceLeDiff, Nat.reduceEqDiff, Nat.reduceSub, Nat.reduceAdd, Int.reduceEq, Int.reduceLT, Int.reduceLE, Int.reduceAdd, h2, h3, h5, g0, g1, hm, List.length_map, hlt', ha, hb]
      refine W_draw [(1,6),(4,6),(1,9),(4,9),(1,10),(4,10),(6,10),(9,10),(1,11),(4,11),(6,11),(9,11),(10,11),(6,12),(9,12)] (by kernel_rfl) ?_
      simp only [go_sem, Nat.reduceBEq, Nat.reduceLeDiff, Nat.reduceEqDiff, Nat.reduceSub, Nat.reduceAdd, Int.reduceEq, Int.reduceLT, Int.reduceLE, Int.reduceAdd, h2, h3, h5, g0, g1, hm, List.length_map, hlt', ha, hb, q1]
      cases k0 : decide (nm = nm') with
      | false =>
        have hR' : r = false := by rw [← hR, k0]; simp only [Bool.false_and, Bool.and_false]
        simp only [go_sem, Nat.reduceBEq, Nat.reduceLeDiff, Nat.reduceEqDiff, Nat.reduceSub, Nat.reduceAdd, Int.reduceEq, Int.reduceLT, Int.reduceLE, Int.reduceAdd, k0, q1, hR']
      | true =>
      rw [k0] at hR
      simp only [go_sem, Nat.reduceBEq, Nat.reduceLeDiff, Nat.reduceEqDiff, Nat.reduceSub, Nat.reduceAdd, Int.reduceEq, Int.reduceLT, Int.reduceLE, Int.reduceAdd, k0, q1, iP]
      cases k1 : decide (ps = ps') with
      | false =>
        have hR' : r = false := by rw [← hR, k1]; simp only [Bool.false_and, Bool.and_false]
        simp only [go_sem, Nat.reduceBEq, Nat.reduceLeDiff, Nat.reduceEqDiff, Nat.reduceSub, Nat.reduceAdd, Int.reduceEq, Int.reduceLT, Int.reduceLE, Int.reduceAdd, k1, iP, hR']
      | true =>
      rw [k1] at hR
      simp only [go_sem, Nat.reduceBEq, Nat.reduceLeDiff, Nat.reduceEqDiff, Nat.reduceSub, Nat.reduceAdd, Int.reduceEq, Int.reduceLT, Int.reduceLE, Int.reduceAdd, k1, iP, iS]
      cases k2 : eqSs bd bd' with
      | false =>
        have hR' : r = false := by rw [← hR, k2]; simp only [Bool.false_and, Bool.and_false]
        simp only [go_sem, Nat.reduceBEq, Nat.reduceLeDiff, Nat.reduceEqDiff, Nat.reduceSub, Nat.reduceAdd, Int.reduceEq, Int.reduceLT, Int.reduceLE, Int.reduceAdd, k2, iS, hR']
      | true =>
      rw [k2] at hR
      simp only [go_sem, Nat.reduceBEq, Nat.reduceLeDiff, Nat.reduceEqDiff, Nat.reduceSub, Nat.reduceAdd, Int.reduceEq, Int.reduceLT, Int.reduceLE, Int.reduceAdd, k2, iS, h2, h3, h5, hw1]
      simp only [Bool.true_and, Bool.and_true] at hR
      exact ihk (a.length - (i + 1)) (by omega) _ _ ⟨i + 1, rfl, by omega, hR, by simp only [go_sem, Nat.reduceBEq, Nat.reduceLeDiff, Nat.reduceEqDiff, Nat.reduceSub, Nat.reduceAdd, Int.reduceEq, Int.reduceLT, Int.reduceLE, Int.reduceAdd, h2], by simp only [go_sem, Nat.reduceBEq, Nat.reduceLeDiff, Nat.reduceEqDiff, Nat.reduceSub, Nat.reduceAdd, Int.reduceEq, Int.reduceLT, Int.reduceLE, Int.reduceAdd, h3], by simp only [go_sem, Nat.reduceBEq, Nat.reduceLeDiff, Nat.reduceEqDiff, Nat.reduceSub, Nat.reduceAdd, Int.reduceEq, Int.reduceLT, Int.reduceLE, Int.reduceAdd], by simp only [go_sem, Nat.reduceBEq, Nat.reduceLeDiff, Nat.reduceEqDiff, Nat.reduceSub, Nat.reduceAdd, Int.reduceEq, Int.reduceLT, Int.reduceLE, Int.reduceAdd, g0], by simp only [go_sem, Nat.reduceBEq, Nat.reduceLeDiff, Nat.reduceEqDiff, Nat.reduceSub, Nat.reduceAdd, Int.reduceEq, Int.reduceLT, Int.reduceLE, Int.reduceAdd, g1], by simp only [go_sem, Nat.reduceBEq, Nat.reduceLeDiff, Nat.reduceEqDiff, Nat.reduceSub, Nat.reduceAdd, Int.reduceEq, Int.reduceLT, Int.reduceLE, Int.reduceAdd, hm] <;> omega⟩
    · have hlt' : decide ((i : Int) < (a.length : Nat)) = false := by simp; omega
      rw [List.drop_of_length_le (by omega), List.drop_of_length_le (by omega)] at hR
      have hR' : r = true := by rw [← hR]; rfl
      simp only [go_sem, Nat.reduceBEq, Nat.reduceLeDiff, Nat.reduceEqDiff, Nat.reduceSub, Nat.reduceAdd, Int.reduceEq, Int.reduceLT, Int.reduceLE, Int.reduceAdd, h2, h3, h5, g0, g1, hm, List.length_map, hlt', hR']
  · have d : decide (((a.length : Nat) : Int) = (b.length : Nat)) = false := by simp; omega
    have hne : eqFs a b = false := by
      cases he : eqFs a b with
      | false => rfl
      | true => exact absurd (eqFs_len he) hl
    simp only [go_sem, Nat.reduceBEq, Nat.reduceLeDiff, Nat.reduceEqDiff, Nat.reduceSub, Nat.reduceAdd, Int.reduceEq, Int.reduceLT, Int.reduceLE, Int.reduceAdd, rs, List.length_map, d, hne]
end Go.Proofs.YtghhkbigmmjanaaDoor.VA

/-! Ph2 -/
namespace Go.Proofs.YtghhkbigmmjanaaDoor.VA
open Go Go.RowKit
attribute [local go_sem] Nat.add_eq_left Nat.left_eq_add true_and and_true ite_true if_false Int.cast_ofNat_Int eq_self Nat.add_assoc Option.some.injEq decide_true decide_false Bool.not_true Bool.not_false List.size_toArray List.length_cons List.length_nil
set_option linter.unusedSimpArgs false
set_option maxRecDepth 100000

set_option maxRecDepth 20000 in
theorem c_eqStrs (a b : List (List UInt8)) (hlen : a.length ≤ BIG) (o o' : Own) (H : Heap) :
    calls Tryd.prog cfg 41 [.sl o (a.map encStr), .sl o' (b.map encStr)] H = some (.ret (.lit (.bool (decide (a = b)))) H) := by
  unfold BIG at hlen
  refine calls_pure (fn := Tryd.f41) rfl rfl rfl rfl rfl ?_ H
  have rs : Tryd.f41.results.toList = [.tmp 4] := rfl
  by_cases hl : a.length = b.length
  · have d : decide (((a.length : Nat) : Int) = (b.length : Nat)) = true := by simp; omega
    generalize hr : decide (a = b) = r
    simp only [go_sem, Nat.reduceBEq, Nat.reduceLeDiff, Nat.reduceEqDiff, Nat.reduceSub, Nat.reduceAdd, Int.reduceEq, Int.reduceLT, Int.reduceLE, Int.reduceAdd, rs, List.length_map, d]
    refine W_loop_ind (fun k e H => ∃ i : Nat, k = a.length - i ∧ i ≤ a.length ∧ decide (a.drop i = b.drop i) = r ∧ gget .bad e 0 = .sl .sh (a.map encStr) ∧ gget .bad e 1 = .sl .sh (b.map encStr) ∧ gget .bad e 12 = .lit (.int .i64 (a.length : Nat)) ∧ gget .bad e 13 = .lit (.int .i64 (i : Nat)))
      a.length ⟨0, rfl, by omega, hr, by simp only [go_sem, Nat.reduceBEq, Nat.reduceLeDiff, Nat.reduceEqDiff, Nat.reduceSub, Nat.reduceAdd, Int.reduceEq, Int.reduceLT, Int.reduceLE, Int.reduceAdd], by simp only [go_sem, Nat.reduceBEq, Nat.reduceLeDiff, Nat.reduceEqDiff, Nat.reduceSub, Nat.reduceAdd, Int.reduceEq, Int.reduceLT, Int.reduceLE, Int.reduceAdd], by simp only [go_sem, Nat.reduceBEq, Nat.reduceLeDiff, Nat.reduceEqDiff, Nat.reduceSub, Nat.reduceAdd, Int.reduceEq, Int.reduceLT, Int.reduceLE, Int.reduceAdd], by simp only [go_sem, Nat.reduceBEq, Nat.reduceLeDiff, Nat.reduceEqDiff, Nat.reduceSub, Nat.reduceAdd, Int.reduceEq, Int.reduceLT, Int.reduceLE, Int.reduceAdd] <;> rfl⟩ ?_
    rintro k ih e H ⟨i, rfl, hle, hR, h0, h1, h12, h13⟩
    by_cases hlt : i < a.length
    · have hlt' : decide ((i : Int) < (a.length : Nat)) = true := by simp; omega
      have hlb : i < b.length := by omega
      rw [drop_cons' [] hlt, drop_cons' [] hlb] at hR
      have ha := iad_encStr (t := 9) (bs := 16) (o := .sh) hlt
      have hb := iad_encStr (t := 9) (bs := 16) (o := .sh) hlb
      generalize a.getD i [] = x at hR ha
      generalize b.getD i [] = y at hR hb
      have hw1 := wrap1 (show i + 1 ≤ 9223372036854775807 by omega)
      have hxy : decide (ba x = ba y) = decide (x = y) := by simp [ba_inj]
      simp only [go_sem, Nat.reduceBEq, Nat.reduceLeDiff, Nat.reduceEqDiff, Nat.reduceSub, Nat.reduceAdd, Int.reduceEq, Int.reduceLT, Int.reduceLE, Int.reduceAdd, h0, h1, h12, h13, List.length_map, hlt', ha, hb, encStr]
      refine W_draw [(3, 7)] (by kernel_rfl) ?_
      simp only [go_sem, Nat.reduceBEq, Nat.reduceLeDiff, Nat.reduceEqDiff, Nat.reduceSub, Nat.reduceAdd, Int.reduceEq, Int.reduceLT, Int.reduceLE, Int.reduceAdd, h0, h1, h12, h13, List.length_map, hlt', ha, hb, encStr, hxy]
      by_cases he : x = y
      · have de : decide (x = y) = true := by simp [he]
        have hR' : decide (a.drop (i + 1) = b.drop (i + 1)) = r := by rw [← hR]; simp [he]
        simp only [go_sem, Nat.reduceBEq, Nat.reduceLeDiff, Nat.reduceEqDiff, Nat.reduceSub, Nat.reduceAdd, Int.reduceEq, Int.reduceLT, Int.reduceLE, Int.reduceAdd, de, h0, h1, h12, h13, hw1]
        exact ih (a.length - (i + 1)) (by omega) _ _ ⟨i + 1, rfl, by omega, hR', by simp only [go_sem, Nat.reduceBEq, Nat.reduceLeDiff, Nat.reduceEqDiff, Nat.reduceSub, Nat.reduceAdd, Int.reduceEq, Int.reduceLT, Int.reduceLE, Int.reduceAdd, h0], by simp only [go_sem, Nat.reduceBEq, Nat.reduceLeDiff, Nat.reduceEqDiff, Nat.reduceSub, Nat.reduceAdd, Int.reduceEq, Int.reduceLT, Int.reduceLE, Int.reduceAdd, h1], by simp only [go_sem, Nat.reduceBEq, Nat.reduceLeDiff, Nat.reduceEqDiff, Nat.reduceSub, Nat.reduceAdd, Int.reduceEq, Int.reduceLT, Int.reduceLE, Int.reduceAdd, h12], by simp only [go_sem, Nat.reduceBEq, Nat.reduceLeDiff, Nat.reduceEqDiff, Nat.reduceSub, Nat.reduceAdd, Int.reduceEq, Int.reduceLT, Int.reduceLE, Int.reduceAdd]⟩
      · have de : decide (x = y) = false := by simp [he]
        have hR' : r = false := by rw [← hR]; simp [he]
        simp only [go_sem, Nat.reduceBEq, Nat.reduceLeDiff, Nat.reduceEqDiff, Nat.reduceSub, Nat.reduceAdd, Int.reduceEq, Int.reduceLT, Int.reduceLE, Int.reduceAdd, de, hR']
    · have hlt' : decide ((i : Int) < (a.length : Nat)) = false := by simp; omega
      rw [List.drop_of_length_le (by omega), List.drop_of_length_le (by omega)] at hR
      have hR' : r = true := by rw [← hR]; simp
      simp only [go_sem, Nat.reduceBEq, Nat.reduceLeDiff, Nat.reduceEqDiff, Nat.reduceSub, Nat.reduceAdd, Int.reduceEq, Int.reduceLT, Int.reduceLE, Int.reduceAdd, h0, h1, h12, h13, List.length_map, hlt', hR']
  · have d : decide (((a.length : Nat) : Int) = (b.length : Nat)) = false := by simp; omega
    have hne : decide (a = b) = false := by simp; intro h; exact hl (by rw [h])
    simp only [go_sem, Nat.reduceBEq, Nat.reduceLeDiff, Nat.reduceEqDiff, Nat.reduceSub, Nat.reduceAdd, Int.reduceEq, Int.reduceLT, Int.reduceLE, Int.reduceAdd, rs, List.length_map, d, hne]
set_option maxRecDepth 20000 in
theorem c_eqOpds (a b : List Opd) (hlen : a.length ≤ BIG) (o o' : Own) (H : Heap) :
    calls Tryd.prog cfg 59 [.sl o (a.map encOpd), .sl o' (b.map encOpd)] H = some (.ret (.lit (.bool (decide (a = b)))) H) := by
  unfold BIG at hlen
  refine calls_pure (fn := Tryd.f59) rfl rfl rfl rfl rfl ?_ H
  have rs : Tryd.f59.results.toList = [.tmp 4] := rfl
  by_cases hl : a.length = b.length
  · have d : decide (((a.length : Nat) : Int) = (b.length : Nat)) = true := by simp; omega
    generalize hr : decide (a = b) = r
    simp only [go_sem, Nat.reduceBEq, Nat.reduceLeDiff, Nat.reduceEqDiff, Nat.reduceSub, Nat.reduceAdd, Int.reduceEq, Int.reduceLT, Int.reduceLE, Int.reduceAdd, rs, List.length_map, d]
    refine W_loop_ind (fun k e H => ∃ i : Nat, k = a.length - i ∧ i ≤ a.length ∧ decide (a.drop i = b.drop i) = r ∧ gget .bad e 0 = .sl .sh (a.map encOpd) ∧ gget .bad e 1 = .sl .sh (b.map encOpd) ∧ gget .bad e 12 = .lit (.int .i64 (a.length : Nat)) ∧ gget .bad e 13 = .lit (.int .i64 (i : Nat)))
      a.length ⟨0, rfl, by omega, hr, by simp only [go_sem, Nat.reduceBEq, Nat.reduceLeDiff, Nat.reduceEqDiff, Nat.reduceSub, Nat.reduceAdd, Int.reduceEq, Int.reduceLT, Int.reduceLE, Int.reduceAdd], by simp only [go_sem, Nat.reduceBEq, Nat.reduceLeDiff, Nat.reduceEqDiff, Nat.reduceSub, Nat.reduceAdd, Int.reduceEq, Int.reduceLT, Int.reduceLE, Int.reduceAdd], by simp only [go_sem, Nat.reduceBEq, Nat.reduceLeDiff, Nat.reduceEqDiff, Nat.reduceSub, Nat.reduceAdd, Int.reduceEq, Int.reduceLT, Int.reduceLE, Int.reduceAdd], by simp only [go_sem, Nat.reduceBEq, Nat.reduceLeDiff, Nat.reduceEqDiff, Nat.reduceSub, Nat.reduceAdd, Int.reduceEq, Int.reduceLT, Int.reduceLE, Int.reduceAdd] <;> rfl⟩ ?_
    rintro k ih e H ⟨i, rfl, hle, hR, h0, h1, h12, h13⟩
    by_cases hlt : i < a.length
    · have hlt' : decide ((i : Int) < (a.length : Nat)) = true := by simp; omega
      have hlb : i < b.length := by omega
      rw [drop_cons' ⟨0, 0, []⟩ hlt, drop_cons' ⟨0, 0, []⟩ hlb] at hR
      have ha := iad_encOpd (t := 67) (bs := 32) (o := .sh) hlt
      have hb := iad_encOpd (t := 67) (bs := 32) (o := .sh) hlb
      generalize a.getD i ⟨0, 0, []⟩ = x at hR ha
      generalize b.getD i ⟨0, 0, []⟩ = y at hR hb
      have hw1 := wrap1 (show i + 1 ≤ 9223372036854775807 by omega)
      have hxy : (decide ((x.kind : Int) = (y.kind : Nat)) && (decide (x.n = y.n) && decide (ba x.name = ba y.name))) = decide (x = y) := by cases x; cases y; rw [Bool.eq_iff_iff]; simp [ba_inj]; intros; omega
      simp only [go_sem, Nat.reduceBEq, Nat.reduceLeDiff, Nat.reduceEqDiff, Nat.reduceSub, Nat.reduceAdd, Int.reduceEq, Int.reduceLT, Int.reduceLE, Int.reduceAdd, h0, h1, h12, h13, List.length_map, hlt', ha, hb, encOpd]
      refine W_draw [(3, 7)] (by kernel_rfl) ?_
      simp only [go_sem, Nat.reduceBEq, Nat.reduceLeDiff, Nat.reduceEqDiff, Nat.reduceSub, Nat.reduceAdd, Int.reduceEq, Int.reduceLT, Int.reduceLE, Int.reduceAdd, h0, h1, h12, h13, List.length_map, hlt', ha, hb, encOpd, hxy]
      by_cases he : x = y
      · have de : decide (x = y) = true := by simp [he]
        have hR' : decide (a.drop (i + 1) = b.drop (i + 1)) = r := by rw [← hR]; simp [he]
        simp only [go_sem, Nat.reduceBEq, Nat.reduceLeDiff, Nat.reduceEqDiff, Nat.reduceSub, Nat.reduceAdd, Int.reduceEq, Int.reduceLT, Int.reduceLE, Int.reduceAdd, de, h0, h1, h12, h13, hw1]
        exact ih (a.length - (i + 1)) (by omega) _ _ ⟨i + 1, rfl, by omega, hR', by simp only [go_sem, Nat.reduceBEq, Nat.reduceLeDiff, Nat.reduceEqDiff, Nat.reduceSub, Nat.reduceAdd, Int.reduceEq, Int.reduceLT, Int.reduceLE, Int.reduceAdd, h0], by simp only [go_sem, Nat.reduceBEq, Nat.reduceLeDiff, Nat.reduceEqDiff, Nat.reduceSub, Nat.reduceAdd, Int.reduceEq, Int.reduceLT, Int.reduceLE, Int.reduceAdd, h1], by simp only [go_sem, Nat.reduceBEq, Nat.reduceLeDiff, Nat.reduceEqDiff, Nat.reduceSub, Nat.reduceAdd, Int.reduceEq, Int.reduceLT, Int.reduceLE, Int.reduceAdd, h12], by simp only [go_sem, Nat.reduceBEq, Nat.reduceLeDiff, Nat.reduceEqDiff, Nat.reduceSub, Nat.reduceAdd, Int.reduceEq, Int.reduceLT, Int.reduceLE, Int.reduceAdd]⟩
      · have de : decide (x = y) = false := by simp [he]
        have hR' : r = false := by rw [← hR]; simp [he]
        simp only [go_sem, Nat.reduceBEq, Nat.reduceLeDiff, Nat.reduceEqDiff, Nat.reduceSub, Nat.reduceAdd, Int.reduceEq, Int.reduceLT, Int.reduceLE, Int.reduceAdd, de, hR']
    · have hlt' : decide ((i : Int) < (a.length : Nat)) = false := by simp; omega
      rw [List.drop_of_length_le (by omega), List.drop_of_length_le (by omega)] at hR
      have hR' : r = true := by rw [← hR]; simp
      simp only [go_sem, Nat.reduceBEq, Nat.reduceLeDiff, Nat.reduceEqDiff, Nat.reduceSub, Nat.reduceAdd, Int.reduceEq, Int.reduceLT, Int.reduceLE, Int.reduceAdd, h0, h1, h12, h13, List.length_map, hlt', hR']
  · have d : decide (((a.length : Nat) : Int) = (b.length : Nat)) = false := by simp; omega
    have hne : decide (a = b) = false := by simp; intro h; exact hl (by rw [h])
    simp only [go_sem, Nat.reduceBEq, Nat.reduceLeDiff, Nat.reduceEqDiff, Nat.reduceSub, Nat.reduceAdd, Int.reduceEq, Int.reduceLT, Int.reduceLE, Int.reduceAdd, rs, List.length_map, d, hne]
set_option maxRecDepth 20000 in
theorem c_eqStmts (a b : List GStmt) (hlen : a.length ≤ BIG) (hC : ∀ i, i < a.length → ∀ (y : GStmt) (H : Heap), calls Tryd.prog cfg 43 [.agg (encStmt (a.getD i noStmt)), .agg (encStmt y)] H = some (.ret (.lit (.bool (eqS (a.getD i noStmt) y))) H)) (o o' : Own) (H : Heap) :
    calls Tryd.prog cfg 42 [.sl o (a.map encStmt), .sl o' (b.map encStmt), .fn 43 []] H = some (.ret (.lit (.bool (eqSs a b))) H) := by
  unfold BIG at hlen
  refine calls_pure (fn := Tryd.f42) rfl rfl rfl rfl rfl ?_ H
  have rs : Tryd.f42.results.toList = [.tmp 6] := rfl
  by_cases hl : a.length = b.length
  · have d : decide (((a.length : Nat) : Int) = (b.length : Nat)) = true := by simp; omega
    generalize hr : eqSs a b = r
    simp only [go_sem, Nat.reduceBEq, Nat.reduceLeDiff, Nat.reduceEqDiff, Nat.reduceSub, Nat.reduceAdd, Int.reduceEq, Int.reduceLT, Int.reduceLE, Int.reduceAdd, rs, List.length_map, d]
    refine W_loop_ind (fun k e H => ∃ i : Nat, k = a.length - i ∧ i ≤ a.length ∧ eqSs (a.drop i) (b.drop i) = r ∧ gget .bad e 1 = .sl .sh (b.map encStmt) ∧ gget .bad e 2 = .fn 43 [] ∧ gget .bad e 15 = .sl .sh (a.map encStmt) ∧ gget .bad e 16 = .lit (.int .i64 (a.length : Nat)) ∧ gget .bad e 17 = .lit (.int .i64 (i : Nat)))
      a.length ⟨0, rfl, by omega, hr, by simp only [go_sem, Nat.reduceBEq, Nat.reduceLeDiff, Nat.reduceEqDiff, Nat.reduceSub, Nat.reduceAdd, Int.reduceEq, Int.reduceLT, Int.reduceLE, Int.reduceAdd], by simp only [go_sem, Nat.reduceBEq, Nat.reduceLeDiff, Nat.reduceEqDiff, Nat.reduceSub, Nat.reduceAdd, Int.reduceEq, Int.reduceLT, Int.reduceLE, Int.reduceAdd], by simp only [go_sem, Nat.reduceBEq, Nat.reduceLeDiff, Nat.reduceEqDiff, Nat.reduceSub, Nat.reduceAdd, Int.reduceEq, Int.reduceLT, Int.reduceLE, Int.reduceAdd], by simp only [go_sem, Nat.reduceBEq, Nat.reduceLeDiff, Nat.reduceEqDiff, Nat.reduceSub, Nat.reduceAdd, Int.reduceEq, Int.reduceLT, Int.reduceLE, Int.reduceAdd], by simp only [go_sem, Nat.reduceBEq, Nat.reduceLeDiff, Nat.reduceEqDiff, Nat.reduceSub, Nat.reduceAdd, Int.reduceEq, Int.reduceLT, Int.reduceLE, Int.reduceAdd] <;> rfl⟩ ?_
    rintro k ih e H ⟨i, rfl, hle, hR, h1, h2, h15, h16, h17⟩
    obtain ⟨m, hm⟩ : ∃ m, H.next = m := ⟨_, rfl⟩
    by_cases hlt : i < a.length
    · have hlt' : decide ((i : Int) < (a.length : Nat)) = true := by simp; omega
      have hlb : i < b.length := by omega
      have hq := hC i hlt
      rw [drop_cons' noStmt hlt, drop_cons' noStmt hlb] at hR
      have ha := iad_encStmt (t := 65) (bs := 152) (o := .sh) hlt
      have hb := iad_encStmt (t := 65) (bs := 152) (o := .sh) hlb
      generalize a.getD i noStmt = x at hR ha hq
      generalize b.getD i noStmt = y at hR hb
      have hw1 := wrap1 (show i + 1 ≤ 9223372036854775807 by omega)
      have hc := fun H => hq y H
      simp only [eqSs] at hR
      generalize eqS x y = q at hR hc
      obtain ⟨op, x1, z, p, ar, ps, th, el⟩ := x
      obtain ⟨op', x1', z', p', ar', ps', th', el'⟩ := y
      simp only [encStmt_mk] at ha hb hc
      simp only [go_sem, Nat.reduceBEq, Nat.reduceLeDiff, Nat.reduceEqDiff, Nat.reduceSub, Nat.reduceAdd, Int.reduceEq, Int.reduceLT, Int.reduceLE, Int.reduceAdd, h1, h2, h15, h16, h17, hm, List.length_map, hlt', ha, hb, hc]
      cases q with
      | false =>
        have hR' : r = false := by rw [← hR]; rfl
        simp only [go_sem, Nat.reduceBEq, Nat.reduceLeDiff, Nat.reduceEqDiff, Nat.reduceSub, Nat.reduceAdd, Int.reduceEq, Int.reduceLT, Int.reduceLE, Int.reduceAdd, hR']
      | true =>
        rw [Bool.true_and] at hR
        simp only [go_sem, Nat.reduceBEq, Nat.reduceLeDiff, Nat.reduceEqDiff, Nat.reduceSub, Nat.reduceAdd, Int.reduceEq, Int.reduceLT, Int.reduceLE, Int.reduceAdd, h1, h2, h15, h16, h17, hw1]
        exact ih (a.length - (i + 1)) (by omega) _ _ ⟨i + 1, rfl, by omega, hR, by simp only [go_sem, Nat.reduceBEq, Nat.reduceLeDiff, Nat.reduceEqDiff, Nat.reduceSub, Nat.reduceAdd, Int.reduceEq, Int.reduceLT, Int.reduceLE, Int.reduceAdd, h1], by simp only [go_sem, Nat.reduceBEq, Nat.reduceLeDiff, Nat.reduceEqDiff, Nat.reduceSub, Nat.reduceAdd, Int.reduceEq, Int.reduceLT, Int.reduceLE, Int.reduceAdd, h2], by simp only [go_sem, Nat.reduceBEq, Nat.reduceLeDiff, Nat.reduceEqDiff, Nat.reduceSub, Nat.reduceAdd, Int.reduceEq, Int.reduceLT, Int.reduceLE, Int.reduceAdd, h15], by simp only [go_sem, Nat.reduceBEq, Nat.reduceLeDiff, Nat.reduceEqDiff, Nat.reduceSub, Nat.reduceAdd, Int.reduceEq, Int.reduceLT, Int.reduceLE, Int.reduceAdd, h16], by simp only [go_sem, Nat.reduceBEq, Nat.reduceLeDiff, Nat.reduceEqDiff, Nat.reduceSub, Nat.reduceAdd, Int.reduceEq, Int.reduceLT, Int.reduceLE, Int.reduceAdd]⟩
    · have hlt' : decide ((i : Int) < (a.length : Nat)) = false := by simp; omega
      rw [List.drop_of_length_le (by omega), List.drop_of_length_le (by omega)] at hR
      have hR' : r = true := by rw [← hR]; rfl
      simp only [go_sem, Nat.reduceBEq, Nat.reduceLeDiff, Nat.reduceEqDiff, Nat.reduceSub, Nat.reduceAdd, Int.reduceEq, Int.reduceLT, Int.reduceLE, Int.reduceAdd, h1, h2, h15, h16, h17, hm, List.length_map, hlt', hR']
  · have d : decide (((a.length : Nat) : Int) = (b.length : Nat)) = false := by simp; omega
    have hne : eqSs a b = false := by
      cases he : eqSs a b with
      | false => rfl
      | true => exact absurd (eqSs_len he) hl
    simp only [go_sem, Nat.reduceBEq, Nat.reduceLeDiff, Nat.reduceEqDiff, Nat.reduceSub, Nat.reduceAdd, Int.reduceEq, Int.reduceLT, Int.reduceLE, Int.reduceAdd, rs, List.length_map, d, hne]
/-- What is said of statements' lists that are no larger than so much. -/
def EqOk (n : Nat) : Prop := ∀ (a b : List GStmt) (o o' : Own) (H : Heap), szSs a ≤ n → fitSs a = true → a.length ≤ BIG →
  calls Tryd.prog cfg 42 [.sl o (a.map encStmt), .sl o' (b.map encStmt), .fn 43 []] H = some (.ret (.lit (.bool (eqSs a b))) H)
set_option maxRecDepth 20000 in
theorem c_sameStmt (n : Nat) (ih : EqOk n) (s t : GStmt) (hsz : szS s ≤ n + 1) (hfx : fitS s = true) (H : Heap) :
    calls Tryd.prog cfg 43 [.agg (encStmt s), .agg (encStmt t)] H = some (.ret (.lit (.bool (eqS s t))) H) := by
  obtain ⟨op, x, z, p, ar, ps, th, el⟩ := s
  obtain ⟨op', x', z', p', ar', ps', th', el'⟩ := t
  simp only [szS] at hsz
  simp only [fitS, Bool.and_eq_true, decide_eq_true_eq] at hfx
  obtain ⟨f1, f2, f3, f4, f5, f6⟩ := hfx
  have iT := fun H => ih th th' .sh .sh H (by omega) f5 f3
  have iE := fun H => ih el el' .sh .sh H (by omega) f6 f4
  have iP := fun H => c_eqStrs ps ps' f2 .sh .sh H
  have iA := fun H => c_eqOpds ar ar' f1 .sh .sh H
  have q1 : decide ((op : Int) = (op' : Nat)) = decide (op = op') := by rw [Bool.eq_iff_iff]; simp; omega
  have q2 : decide (ba x = ba x') = decide (x = x') := by simp [ba_inj]
  have q3 : decide (ba z = ba z') = decide (z = z') := by simp [ba_inj]
  have q4 : decide (ba p = ba p') = decide (p = p') := by simp [ba_inj]
  generalize hR : eqS (.mk op x z p ar ps th el) (.mk op' x' z' p' ar' ps' th' el') = r
  simp only [eqS] at hR
  simp only [encStmt_mk]
  refine calls_pure (fn := Tryd.f43) rfl rfl rfl rfl rfl ?_ H
  have rs : Tryd.f43.results.toList = [.tmp 4] := rfl
  simp only [go_sem, Nat.reduceBEq, Nat.reduceLeDiff, Nat.reduceEqDiff, Nat.reduceSub, Nat.reduceAdd, Int.reduceEq, Int.reduceLT, Int.reduceLE, Int.reduceAdd, q1, q2, q3, q4]
  cases k0 : decide (op = op') with
  | false =>
    have hR' : r = false := by rw [← hR, k0]; simp only [Bool.false_and, Bool.and_false]
    simp only [go_sem, Nat.reduceBEq, Nat.reduceLeDiff, Nat.reduceEqDiff, Nat.reduceSub, Nat.reduceAdd, Int.reduceEq, Int.reduceLT, Int.reduceLE, Int.reduceAdd, rs, k0, q1, q2, q3, q4, iA, iP, iT, iE, hR']
  | true =>
  rw [k0] at hR
  simp only [go_sem, Nat.reduceBEq, Nat.reduceLeDiff, Nat.reduceEqDiff, Nat.reduceSub, Nat.reduceAdd, Int.reduceEq, Int.reduceLT, Int.reduceLE, Int.reduceAdd, k0, q1, q2, q3, q4, iA, iP, iT, iE]
  cases k1 : decide (x = x') with
  | false =>
    have hR' : r = false := by rw [← hR, k1]; simp only [Bool.false_and, Bool.and_false]
    simp only [go_sem, Nat.reduceBEq, Nat.reduceLeDiff, Nat.reduceEqDiff, Nat.reduceSub, Nat.reduceAdd, Int.reduceEq, Int.reduceLT, Int.reduceLE, Int.reduceAdd, rs, k1, q1, q2, q3, q4, iA, iP, iT, iE, hR']
  | true =>
  rw [k1] at hR
  simp only [go_sem, Nat.reduceBEq, Nat.reduceLeDiff, Nat.reduceEqDiff, Nat.reduceSub, Nat.reduceAdd, Int.reduceEq, Int.reduceLT, Int.reduceLE, Int.reduceAdd, k1, q1, q2, q3, q4, iA, iP, iT, iE]
  cases k2 : decide (z = z') with
  | false =>
    have hR' : r = false := by rw [← hR, k2]; simp only [Bool.false_and, Bool.and_false]
    simp only [go_sem, Nat.reduceBEq, Nat.reduceLeDiff, Nat.reduceEqDiff, Nat.reduceSub, Nat.reduceAdd, Int.reduceEq, Int.reduceLT, Int.reduceLE, Int.reduceAdd, rs, k2, q1, q2, q3, q4, iA, iP, iT, iE, hR']
  | true =>
  rw [k2] at hR
  simp only [go_sem, Nat.reduceBEq, Nat.reduceLeDiff, Nat.reduceEqDiff, Nat.reduceSub, Nat.reduceAdd, Int.reduceEq, Int.reduceLT, Int.reduceLE, Int.reduceAdd, k2, q1, q2, q3, q4, iA, iP, iT, iE]
  cases k3 : decide (p = p') with
  | false =>
    have hR' : r = false := by rw [← hR, k3]; simp only [Bool.false_and, Bool.and_false]
    simp only [go_sem, Nat.reduceBEq, Nat.reduceLeDiff, Nat.reduceEqDiff, Nat.reduceSub, Nat.reduceAdd, Int.reduceEq, Int.reduceLT, Int.reduceLE, Int.reduceAdd, rs, k3, q1, q2, q3, q4, iA, iP, iT, iE, hR']
  | true =>
  rw [k3] at hR
  simp only [go_sem, Nat.reduceBEq, Nat.reduceLeDiff, Nat.reduceEqDiff, Nat.reduceSub, Nat.reduceAdd, Int.reduceEq, Int.reduceLT, Int.reduceLE, Int.reduceAdd, k3, q1, q2, q3, q4, iA, iP, iT, iE]
  cases k4 : decide (ar = ar') with
  | false =>
    have hR' : r = false := by rw [← hR, k4]; simp only [Bool.false_and, Bool.and_false]
    simp only [go_sem, Nat.reduceBEq, Nat.reduceLeDiff, Nat.reduceEqDiff, Nat.reduceSub, Nat.reduceAdd, Int.reduceEq, Int.reduceLT, Int.reduceLE, Int.reduceAdd, rs, k4, q1, q2, q3, q4, iA, iP, iT, iE, hR']
  | true =>
  rw [k4] at hR
  simp only [go_sem, Nat.reduceBEq, Nat.reduceLeDiff, Nat.reduceEqDiff, Nat.reduceSub, Nat.reduceAdd, Int.reduceEq, Int.reduceLT, Int.reduceLE, Int.reduceAdd, k4, q1, q2, q3, q4, iA, iP, iT, iE]
  cases k5 : decide (ps = ps') with
  | false =>
    have hR' : r = false := by rw [← hR, k5]; simp only [Bool.false_and, Bool.and_false]
    simp only [go_sem, Nat.reduceBEq, Nat.reduceLeDiff, Nat.reduceEqDiff, Nat.reduceSub, Nat.reduceAdd, Int.reduceEq, Int.reduceLT, Int.reduceLE, Int.reduceAdd, rs, k5, q1, q2, q3, q4, iA, iP, iT, iE, hR']
  | true =>
  rw [k5] at hR
  simp only [go_sem, Nat.reduceBEq, Nat.reduceLeDiff, Nat.reduceEqDiff, Nat.reduceSub, Nat.reduceAdd, Int.reduceEq, Int.reduceLT, Int.reduceLE, Int.reduceAdd, k5, q1, q2, q3, q4, iA, iP, iT, iE]
  cases k6 : eqSs th th' with
  | false =>
    have hR' : r = false := by rw [← hR, k6]; simp only [Bool.false_and, Bool.and_false]
    simp only [go_sem, Nat.reduceBEq, Nat.reduceLeDiff, Nat.reduceEqDiff, Nat.reduceSub, Nat.reduceAdd, Int.reduceEq, Int.reduceLT, Int.reduceLE, Int.reduceAdd, rs, k6, q1, q2, q3, q4, iA, iP, iT, iE, hR']
  | true =>
  rw [k6] at hR
  simp only [go_sem, Nat.reduceBEq, Nat.reduceLeDiff, Nat.reduceEqDiff, Nat.reduceSub, Nat.reduceAdd, Int.reduceEq, Int.reduceLT, Int.reduceLE, Int.reduceAdd, k6, q1, q2, q3, q4, iA, iP, iT, iE]
  simp only [Bool.and_self, Bool.true_and] at hR
  simp only [go_sem, Nat.reduceBEq, Nat.reduceLeDiff, Nat.reduceEqDiff, Nat.reduceSub, Nat.reduceAdd, Int.reduceEq, Int.reduceLT, Int.reduceLE, Int.reduceAdd, rs, iE, hR]
theorem eqOk : ∀ n, EqOk n := by
  intro n
  induction n with
  | zero => intro a b o o' H hz; exact absurd hz (by cases a <;> simp [szSs])
  | succ n ih =>
    intro a b o o' H hz hf hl
    refine c_eqStmts a b hl (fun i hi y H => ?_) o o' H
    have h1 : a[i]? = some (a.getD i noStmt) := by rw [List.getD_eq_getElem?_getD, List.getElem?_eq_getElem hi]; rfl
    have := szSs_mem h1
    exact c_sameStmt n ih _ _ (by omega) (fitSs_drop hf hi) H
set_option maxRecDepth 20000 in
theorem c_sameFn (f g : GFunc) (hfx : fitF f = true) (H : Heap) :
    calls Tryd.prog cfg 40 [.agg (encFunc f), .agg (encFunc g)] H = some (.ret (.lit (.bool (eqF f g))) H) := by
  obtain ⟨nm, ps, bd⟩ := f
  obtain ⟨nm', ps', bd'⟩ := g
  simp only [fitF, Bool.and_eq_true, decide_eq_true_eq] at hfx
  obtain ⟨f1, f2, f3⟩ := hfx
  have iP := fun H => c_eqStrs ps ps' f1 .sh .sh H
  have iS := fun H => eqOk _ bd bd' .sh .sh H (Nat.le_refl _) f3 f2
  have q1 : decide (ba nm = ba nm') = decide (nm = nm') := by simp [ba_inj]
  generalize hR : eqF ⟨nm, ps, bd⟩ ⟨nm', ps', bd'⟩ = r
  simp only [eqF] at hR
  simp only [encFunc]
  refine calls_pure (fn := Tryd.f40) rfl rfl rfl rfl rfl ?_ H
  have rs : Tryd.f40.results.toList = [.tmp 4] := rfl
  simp only [go_sem, Nat.reduceBEq, Nat.reduceLeDiff, Nat.reduceEqDiff, Nat.reduceSub, Nat.reduceAdd, Int.reduceEq, Int.reduceLT, Int.reduceLE, Int.reduceAdd, q1]
  cases k0 : decide (nm = nm') with
  | false =>
    have hR' : r = false := by rw [← hR, k0]; simp only [Bool.false_and, Bool.and_false]
    simp only [go_sem, Nat.reduceBEq, Nat.reduceLeDiff, Nat.reduceEqDiff, Nat.reduceSub, Nat.reduceAdd, Int.reduceEq, Int.reduceLT, Int.reduceLE, Int.reduceAdd, rs, k0, q1, hR']
  | true =>
  rw [k0] at hR
  simp only [go_sem, Nat.reduceBEq, Nat.reduceLeDiff, Nat.reduceEqDiff, Nat.reduceSub, Nat.reduceAdd, Int.reduceEq, Int.reduceLT, Int.reduceLE, Int.reduceAdd, k0, q1, iP]
  cases k1 : decide (ps = ps') with
  | false =>
    have hR' : r = false := by rw [← hR, k1]; simp only [Bool.false_and, Bool.and_false]
    simp only [go_sem, Nat.reduceBEq, Nat.reduceLeDiff, Nat.reduceEqDiff, Nat.reduceSub, Nat.reduceAdd, Int.reduceEq, Int.reduceLT, Int.reduceLE, Int.reduceAdd, rs, k1, iP, hR']
  | true =>
  rw [k1] at hR
  simp only [Bool.true_and] at hR
  simp only [go_sem, Nat.reduceBEq, Nat.reduceLeDiff, Nat.reduceEqDiff, Nat.reduceSub, Nat.reduceAdd, Int.reduceEq, Int.reduceLT, Int.reduceLE, Int.reduceAdd, rs, k1, iP, iS, hR]
set_option maxRecDepth 20000 in
theorem c_eqFuncs (a b : List GFunc) (hlen : a.length ≤ BIG) (hC : ∀ i, i < a.length → ∀ (y : GFunc) (H : Heap), calls Tryd.prog cfg 40 [.agg (encFunc (a.getD i ⟨[], [], []⟩)), .agg (encFunc y)] H = some (.ret (.lit (.bool (eqF (a.getD i ⟨[], [], []⟩) y))) H)) (o o' : Own) (H : Heap) :
    calls Tryd.prog cfg 39 [.sl o (a.map encFunc), .sl o' (b.map encFunc), .fn 40 []] H = some (.ret (.lit (.bool (eqFs a b))) H) := by
  unfold BIG at hlen
  refine calls_pure (fn := Tryd.f39) rfl rfl rfl rfl rfl ?_ H
  have rs : Tryd.f39.results.toList = [.tmp 6] := rfl
  by_cases hl : a.length = b.length
  · have d : decide (((a.length : Nat) : Int) = (b.length : Nat)) = true := by simp; omega
    generalize hr : eqFs a b = r
    simp only [go_sem, Nat.reduceBEq, Nat.reduceLeDiff, Nat.reduceEqDiff, Nat.reduceSub, Nat.reduceAdd, Int.reduceEq, Int.reduceLT, Int.reduceLE, Int.reduceAdd, rs, List.length_map, d]
    refine W_loop_ind (fun k e H => ∃ i : Nat, k = a.length - i ∧ i ≤ a.length ∧ eqFs (a.drop i) (b.drop i) = r ∧ gget .bad e 1 = .sl .sh (b.map encFunc) ∧ gget .bad e 2 = .fn 40 [] ∧ gget .bad e 15 = .sl .sh (a.map encFunc) ∧ gget .bad e 16 = .lit (.int .i64 (a.length : Nat)) ∧ gget .bad e 17 = .lit (.int .i64 (i : Nat)))
      a.length ⟨0, rfl, by omega, hr, by simp only [go_sem, Nat.reduceBEq, Nat.reduceLeDiff, Nat.reduceEqDiff, Nat.reduceSub, Nat.reduceAdd, Int.reduceEq, Int.reduceLT, Int.reduceLE, Int.reduceAdd], by simp only [go_sem, Nat.reduceBEq, Nat.reduceLeDiff, Nat.reduceEqDiff, Nat.reduceSub, Nat.reduceAdd, Int.reduceEq, Int.reduceLT, Int.reduceLE, Int.reduceAdd], by simp only [go_sem, Nat.reduceBEq, Nat.reduceLeDiff, Nat.reduceEqDiff, Nat.reduceSub, Nat.reduceAdd, Int.reduceEq, Int.reduceLT, Int.reduceLE, Int.reduceAdd], by simp only [go_sem, Nat.reduceBEq, Nat.reduceLeDiff, Nat.reduceEqDiff, Nat.reduceSub, Nat.reduceAdd, Int.reduceEq, Int.reduceLT, Int.reduceLE, Int.reduceAdd], by simp only [go_sem, Nat.reduceBEq, Nat.reduceLeDiff, Nat.reduceEqDiff, Nat.reduceSub, Nat.reduceAdd, Int.reduceEq, Int.reduceLT, Int.reduceLE, Int.reduceAdd] <;> rfl⟩ ?_
    rintro k ih e H ⟨i, rfl, hle, hR, h1, h2, h15, h16, h17⟩
    obtain ⟨m, hm⟩ : ∃ m, H.next = m := ⟨_, rfl⟩
    by_cases hlt : i < a.length
    · have hlt' : decide ((i : Int) < (a.length : Nat)) = true := by simp; omega
      have hlb : i < b.length := by omega
      have hq := hC i hlt
      rw [drop_cons' ⟨[], [], []⟩ hlt, drop_cons' ⟨[], [], []⟩ hlb] at hR
      have ha := iad_encFunc (t := 44) (bs := 64) (o := .sh) hlt
      have hb := iad_encFunc (t := 44) (bs := 64) (o := .sh) hlb
      generalize a.getD i ⟨[], [], []⟩ = x at hR ha hq
      generalize b.getD i ⟨[], [], []⟩ = y at hR hb
      have hw1 := wrap1 (show i + 1 ≤ 9223372036854775807 by omega)
      have hc := fun H => hq y H
      simp only [eqFs] at hR
      generalize eqF x y = q at hR hc
      obtain ⟨nm, ps, bd⟩ := x
      obtain ⟨nm', ps', bd'⟩ := y
      simp only [encFunc] at ha hb hc
      simp only [go_sem, Nat.reduceBEq, Nat.reduceLeDiff, Nat.reduceEqDiff, Nat.reduceSub, Nat.reduceAdd, Int.reduceEq, Int.reduceLT, Int.reduceLE, Int.reduceAdd, h1, h2, h15, h16, h17, hm, List.length_map, hlt', ha, hb, hc]
      cases q with
      | false =>
        have hR' : r = false := by rw [← hR]; rfl
        simp only [go_sem, Nat.reduceBEq, Nat.reduceLeDiff, Nat.reduceEqDiff, Nat.reduceSub, Nat.reduceAdd, Int.reduceEq, Int.reduceLT, Int.reduceLE, Int.reduceAdd, hR']
      | true =>
        rw [Bool.true_and] at hR
        simp only [go_sem, Nat.reduceBEq, Nat.reduceLeDiff, Nat.reduceEqDiff, Nat.reduceSub, Nat.reduceAdd, Int.reduceEq, Int.reduceLT, Int.reduceLE, Int.reduceAdd, h1, h2, h15, h16, h17, hw1]
        exact ih (a.length - (i + 1)) (by omega) _ _ ⟨i + 1, rfl, by omega, hR, by simp only [go_sem, Nat.reduceBEq, Nat.reduceLeDiff, Nat.reduceEqDiff, Nat.reduceSub, Nat.reduceAdd, Int.reduceEq, Int.reduceLT, Int.reduceLE, Int.reduceAdd, h1], by simp only [go_sem, Nat.reduceBEq, Nat.reduceLeDiff, Nat.reduceEqDiff, Nat.reduceSub, Nat.reduceAdd, Int.reduceEq, Int.reduceLT, Int.reduceLE, Int.reduceAdd, h2], by simp only [go_sem, Nat.reduceBEq, Nat.reduceLeDiff, Nat.reduceEqDiff, Nat.reduceSub, Nat.reduceAdd, Int.reduceEq, Int.reduceLT, Int.reduceLE, Int.reduceAdd, h15], by simp only [go_sem, Nat.reduceBEq, Nat.reduceLeDiff, Nat.reduceEqDiff, Nat.reduceSub, Nat.reduceAdd, Int.reduceEq, Int.reduceLT, Int.reduceLE, Int.reduceAdd, h16], by simp only [go_sem, Nat.reduceBEq, Nat.reduceLeDiff, Nat.reduceEqDiff, Nat.reduceSub, Nat.reduceAdd, Int.reduceEq, Int.reduceLT, Int.reduceLE, Int.reduceAdd]⟩
    · have hlt' : decide ((i : Int) < (a.length : Nat)) = false := by simp; omega
      rw [List.drop_of_length_le (by omega), List.drop_of_length_le (by omega)] at hR
      have hR' : r = true := by rw [← hR]; rfl
      simp only [go_sem, Nat.reduceBEq, Nat.reduceLeDiff, Nat.reduceEqDiff, Nat.reduceSub, Nat.reduceAdd, Int.reduceEq, Int.reduceLT, Int.reduceLE, Int.reduceAdd, h1, h2, h15, h16, h17, hm, List.length_map, hlt', hR']
  · have d : decide (((a.length : Nat) : Int) = (b.length : Nat)) = false := by simp; omega
    have hne : eqFs a b = false := by
      cases he : eqFs a b with
      | false => rfl
      | true => exact absurd (eqFs_len he) hl
    simp only [go_sem, Nat.reduceBEq, Nat.reduceLeDiff, Nat.reduceEqDiff, Nat.reduceSub, Nat.reduceAdd, Int.reduceEq, Int.reduceLT, Int.reduceLE, Int.reduceAdd, rs, List.length_map, d, hne]
set_option maxRecDepth 20000 in
theorem c_pSame (a b : List GFunc) (hfit : fitP a = true) (o o' : Own) (H : Heap) :
    calls Tryd.prog cfg 20 [.agg [.sl o (a.map encFunc)], .agg [.sl o' (b.map encFunc)]] H = some (.ret (.lit (.bool (eqFs a b))) H) := by
  have hlen : a.length ≤ BIG := by simp only [fitP, Bool.and_eq_true, decide_eq_true_eq] at hfit; exact hfit.1
  have hf := fun H => c_eqFuncs a b hlen (fun i hi y H => c_sameFn _ y (fitP_get hfit hi) H) .sh .sh H
  refine calls_pure (fn := Tryd.f20) rfl rfl rfl rfl rfl ?_ H
  have rs : Tryd.f20.results.toList = [.tmp 4] := rfl
  simp only [go_sem, Nat.reduceBEq, Nat.reduceLeDiff, Nat.reduceEqDiff, Nat.reduceSub, Nat.reduceAdd, Int.reduceEq, Int.reduceLT, Int.reduceLE, Int.reduceAdd, rs, hf]
end Go.Proofs.YtghhkbigmmjanaaDoor.VA

/-! Pe0 -/
namespace Go.Proofs.YtghhkbigmmjanaaDoor.VA
open Go Go.RowKit
set_option linter.unusedSimpArgs false
set_option maxRecDepth 100000

def PQ' (P : Program) (r : Nat) (rs : List ResultVar) (H0 : Heap) : Out → Post
  | .ok v cs => fun x e H => match x with
    | .nrm | .ret => (aResults P e H rs).map (fun vs => san (oneOr vs)) = some v ∧ H.get r = some cs ∧ Adv r H0 H
    | _ => False
  | .bad v => fun x _ H => match x with
    | .pan u => san u = v ∧ Adv r H0 H
    | _ => False
section
variable {P : Program} {c : Cfg} {r : Nat} {rs : List ResultVar} {H0 H : Heap} {e : List AV} {v : AV} {cs : List AV}
@[go_sem] theorem PQ'_nrm : PQ' P r rs H0 (.ok v cs) .nrm e H = ((aResults P e H rs).map (fun vs => san (oneOr vs)) = some v ∧ H.get r = some cs ∧ Adv r H0 H) := rfl
@[go_sem] theorem PQ'_ret : PQ' P r rs H0 (.ok v cs) .ret e H = ((aResults P e H rs).map (fun vs => san (oneOr vs)) = some v ∧ H.get r = some cs ∧ Adv r H0 H) := rfl
@[go_sem] theorem PQ'_pan {u : AV} : PQ' P r rs H0 (.bad v) (.pan u) e H = (san u = v ∧ Adv r H0 H) := rfl
theorem PCall_of' {f : FuncId} {fn : Func} {code : Code} {args : List AV} {q : Out} (ht : c.told f = none) (hf : c.fn f = some fn) (hi : c.imp f = true) (hb : fn.body = some code) (hn : Nat.ble args.length fn.ntmps = true)
    (h : W P c code [] args H (PQ' P r fn.results.toList H q)) : PCall P c r f args H q := by
  refine PCall_of ht hf hi hb hn ?_
  obtain ⟨x, e1, H1, hx, hq⟩ := h
  refine ⟨x, e1, H1, hx, ?_⟩
  rw [Fin_nil] at hq ⊢
  cases q with
  | bad v => exact hq
  | ok v cs =>
    have conv : (aResults P e1 H1 fn.results.toList).map (fun vs => san (oneOr vs)) = some v → ∃ vs, aResults P e1 H1 fn.results.toList = some vs ∧ san (oneOr vs) = v := by
      intro h
      cases hv : aResults P e1 H1 fn.results.toList with
      | none => rw [hv] at h; cases h
      | some vs => rw [hv] at h; exact ⟨vs, rfl, by simpa using h⟩
    cases x with
    | nrm => exact ⟨conv hq.1, hq.2⟩
    | ret => exact ⟨conv hq.1, hq.2⟩
    | pan u => exact hq.elim
    | exit j => exact hq.elim
end
/-- A fault, as the parser panics with it. -/
def encTrouble (code : Nat) (a : Int) : AV := .ifc 47 (.agg [.lit (.int .i64 ((code + 20 : Nat) : Int)), .lit (.int .i64 a)])
@[go_sem] theorem san_trouble (code : Nat) (a : Int) : san (encTrouble code a) = encTrouble code a := by simp only [encTrouble, go_sem]
def outP (l : List GTok) (en : Int) (s : PS) (v : AV) : Out :=
  match s.f with
  | none => .ok v (cP l en s)
  | some (c, a) => .bad (encTrouble c a)
section
variable {l : List GTok} {en : Int} {P : Program} {c : Cfg} {r : Nat} {s' : PS} {v : AV} {H : Heap} {e : List AV}
theorem outP_none (h : s'.f = none) : outP l en s' v = .ok v (cP l en s') := by simp only [outP, h]
theorem outP_some {q : Nat × Int} (h : s'.f = some q) : outP l en s' v = .bad (encTrouble q.1 q.2) := by simp only [outP, h]
variable {st : List Fr} {Q : Post} {ds : List (Option Tmp)} {base : Nat} {dst : Option Tmp} {os : List Oper} {i : Nat} {f : FuncId} {args : List AV} {un : List (Nat × Nat)} {dd : List (List Nat)} {tr : List Tr}
theorem goC_out (h : PCall P c r f args H (outP l en s' v)) (ok : s'.f = none → ∀ H', H'.get r = some (cP l en s') → Adv r H H' → WO P c ds base os i st (aput e dst v) H' Q)
    (bad : ∀ q, s'.f = some q → ∀ H', Adv r H H' → Fin P c st (.pan (encTrouble q.1 q.2)) e H' Q) : goC P c (calls P c f args H) ds base dst os i st e Q := by
  cases hf : s'.f with
  | none => rw [outP_none hf] at h; exact goC_ok h (ok hf)
  | some q => rw [outP_some hf] at h; exact goC_bad h (bad q hf)
theorem eK_out (hi : c.imp f = true) (h : PCall P c r f args H (outP l en s' v))
    (ok : s'.f = none → ∀ H', H'.get r = some (cP l en s') → Adv r H H' → WE P c un ds dd base st Q os (i + 1) (tr ++ [.call v H H']) (aput e dst v) H')
    (bad : ∀ q, s'.f = some q → ∀ H', Adv r H H' → WX P c un ds (gget [] dd i) base st (encTrouble q.1 q.2) H' Q os (i + 1) (tr ++ [.pan]) e H) :
    eK P c (calls P c f args H) true un ds dd base st Q dst os i tr e H := by
  cases hf : s'.f with
  | none => rw [outP_none hf] at h; have := eK_ok hi h (ok hf); rw [hi] at this; exact this
  | some q => rw [outP_some hf] at h; have := eK_bad (dst := dst) hi h (bad q hf); rw [hi] at this; exact this
theorem eK_ok' (hi : c.imp f = true) {cs : List AV} (h : PCall P c r f args H (.ok v cs))
    (ok : ∀ H', H'.get r = some cs → Adv r H H' → WE P c un ds dd base st Q os (i + 1) (tr ++ [.call v H H']) (aput e dst v) H') :
    eK P c (calls P c f args H) true un ds dd base st Q dst os i tr e H := by
  have := eK_ok hi h ok; rw [hi] at this; exact this
end
end Go.Proofs.YtghhkbigmmjanaaDoor.VA

/-! Pe1 -/
namespace Go.Proofs.YtghhkbigmmjanaaDoor.VA
open Go Go.RowKit
attribute [local go_sem] Nat.add_eq_left Nat.left_eq_add true_and and_true ite_true if_false Int.cast_ofNat_Int eq_self Nat.add_assoc Option.some.injEq decide_true decide_false Bool.not_true Bool.not_false List.size_toArray List.length_cons List.length_nil
set_option linter.unusedSimpArgs false
set_option maxRecDepth 100000

theorem conc_tro : Tryd.prog.concrete 47 = true := by kernel_rfl
section
variable {l : List GTok} {en : Int} {r : Nat} {s : PS} {H : Heap}
theorem ne_new {H : Heap} {r : Nat} (h : r < H.next) : ∀ k, (H.next + k = r) = False := fun k => eq_false (by omega)
theorem ne_new' {H : Heap} {r : Nat} (h : r < H.next) : ∀ k, (r = H.next + k) = False := fun k => eq_false (by omega)
theorem ne_new0 {H : Heap} {r : Nat} (h : r < H.next) : (H.next = r) = False := eq_false (by omega)
theorem c_place (_ : r < H.next) (hg : H.get r = some (cP l en s)) : PCall Tryd.prog cfg r 61 [.ptr r 0] H (.ok (.lit (.int .i64 (place l en s.at_))) (cP l en s)) := by
  refine PCall_of' (fn := Tryd.f61) rfl rfl rfl rfl rfl ?_
  have rs : Tryd.f61.results.toList = [.tmp 2] := rfl
  simp only [go_sem, Nat.reduceBEq, Nat.reduceLeDiff, Nat.reduceEqDiff, Nat.reduceSub, Nat.reduceAdd, Int.reduceEq, Int.reduceLT, Int.reduceLE, Int.reduceAdd]
  refine W_draw [(3, 7)] (by kernel_rfl) ?_
  by_cases hlt : s.at_ < l.length
  · have hlt' : decide ((s.at_ : Int) < (l.length : Nat)) = true := by simp; omega
    have ha := iad_encG (t := 38) (bs := 32) (o := .sh) hlt
    have hp : place l en s.at_ = (l.getD s.at_ default).at_ := by simp only [place, hlt, if_true]
    rw [hp]
    simp only [go_sem, Nat.reduceBEq, Nat.reduceLeDiff, Nat.reduceEqDiff, Nat.reduceSub, Nat.reduceAdd, Int.reduceEq, Int.reduceLT, Int.reduceLE, Int.reduceAdd, hg, List.length_map, hlt']
    refine W_draw [(3, 7)] (by kernel_rfl) ?_
    simp only [go_sem, Nat.reduceBEq, Nat.reduceLeDiff, Nat.reduceEqDiff, Nat.reduceSub, Nat.reduceAdd, Int.reduceEq, Int.reduceLT, Int.reduceLE, Int.reduceAdd, rs, hg, ha, encG]
    (repeat first | exact Adv.refl _ _ | assumption | refine Adv.trans ?_ ha1 | refine Adv.trans ?_ ha2 | refine Adv.trans ?_ ha3 | refine Adv.trans ?_ ha4 | refine Adv.trans ?_ ha5 | refine Adv.trans ?_ ha6 | apply Adv.up | apply Adv.put | refine Adv.new ?_ (by omega) _ | refine Adv.live ?_ (by omega) _)
  · have hlt' : decide ((s.at_ : Int) < (l.length : Nat)) = false := by simp; omega
    have hp : place l en s.at_ = en := by simp only [place, hlt, if_false]
    rw [hp]
    simp only [go_sem, Nat.reduceBEq, Nat.reduceLeDiff, Nat.reduceEqDiff, Nat.reduceSub, Nat.reduceAdd, Int.reduceEq, Int.reduceLT, Int.reduceLE, Int.reduceAdd, rs, hg, List.length_map, hlt']
    (repeat first | exact Adv.refl _ _ | assumption | refine Adv.trans ?_ ha1 | refine Adv.trans ?_ ha2 | refine Adv.trans ?_ ha3 | refine Adv.trans ?_ ha4 | refine Adv.trans ?_ ha5 | refine Adv.trans ?_ ha6 | apply Adv.up | apply Adv.put | refine Adv.new ?_ (by omega) _ | refine Adv.live ?_ (by omega) _)
theorem c_fail (hr : r < H.next) (hg : H.get r = some (cP l en s)) (code : Nat) {k : Int} (hk : k = ((code + 20 : Nat) : Int)) :
    PCall Tryd.prog cfg r 51 [.ptr r 0, .lit (.int .i64 k)] H (.bad (encTrouble code (place l en s.at_))) := by
  refine PCall_of' (fn := Tryd.f51) rfl rfl rfl rfl rfl ?_
  have rs : Tryd.f51.results.toList = [] := rfl
  subst hk
  simp only [go_sem, Nat.reduceBEq, Nat.reduceLeDiff, Nat.reduceEqDiff, Nat.reduceSub, Nat.reduceAdd, Int.reduceEq, Int.reduceLT, Int.reduceLE, Int.reduceAdd]
  refine goC_ok (c_place (s := s) (l := l) (en := en) (by simp only [go_sem, Nat.reduceBEq, Nat.reduceLeDiff, Nat.reduceEqDiff, Nat.reduceSub, Nat.reduceAdd, Int.reduceEq, Int.reduceLT, Int.reduceLE, Int.reduceAdd]; omega) (by simp only [go_sem, Nat.reduceBEq, Nat.reduceLeDiff, Nat.reduceEqDiff, Nat.reduceSub, Nat.reduceAdd, Int.reduceEq, Int.reduceLT, Int.reduceLE, Int.reduceAdd, hg])) ?_
  intro H1 hg1 ha1
  have e1 : ∀ (ρ : Operand → AV) (H : Heap) (id : Nat) (x : Operand), astep Tryd.prog ρ H id (.makeInterface 47 x) = some (.val (.ifc 47 (ρ x)) [] []) := fun ρ H id x => st_makeIface x conc_tro
  simp only [go_sem, Nat.reduceBEq, Nat.reduceLeDiff, Nat.reduceEqDiff, Nat.reduceSub, Nat.reduceAdd, Int.reduceEq, Int.reduceLT, Int.reduceLE, Int.reduceAdd, e1, encTrouble]
  (repeat first | exact Adv.refl _ _ | assumption | refine Adv.trans ?_ ha1 | refine Adv.trans ?_ ha2 | refine Adv.trans ?_ ha3 | refine Adv.trans ?_ ha4 | refine Adv.trans ?_ ha5 | refine Adv.trans ?_ ha6 | apply Adv.up | apply Adv.put | refine Adv.new ?_ (by omega) _ | refine Adv.live ?_ (by omega) _)
theorem slice_tok {i : Nat} (h : i < l.length) : aSlice Tryd.prog 22 (.sl .sh (l.map encG)) (some (.lit (.int .i64 (i : Nat)))) (some (.lit (.int .i64 (i + 1 : Nat)))) = some (.sl .sh ([l.getD i default].map encG)) := by
  have hi : (l.map encG)[i]? = some (encG (l.getD i default)) := by
    rw [List.getElem?_map, List.getElem?_eq_getElem h, List.getD_eq_getElem?_getD, List.getElem?_eq_getElem h]; rfl
  have hd : ((l.map encG).drop i).take 1 = [l.getD i default].map encG := by
    rw [← List.map_drop, drop_cons' default h]; rfl
  have h1 : ((i + 1 : Nat) : Int) = (i : Int) + 1 := by omega
  simp only [aSlice, el_tok, optNat, aNat_cast, hi, List.length_map]
  rw [if_pos (by omega), if_neg (by omega)]
  simp only [encG, List.length_cons, List.length_nil, if_true]
  rw [show i + 1 - i = 1 by omega, hd]
/-- The next token, or the zero one. -/
def peekG (l : List GTok) (s : PS) : GTok := match l[s.at_]? with | some x => if rightG x = true then x else ⟨-1, [], 0⟩ | none => ⟨-1, [], 0⟩
theorem c_peek (hlen : l.length ≤ LM) (hr : r < H.next) (hg : H.get r = some (cP l en s)) : PCall Tryd.prog cfg r 62 [.ptr r 0] H (.ok (.agg (encG (peekG l s))) (cP l en s)) := by
  refine PCall_of' (fn := Tryd.f62) rfl rfl rfl rfl rfl ?_
  have rs : Tryd.f62.results.toList = [.cell 2 38] := rfl
  have hn := ne_new hr
  have hn' := ne_new' hr
  have hn0 := ne_new0 hr
  simp only [go_sem, Nat.reduceBEq, Nat.reduceLeDiff, Nat.reduceEqDiff, Nat.reduceSub, Nat.reduceAdd, Int.reduceEq, Int.reduceLT, Int.reduceLE, Int.reduceAdd]
  refine W_draw [(3, 7), (14, 18), (14, 22), (18, 22)] (by kernel_rfl) ?_
  have hz : encG ⟨-1, [], 0⟩ = [.lit (.int .i64 (-1)), .lit (.string (ba [])), .lit (.int .i64 0)] := rfl
  by_cases hlt : s.at_ < l.length
  · have hlt' : decide ((s.at_ : Int) < (l.length : Nat)) = true := by simp; omega
    have hx : l[s.at_]? = some (l.getD s.at_ default) := by rw [List.getD_eq_getElem?_getD, List.getElem?_eq_getElem hlt]; rfl
    have hw := at_wrap hlen hlt
    have hsl := slice_tok hlt
    have ha := iad_encG (t := 38) (bs := 32) (o := .sh) hlt
    generalize l.getD s.at_ default = x at hx hsl ha
    have hmay : [x].all rightG = rightG x := by simp
    have hm : ∀ H, calls Tryd.prog cfg 69 [.sl .sh [encG x]] H = some (.ret (.lit (.bool (rightG x))) H) := fun H => by
      have := c_may [x] (by simp) .sh H
      rwa [hmay] at this
    cases hR : rightG x with
    | true =>
      have hp : peekG l s = x := by simp only [peekG, hx, hR, if_true]
      rw [hp]
      simp only [go_sem, Nat.reduceBEq, Nat.reduceLeDiff, Nat.reduceEqDiff, Nat.reduceSub, Nat.reduceAdd, Int.reduceEq, Int.reduceLT, Int.reduceLE, Int.reduceAdd, hg, hn, hn0, List.length_map, hlt', hw, hsl, hm, hR]
      refine W_draw [(3, 7)] (by kernel_rfl) ?_
      simp only [go_sem, Nat.reduceBEq, Nat.reduceLeDiff, Nat.reduceEqDiff, Nat.reduceSub, Nat.reduceAdd, Int.reduceEq, Int.reduceLT, Int.reduceLE, Int.reduceAdd, rs, hg, hn, hn0, ha, encG]
      (repeat first | exact Adv.refl _ _ | assumption | refine Adv.trans ?_ ha1 | refine Adv.trans ?_ ha2 | refine Adv.trans ?_ ha3 | refine Adv.trans ?_ ha4 | refine Adv.trans ?_ ha5 | refine Adv.trans ?_ ha6 | apply Adv.up | apply Adv.put | refine Adv.new ?_ (by omega) _ | refine Adv.live ?_ (by omega) _)
    | false =>
      have hp : peekG l s = ⟨-1, [], 0⟩ := by simp only [peekG, hx, hR]; rfl
      rw [hp]
      simp only [go_sem, Nat.reduceBEq, Nat.reduceLeDiff, Nat.reduceEqDiff, Nat.reduceSub, Nat.reduceAdd, Int.reduceEq, Int.reduceLT, Int.reduceLE, Int.reduceAdd, rs, hg, hn, hn0, List.length_map, hlt', hw, hsl, hm, hR, hz]
      (repeat first | exact Adv.refl _ _ | assumption | refine Adv.trans ?_ ha1 | refine Adv.trans ?_ ha2 | refine Adv.trans ?_ ha3 | refine Adv.trans ?_ ha4 | refine Adv.trans ?_ ha5 | refine Adv.trans ?_ ha6 | apply Adv.up | apply Adv.put | refine Adv.new ?_ (by omega) _ | refine Adv.live ?_ (by omega) _)
  · have hlt' : decide ((s.at_ : Int) < (l.length : Nat)) = false := by simp; omega
    have hx : l[s.at_]? = none := List.getElem?_eq_none (by omega)
    have hp : peekG l s = ⟨-1, [], 0⟩ := by simp only [peekG, hx]
    rw [hp]
    simp only [go_sem, Nat.reduceBEq, Nat.reduceLeDiff, Nat.reduceEqDiff, Nat.reduceSub, Nat.reduceAdd, Int.reduceEq, Int.reduceLT, Int.reduceLE, Int.reduceAdd, rs, hg, hn, hn0, List.length_map, hlt', hz]
    (repeat first | exact Adv.refl _ _ | assumption | refine Adv.trans ?_ ha1 | refine Adv.trans ?_ ha2 | refine Adv.trans ?_ ha3 | refine Adv.trans ?_ ha4 | refine Adv.trans ?_ ha5 | refine Adv.trans ?_ ha6 | apply Adv.up | apply Adv.put | refine Adv.new ?_ (by omega) _ | refine Adv.live ?_ (by omega) _)
theorem peek_is (hf : s.f = none) (t : List UInt8) (ht : t ≠ []) : (decide ((peekG l s).text = t) && !decide ((peekG l s).kind = 1)) = isT l s t := by
  cases h : l[s.at_]? with
  | none =>
    simp only [peekG, isT, tk, hf, h]
    simp [ht.symm]
  | some x =>
    simp only [peekG, isT, tk, hf, h]
    cases hx : rightG x with
    | true => simp
    | false => simp [ht.symm]
theorem peek_name (hf : s.f = none) : (decide ((peekG l s).kind = 0) && !keyword (peekG l s).text) = isName l s := by
  cases h : l[s.at_]? with
  | none =>
    simp only [peekG, isName, tk, hf, h]
    simp
  | some x =>
    simp only [peekG, isName, tk, hf, h]
    cases hx : rightG x with
    | true => simp
    | false => simp
theorem peek_num (hf : s.f = none) : decide ((peekG l s).kind = 1) = isNum l s := by
  cases h : l[s.at_]? with
  | none =>
    simp only [peekG, isNum, tk, hf, h]
    simp
  | some x =>
    simp only [peekG, isNum, tk, hf, h]
    cases hx : rightG x with
    | true => simp
    | false => simp
theorem c_is (hlen : l.length ≤ LM) (hf : s.f = none) (hr : r < H.next) (hg : H.get r = some (cP l en s)) (t : List UInt8) (ht : t ≠ []) :
    PCall Tryd.prog cfg r 53 [.ptr r 0, .lit (.string (ba t))] H (.ok (.lit (.bool (isT l s t))) (cP l en s)) := by
  refine PCall_of' (fn := Tryd.f53) rfl rfl rfl rfl rfl ?_
  have rs : Tryd.f53.results.toList = [.tmp 4] := rfl
  have hp := peek_is (l := l) hf t ht
  generalize isT l s t = b at hp
  simp only [go_sem, Nat.reduceBEq, Nat.reduceLeDiff, Nat.reduceEqDiff, Nat.reduceSub, Nat.reduceAdd, Int.reduceEq, Int.reduceLT, Int.reduceLE, Int.reduceAdd]
  refine goC_ok (c_peek (s := s) (l := l) (en := en) hlen (by simp only [go_sem, Nat.reduceBEq, Nat.reduceLeDiff, Nat.reduceEqDiff, Nat.reduceSub, Nat.reduceAdd, Int.reduceEq, Int.reduceLT, Int.reduceLE, Int.reduceAdd]; omega) (by simp only [go_sem, Nat.reduceBEq, Nat.reduceLeDiff, Nat.reduceEqDiff, Nat.reduceSub, Nat.reduceAdd, Int.reduceEq, Int.reduceLT, Int.reduceLE, Int.reduceAdd, hg])) ?_
  intro H1 hg1 ha1
  have hl1 := ha1.1
  simp only [go_sem, Nat.reduceBEq, Nat.reduceLeDiff, Nat.reduceEqDiff, Nat.reduceSub, Nat.reduceAdd, Int.reduceEq, Int.reduceLT, Int.reduceLE, Int.reduceAdd] at hl1
  have hr1 : r < H1.next := by omega
  have hn := ne_new hr1
  have hn0 := ne_new0 hr1
  have hm := ne_new hr
  have hm0 := ne_new0 hr
  generalize peekG l s = x at hp
  have hd : decide (ba x.text = ba t) = decide (x.text = t) := by simp [ba_inj]
  simp only [go_sem, Nat.reduceBEq, Nat.reduceLeDiff, Nat.reduceEqDiff, Nat.reduceSub, Nat.reduceAdd, Int.reduceEq, Int.reduceLT, Int.reduceLE, Int.reduceAdd, encG, hn, hn0, hm, hm0, hg1, hd]
  cases h1 : decide (x.text = t) with
  | true =>
    rw [h1, Bool.true_and] at hp
    simp only [go_sem, Nat.reduceBEq, Nat.reduceLeDiff, Nat.reduceEqDiff, Nat.reduceSub, Nat.reduceAdd, Int.reduceEq, Int.reduceLT, Int.reduceLE, Int.reduceAdd, rs, encG, hn, hn0, hm, hm0, hg1, hp]
    (repeat first | exact Adv.refl _ _ | assumption | refine Adv.trans ?_ ha1 | refine Adv.trans ?_ ha2 | refine Adv.trans ?_ ha3 | refine Adv.trans ?_ ha4 | refine Adv.trans ?_ ha5 | refine Adv.trans ?_ ha6 | apply Adv.up | apply Adv.put | refine Adv.new ?_ (by omega) _ | refine Adv.live ?_ (by omega) _)
  | false =>
    rw [h1, Bool.false_and] at hp
    simp only [go_sem, Nat.reduceBEq, Nat.reduceLeDiff, Nat.reduceEqDiff, Nat.reduceSub, Nat.reduceAdd, Int.reduceEq, Int.reduceLT, Int.reduceLE, Int.reduceAdd, rs, encG, hn, hn0, hm, hm0, hg1, ← hp]
    (repeat first | exact Adv.refl _ _ | assumption | refine Adv.trans ?_ ha1 | refine Adv.trans ?_ ha2 | refine Adv.trans ?_ ha3 | refine Adv.trans ?_ ha4 | refine Adv.trans ?_ ha5 | refine Adv.trans ?_ ha6 | apply Adv.up | apply Adv.put | refine Adv.new ?_ (by omega) _ | refine Adv.live ?_ (by omega) _)
end
end Go.Proofs.YtghhkbigmmjanaaDoor.VA

/-! Pe2 -/
namespace Go.Proofs.YtghhkbigmmjanaaDoor.VA
open Go Go.RowKit
attribute [local go_sem] Nat.add_eq_left Nat.left_eq_add true_and and_true ite_true if_false Int.cast_ofNat_Int eq_self Nat.add_assoc Option.some.injEq decide_true decide_false Bool.not_true Bool.not_false List.size_toArray List.length_cons List.length_nil
set_option linter.unusedSimpArgs false
set_option maxRecDepth 100000

section
variable {l : List GTok} {en : Int} {r : Nat} {s : PS} {H : Heap}
def takeP (l : List GTok) (s : PS) (t : List UInt8) : PS := match isT l s t with | true => s.adv | false => s
theorem outP_fail (hf : s.f = none) (code : Nat) (v : AV) : outP l en (pfail l en s code) v = .bad (encTrouble code (place l en s.at_)) := by simp only [pfail, hf, outP]
theorem c_take (hlen : l.length ≤ LM) (hf : s.f = none) (hr : r < H.next) (hg : H.get r = some (cP l en s)) (t : List UInt8) (ht : t ≠ []) :
    PCall Tryd.prog cfg r 50 [.ptr r 0, .lit (.string (ba t))] H (.ok (.lit (.bool (isT l s t))) (cP l en (takeP l s t))) := by
  refine PCall_of' (fn := Tryd.f50) rfl rfl rfl rfl rfl ?_
  have rs : Tryd.f50.results.toList = [.tmp 4] := rfl
  have hn := ne_new hr
  have hz := ne_new0 hr
  have hn' := ne_new' hr
  simp only [go_sem, Nat.reduceBEq, Nat.reduceLeDiff, Nat.reduceEqDiff, Nat.reduceSub, Nat.reduceAdd, Int.reduceEq, Int.reduceLT, Int.reduceLE, Int.reduceAdd]
  refine goC_ok (c_is (s := s) (l := l) (en := en) hlen hf (by first | omega | (simp only [go_sem, Nat.reduceBEq, Nat.reduceLeDiff, Nat.reduceEqDiff, Nat.reduceSub, Nat.reduceAdd, Int.reduceEq, Int.reduceLT, Int.reduceLE, Int.reduceAdd]; omega)) (by first | assumption | simp only [go_sem, Nat.reduceBEq, Nat.reduceLeDiff, Nat.reduceEqDiff, Nat.reduceSub, Nat.reduceAdd, Int.reduceEq, Int.reduceLT, Int.reduceLE, Int.reduceAdd, hg, hn, hz, hn', Nat.add_zero]) t ht) ?_
  intro H1 hg1 ha1
  have hl1 := ha1.1
  try simp only [go_sem, Nat.reduceBEq, Nat.reduceLeDiff, Nat.reduceEqDiff, Nat.reduceSub, Nat.reduceAdd, Int.reduceEq, Int.reduceLT, Int.reduceLE, Int.reduceAdd] at hl1
  have hr1 : r < H1.next := by omega
  have hn1 := ne_new hr1
  have hz1 := ne_new0 hr1
  have hx1 := ne_new' hr1
  cases h : isT l s t with
  | true =>
    have hw := at_wrap hlen (isT_at h)
    have e : takeP l s t = s.adv := by simp only [takeP, h]
    rw [e]
    simp only [go_sem, Nat.reduceBEq, Nat.reduceLeDiff, Nat.reduceEqDiff, Nat.reduceSub, Nat.reduceAdd, Int.reduceEq, Int.reduceLT, Int.reduceLE, Int.reduceAdd, hg1, hn, hz, hn', Nat.add_zero, hn1, hz1, hx1, rs, hw]
    (repeat first | exact Adv.refl _ _ | assumption | refine Adv.trans ?_ had | refine Adv.trans ?_ ha1 | refine Adv.trans ?_ ha2 | refine Adv.trans ?_ ha3 | refine Adv.trans ?_ ha4 | refine Adv.trans ?_ ha5 | refine Adv.trans ?_ ha6 | refine Adv.trans ?_ ha7 | refine Adv.trans ?_ ha8 | refine Adv.trans ?_ ha9 | refine Adv.trans ?_ ha10 | refine Adv.trans ?_ ha11 | refine Adv.trans ?_ ha12 | apply Adv.up | apply Adv.put | refine Adv.new ?_ (by omega) _ | refine Adv.live ?_ (by omega) _ | refine Adv.owns ?_ (by omega) (by first | exact OwnB.lo ‹_› | exact fun _ _ _ h => by cases h))
  | false =>
    have e : takeP l s t = s := by simp only [takeP, h]
    rw [e]
    simp only [go_sem, Nat.reduceBEq, Nat.reduceLeDiff, Nat.reduceEqDiff, Nat.reduceSub, Nat.reduceAdd, Int.reduceEq, Int.reduceLT, Int.reduceLE, Int.reduceAdd, hg1, hn, hz, hn', Nat.add_zero, hn1, hz1, hx1, rs]
    (repeat first | exact Adv.refl _ _ | assumption | refine Adv.trans ?_ had | refine Adv.trans ?_ ha1 | refine Adv.trans ?_ ha2 | refine Adv.trans ?_ ha3 | refine Adv.trans ?_ ha4 | refine Adv.trans ?_ ha5 | refine Adv.trans ?_ ha6 | refine Adv.trans ?_ ha7 | refine Adv.trans ?_ ha8 | refine Adv.trans ?_ ha9 | refine Adv.trans ?_ ha10 | refine Adv.trans ?_ ha11 | refine Adv.trans ?_ ha12 | apply Adv.up | apply Adv.put | refine Adv.new ?_ (by omega) _ | refine Adv.live ?_ (by omega) _ | refine Adv.owns ?_ (by omega) (by first | exact OwnB.lo ‹_› | exact fun _ _ _ h => by cases h))
theorem c_take_yes (hlen : l.length ≤ LM) (hf : s.f = none) (hr : r < H.next) (hg : H.get r = some (cP l en s)) {t : List UInt8} (ht : t ≠ []) (h : isT l s t = true) :
    PCall Tryd.prog cfg r 50 [.ptr r 0, .lit (.string (ba t))] H (.ok (.lit (.bool true)) (cP l en s.adv)) := by
  have := c_take hlen hf hr hg t ht
  simp only [takeP, h] at this
  exact this
theorem c_take_no (hlen : l.length ≤ LM) (hf : s.f = none) (hr : r < H.next) (hg : H.get r = some (cP l en s)) {t : List UInt8} (ht : t ≠ []) (h : isT l s t = false) :
    PCall Tryd.prog cfg r 50 [.ptr r 0, .lit (.string (ba t))] H (.ok (.lit (.bool false)) (cP l en s)) := by
  have := c_take hlen hf hr hg t ht
  simp only [takeP, h] at this
  exact this
theorem needYes {t : List UInt8} (h : isT l s t = true) : need l en s t = s.adv := by simp only [need, h]
theorem c_need (hlen : l.length ≤ LM) (hf : s.f = none) (hr : r < H.next) (hg : H.get r = some (cP l en s)) (t : List UInt8) (ht : t ≠ []) :
    PCall Tryd.prog cfg r 30 [.ptr r 0, .lit (.string (ba t))] H (outP l en (need l en s t) (.tup [])) := by
  refine PCall_of' (fn := Tryd.f30) rfl rfl rfl rfl rfl ?_
  have rs : Tryd.f30.results.toList = [] := rfl
  have hn := ne_new hr
  have hz := ne_new0 hr
  have hn' := ne_new' hr
  simp only [go_sem, Nat.reduceBEq, Nat.reduceLeDiff, Nat.reduceEqDiff, Nat.reduceSub, Nat.reduceAdd, Int.reduceEq, Int.reduceLT, Int.reduceLE, Int.reduceAdd]
  cases h : isT l s t with
  | true =>
    rw [needYes h, outP_none (show s.adv.f = none from hf)]
    refine goC_ok (c_take_yes (s := s) (l := l) (en := en) hlen hf (by first | omega | (simp only [go_sem, Nat.reduceBEq, Nat.reduceLeDiff, Nat.reduceEqDiff, Nat.reduceSub, Nat.reduceAdd, Int.reduceEq, Int.reduceLT, Int.reduceLE, Int.reduceAdd]; omega)) (by first | assumption | simp only [go_sem, Nat.reduceBEq, Nat.reduceLeDiff, Nat.reduceEqDiff, Nat.reduceSub, Nat.reduceAdd, Int.reduceEq, Int.reduceLT, Int.reduceLE, Int.reduceAdd, hg, hn, hz, hn', Nat.add_zero]) ht h) ?_
    intro H1 hg1 ha1
    have hl1 := ha1.1
    try simp only [go_sem, Nat.reduceBEq, Nat.reduceLeDiff, Nat.reduceEqDiff, Nat.reduceSub, Nat.reduceAdd, Int.reduceEq, Int.reduceLT, Int.reduceLE, Int.reduceAdd] at hl1
    have hr1 : r < H1.next := by omega
    have hn1 := ne_new hr1
    have hz1 := ne_new0 hr1
    have hx1 := ne_new' hr1
    simp only [go_sem, Nat.reduceBEq, Nat.reduceLeDiff, Nat.reduceEqDiff, Nat.reduceSub, Nat.reduceAdd, Int.reduceEq, Int.reduceLT, Int.reduceLE, Int.reduceAdd, hg1, hn, hz, hn', Nat.add_zero, hn1, hz1, hx1, rs]
    (repeat first | exact Adv.refl _ _ | assumption | refine Adv.trans ?_ had | refine Adv.trans ?_ ha1 | refine Adv.trans ?_ ha2 | refine Adv.trans ?_ ha3 | refine Adv.trans ?_ ha4 | refine Adv.trans ?_ ha5 | refine Adv.trans ?_ ha6 | refine Adv.trans ?_ ha7 | refine Adv.trans ?_ ha8 | refine Adv.trans ?_ ha9 | refine Adv.trans ?_ ha10 | refine Adv.trans ?_ ha11 | refine Adv.trans ?_ ha12 | apply Adv.up | apply Adv.put | refine Adv.new ?_ (by omega) _ | refine Adv.live ?_ (by omega) _ | refine Adv.owns ?_ (by omega) (by first | exact OwnB.lo ‹_› | exact fun _ _ _ h => by cases h))
  | false =>
    have e : need l en s t = pfail l en s 0 := by simp only [need, h]
    rw [e, outP_fail hf]
    refine goC_ok (c_take_no (s := s) (l := l) (en := en) hlen hf (by first | omega | (simp only [go_sem, Nat.reduceBEq, Nat.reduceLeDiff, Nat.reduceEqDiff, Nat.reduceSub, Nat.reduceAdd, Int.reduceEq, Int.reduceLT, Int.reduceLE, Int.reduceAdd]; omega)) (by first | assumption | simp only [go_sem, Nat.reduceBEq, Nat.reduceLeDiff, Nat.reduceEqDiff, Nat.reduceSub, Nat.reduceAdd, Int.reduceEq, Int.reduceLT, Int.reduceLE, Int.reduceAdd, hg, hn, hz, hn', Nat.add_zero]) ht h) ?_
    intro H1 hg1 ha1
    have hl1 := ha1.1
    try simp only [go_sem, Nat.reduceBEq, Nat.reduceLeDiff, Nat.reduceEqDiff, Nat.reduceSub, Nat.reduceAdd, Int.reduceEq, Int.reduceLT, Int.reduceLE, Int.reduceAdd] at hl1
    have hr1 : r < H1.next := by omega
    have hn1 := ne_new hr1
    have hz1 := ne_new0 hr1
    have hx1 := ne_new' hr1
    simp only [go_sem, Nat.reduceBEq, Nat.reduceLeDiff, Nat.reduceEqDiff, Nat.reduceSub, Nat.reduceAdd, Int.reduceEq, Int.reduceLT, Int.reduceLE, Int.reduceAdd, hg1, hn, hz, hn', Nat.add_zero, hn1, hz1, hx1, rs]
    refine goC_bad (c_fail (s := s) (l := l) (en := en) (by first | omega | (simp only [go_sem, Nat.reduceBEq, Nat.reduceLeDiff, Nat.reduceEqDiff, Nat.reduceSub, Nat.reduceAdd, Int.reduceEq, Int.reduceLT, Int.reduceLE, Int.reduceAdd]; omega)) (by first | assumption | simp only [go_sem, Nat.reduceBEq, Nat.reduceLeDiff, Nat.reduceEqDiff, Nat.reduceSub, Nat.reduceAdd, Int.reduceEq, Int.reduceLT, Int.reduceLE, Int.reduceAdd, hg1, hn, hz, hn', Nat.add_zero, hn1, hz1, hx1]) 0 rfl) ?_
    intro H2 had
    simp only [go_sem, Nat.reduceBEq, Nat.reduceLeDiff, Nat.reduceEqDiff, Nat.reduceSub, Nat.reduceAdd, Int.reduceEq, Int.reduceLT, Int.reduceLE, Int.reduceAdd, hg1, hn, hz, hn', Nat.add_zero, hn1, hz1, hx1, san_trouble]
    (repeat first | exact Adv.refl _ _ | assumption | refine Adv.trans ?_ had | refine Adv.trans ?_ ha1 | refine Adv.trans ?_ ha2 | refine Adv.trans ?_ ha3 | refine Adv.trans ?_ ha4 | refine Adv.trans ?_ ha5 | refine Adv.trans ?_ ha6 | refine Adv.trans ?_ ha7 | refine Adv.trans ?_ ha8 | refine Adv.trans ?_ ha9 | refine Adv.trans ?_ ha10 | refine Adv.trans ?_ ha11 | refine Adv.trans ?_ ha12 | apply Adv.up | apply Adv.put | refine Adv.new ?_ (by omega) _ | refine Adv.live ?_ (by omega) _ | refine Adv.owns ?_ (by omega) (by first | exact OwnB.lo ‹_› | exact fun _ _ _ h => by cases h))
theorem c_isName (hlen : l.length ≤ LM) (hf : s.f = none) (hr : r < H.next) (hg : H.get r = some (cP l en s)) :
    PCall Tryd.prog cfg r 52 [.ptr r 0] H (.ok (.lit (.bool (isName l s))) (cP l en s)) := by
  refine PCall_of' (fn := Tryd.f52) rfl rfl rfl rfl rfl ?_
  have rs : Tryd.f52.results.toList = [.tmp 2] := rfl
  have hn := ne_new hr
  have hz := ne_new0 hr
  have hn' := ne_new' hr
  have hp := peek_name (l := l) hf
  generalize isName l s = b at hp
  simp only [go_sem, Nat.reduceBEq, Nat.reduceLeDiff, Nat.reduceEqDiff, Nat.reduceSub, Nat.reduceAdd, Int.reduceEq, Int.reduceLT, Int.reduceLE, Int.reduceAdd]
  refine goC_ok (c_peek (s := s) (l := l) (en := en) hlen (by first | omega | (simp only [go_sem, Nat.reduceBEq, Nat.reduceLeDiff, Nat.reduceEqDiff, Nat.reduceSub, Nat.reduceAdd, Int.reduceEq, Int.reduceLT, Int.reduceLE, Int.reduceAdd]; omega)) (by first | assumption | simp only [go_sem, Nat.reduceBEq, Nat.reduceLeDiff, Nat.reduceEqDiff, Nat.reduceSub, Nat.reduceAdd, Int.reduceEq, Int.reduceLT, Int.reduceLE, Int.reduceAdd, hg, hn, hz, hn', Nat.add_zero])) ?_
  intro H1 hg1 ha1
  have hl1 := ha1.1
  try simp only [go_sem, Nat.reduceBEq, Nat.reduceLeDiff, Nat.reduceEqDiff, Nat.reduceSub, Nat.reduceAdd, Int.reduceEq, Int.reduceLT, Int.reduceLE, Int.reduceAdd] at hl1
  have hr1 : r < H1.next := by omega
  have hn1 := ne_new hr1
  have hz1 := ne_new0 hr1
  have hx1 := ne_new' hr1
  generalize peekG l s = x at hp
  simp only [go_sem, Nat.reduceBEq, Nat.reduceLeDiff, Nat.reduceEqDiff, Nat.reduceSub, Nat.reduceAdd, Int.reduceEq, Int.reduceLT, Int.reduceLE, Int.reduceAdd, hg1, hn, hz, hn', Nat.add_zero, hn1, hz1, hx1, encG]
  cases h1 : decide (x.kind = 0) with
  | true =>
    rw [h1, Bool.true_and] at hp
    simp only [go_sem, Nat.reduceBEq, Nat.reduceLeDiff, Nat.reduceEqDiff, Nat.reduceSub, Nat.reduceAdd, Int.reduceEq, Int.reduceLT, Int.reduceLE, Int.reduceAdd, hg1, hn, hz, hn', Nat.add_zero, hn1, hz1, hx1, rs, encG, c_keyword, hp]
    (repeat first | exact Adv.refl _ _ | assumption | refine Adv.trans ?_ had | refine Adv.trans ?_ ha1 | refine Adv.trans ?_ ha2 | refine Adv.trans ?_ ha3 | refine Adv.trans ?_ ha4 | refine Adv.trans ?_ ha5 | refine Adv.trans ?_ ha6 | refine Adv.trans ?_ ha7 | refine Adv.trans ?_ ha8 | refine Adv.trans ?_ ha9 | refine Adv.trans ?_ ha10 | refine Adv.trans ?_ ha11 | refine Adv.trans ?_ ha12 | apply Adv.up | apply Adv.put | refine Adv.new ?_ (by omega) _ | refine Adv.live ?_ (by omega) _ | refine Adv.owns ?_ (by omega) (by first | exact OwnB.lo ‹_› | exact fun _ _ _ h => by cases h))
  | false =>
    rw [h1, Bool.false_and] at hp
    simp only [go_sem, Nat.reduceBEq, Nat.reduceLeDiff, Nat.reduceEqDiff, Nat.reduceSub, Nat.reduceAdd, Int.reduceEq, Int.reduceLT, Int.reduceLE, Int.reduceAdd, hg1, hn, hz, hn', Nat.add_zero, hn1, hz1, hx1, rs, encG, ← hp]
    (repeat first | exact Adv.refl _ _ | assumption | refine Adv.trans ?_ had | refine Adv.trans ?_ ha1 | refine Adv.trans ?_ ha2 | refine Adv.trans ?_ ha3 | refine Adv.trans ?_ ha4 | refine Adv.trans ?_ ha5 | refine Adv.trans ?_ ha6 | refine Adv.trans ?_ ha7 | refine Adv.trans ?_ ha8 | refine Adv.trans ?_ ha9 | refine Adv.trans ?_ ha10 | refine Adv.trans ?_ ha11 | refine Adv.trans ?_ ha12 | apply Adv.up | apply Adv.put | refine Adv.new ?_ (by omega) _ | refine Adv.live ?_ (by omega) _ | refine Adv.owns ?_ (by omega) (by first | exact OwnB.lo ‹_› | exact fun _ _ _ h => by cases h))
theorem c_name (hlen : l.length ≤ LM) (hf : s.f = none) (hr : r < H.next) (hg : H.get r = some (cP l en s)) :
    PCall Tryd.prog cfg r 31 [.ptr r 0] H (outP l en (nameP l en s).1 (.lit (.string (ba (nameP l en s).2)))) := by
  refine PCall_of' (fn := Tryd.f31) rfl rfl rfl rfl rfl ?_
  have rs : Tryd.f31.results.toList = [.tmp 2] := rfl
  have hn := ne_new hr
  have hz := ne_new0 hr
  have hn' := ne_new' hr
  simp only [go_sem, Nat.reduceBEq, Nat.reduceLeDiff, Nat.reduceEqDiff, Nat.reduceSub, Nat.reduceAdd, Int.reduceEq, Int.reduceLT, Int.reduceLE, Int.reduceAdd]
  refine goC_ok (c_isName (s := s) (l := l) (en := en) hlen hf (by first | omega | (simp only [go_sem, Nat.reduceBEq, Nat.reduceLeDiff, Nat.reduceEqDiff, Nat.reduceSub, Nat.reduceAdd, Int.reduceEq, Int.reduceLT, Int.reduceLE, Int.reduceAdd]; omega)) (by first | assumption | simp only [go_sem, Nat.reduceBEq, Nat.reduceLeDiff, Nat.reduceEqDiff, Nat.reduceSub, Nat.reduceAdd, Int.reduceEq, Int.reduceLT, Int.reduceLE, Int.reduceAdd, hg, hn, hz, hn', Nat.add_zero])) ?_
  intro H1 hg1 ha1
  have hl1 := ha1.1
  try simp only [go_sem, Nat.reduceBEq, Nat.reduceLeDiff, Nat.reduceEqDiff, Nat.reduceSub, Nat.reduceAdd, Int.reduceEq, Int.reduceLT, Int.reduceLE, Int.reduceAdd] at hl1
  have hr1 : r < H1.next := by omega
  have hn1 := ne_new hr1
  have hz1 := ne_new0 hr1
  have hx1 := ne_new' hr1
  cases h : isName l s with
  | true =>
    have hlt := isName_at h
    have hw := at_wrap hlen hlt
    have e : nameP l en s = (s.adv, (l.getD s.at_ default).text) := by simp only [nameP, h, text]
    rw [e, outP_none (show (s.adv, (l.getD s.at_ default).text).1.f = none from hf)]
    have ha := iad_encG (t := 38) (bs := 32) (o := .sh) hlt
    have hwb : IntKind.wrap .i64 (((s.at_ + 1 : Nat) : Int) - 1) = (s.at_ : Nat) := by unfold LM at hlen; rw [wrap64 (by omega) (by omega)]; omega
    have hadv : s.adv.at_ = s.at_ + 1 := rfl
    generalize l.getD s.at_ default = x at ha
    simp only [go_sem, Nat.reduceBEq, Nat.reduceLeDiff, Nat.reduceEqDiff, Nat.reduceSub, Nat.reduceAdd, Int.reduceEq, Int.reduceLT, Int.reduceLE, Int.reduceAdd, hg1, hn, hz, hn', Nat.add_zero, hn1, hz1, hx1, hw]
    refine W_draw [(3, 7)] (by kernel_rfl) ?_
    simp only [go_sem, Nat.reduceBEq, Nat.reduceLeDiff, Nat.reduceEqDiff, Nat.reduceSub, Nat.reduceAdd, Int.reduceEq, Int.reduceLT, Int.reduceLE, Int.reduceAdd, hg1, hn, hz, hn', Nat.add_zero, hn1, hz1, hx1, rs, hadv, hwb, ha, encG]
    (repeat first | exact Adv.refl _ _ | assumption | refine Adv.trans ?_ had | refine Adv.trans ?_ ha1 | refine Adv.trans ?_ ha2 | refine Adv.trans ?_ ha3 | refine Adv.trans ?_ ha4 | refine Adv.trans ?_ ha5 | refine Adv.trans ?_ ha6 | refine Adv.trans ?_ ha7 | refine Adv.trans ?_ ha8 | refine Adv.trans ?_ ha9 | refine Adv.trans ?_ ha10 | refine Adv.trans ?_ ha11 | refine Adv.trans ?_ ha12 | apply Adv.up | apply Adv.put | refine Adv.new ?_ (by omega) _ | refine Adv.live ?_ (by omega) _ | refine Adv.owns ?_ (by omega) (by first | exact OwnB.lo ‹_› | exact fun _ _ _ h => by cases h))
  | false =>
    have e : nameP l en s = (pfail l en s 0, []) := by simp only [nameP, h]
    rw [e, outP_fail hf]
    simp only [go_sem, Nat.reduceBEq, Nat.reduceLeDiff, Nat.reduceEqDiff, Nat.reduceSub, Nat.reduceAdd, Int.reduceEq, Int.reduceLT, Int.reduceLE, Int.reduceAdd, hg1, hn, hz, hn', Nat.add_zero, hn1, hz1, hx1]
    refine goC_bad (c_fail (s := s) (l := l) (en := en) (by first | omega | (simp only [go_sem, Nat.reduceBEq, Nat.reduceLeDiff, Nat.reduceEqDiff, Nat.reduceSub, Nat.reduceAdd, Int.reduceEq, Int.reduceLT, Int.reduceLE, Int.reduceAdd]; omega)) (by first | assumption | simp only [go_sem, Nat.reduceBEq, Nat.reduceLeDiff, Nat.reduceEqDiff, Nat.reduceSub, Nat.reduceAdd, Int.reduceEq, Int.reduceLT, Int.reduceLE, Int.reduceAdd, hg1, hn, hz, hn', Nat.add_zero, hn1, hz1, hx1]) 0 rfl) ?_
    intro H2 had
    simp only [go_sem, Nat.reduceBEq, Nat.reduceLeDiff, Nat.reduceEqDiff, Nat.reduceSub, Nat.reduceAdd, Int.reduceEq, Int.reduceLT, Int.reduceLE, Int.reduceAdd, hg1, hn, hz, hn', Nat.add_zero, hn1, hz1, hx1, san_trouble]
    (repeat first | exact Adv.refl _ _ | assumption | refine Adv.trans ?_ had | refine Adv.trans ?_ ha1 | refine Adv.trans ?_ ha2 | refine Adv.trans ?_ ha3 | refine Adv.trans ?_ ha4 | refine Adv.trans ?_ ha5 | refine Adv.trans ?_ ha6 | refine Adv.trans ?_ ha7 | refine Adv.trans ?_ ha8 | refine Adv.trans ?_ ha9 | refine Adv.trans ?_ ha10 | refine Adv.trans ?_ ha11 | refine Adv.trans ?_ ha12 | apply Adv.up | apply Adv.put | refine Adv.new ?_ (by omega) _ | refine Adv.live ?_ (by omega) _ | refine Adv.owns ?_ (by omega) (by first | exact OwnB.lo ‹_› | exact fun _ _ _ h => by cases h))
end
end Go.Proofs.YtghhkbigmmjanaaDoor.VA
