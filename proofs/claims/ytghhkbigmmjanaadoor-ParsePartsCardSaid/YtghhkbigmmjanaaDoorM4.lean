/- What is proved: what May, Word, Print and the law's fixed calls answer, in the abstract interpreter (VA). Condition: no more tokens than a counter tells, no longer print than a machine holds.
What is proved: how the document's parser goes on: whatever it takes, it goes ahead, and never over the end. No program in sight. No condition.
What is proved: rules for calls that write to one box of their caller's and may panic, in the abstract interpreter (VA). No condition.
What is proved: facts on the types of programs and parsers, and how their cells are read and laid, in the abstract interpreter (VA). No condition.
What is proved: plain laws of the lexer: no more tokens than bytes. No program in sight. No condition.
What is proved: plain laws of the lexer on lists of bytes: what a token by itself is; a token and what stands behind it; two texts with a byte 10 between. No program in sight. No condition.
What is proved: what the reference's functions on a token and on the next token answer, in the abstract interpreter (VA). Condition: no more tokens than a machine holds.
What is proved: what the reference's parser's small functions answer, in the abstract interpreter (VA). Condition: no more tokens than a machine holds.
What is proved: what the reference's operand answers, in the abstract interpreter (VA). Condition: no more tokens than a machine holds.
What is proved: what the reference's lists of operands and names answer, in the abstract interpreter (VA). Condition: no more tokens than a machine holds.
What is proved: what the reference's object and value answer, in the abstract interpreter (VA). Condition: no more tokens than a machine holds.
What is proved: which functions write to their caller's memory, one by one, in the abstract interpreter (VA). No condition.
What is proved: what the reference's value answers, in the abstract interpreter (VA). Condition: no more tokens than a machine holds. -/
import Derived.Test.YtghhkbigmmjanaaDoorM3
/-! La8 -/
namespace Go.Proofs.YtghhkbigmmjanaaDoor.VA
open Go Go.RowKit
attribute [local go_sem] Nat.add_eq_left Nat.left_eq_add true_and and_true ite_true if_false Int.cast_ofNat_Int eq_self Nat.add_assoc Option.some.injEq decide_true decide_false Bool.not_true Bool.not_false List.size_toArray List.length_cons List.length_nil
set_option linter.unusedSimpArgs false
set_option maxRecDepth 100000

@[go_sem] theorem bxx_eq (v : AV) (id : Nat) : bxx v id = if v.cells.all AV.one = true then some (.val (.ptr id 0) [.box id v.cells] []) else none := rfl
@[go_sem] theorem iad_cons0 (t : TypeId) (n b : Nat) (o : Own) (e : List AV) (es : List (List AV)) : iad (some (t, n, b)) (.sl o (e :: es)) (some 0) = if e.length = n then some (.ep e) else none := rfl
@[go_sem] theorem iad_consS (t : TypeId) (n b i : Nat) (o : Own) (e : List AV) (es : List (List AV)) : iad (some (t, n, b)) (.sl o (e :: es)) (some (i + 1)) = iad (some (t, n, b)) (.sl o es) (some i) := rfl
theorem iad_encTok {t : TypeId} {bs : Nat} {o : Own} (x : Tok) (l : List Tok) : iad (some (t, 3, bs)) (.sl o ((x :: l).map encTok)) (some 0) = some (.ep (encTok x)) := rfl
set_option maxRecDepth 20000 in
theorem c_right (k a : Int) (t : List UInt8) (H : Heap) : calls Tryd.prog cfg 73 [.agg [.lit (.int .i64 k), .lit (.string (ba t)), .lit (.int .i64 a)]] H = some (.ret (.lit (.bool (rightB k t))) H) := by
  refine calls_pure (fn := Tryd.f73) rfl rfl rfl rfl rfl ?_ H
  have rs : Tryd.f73.results.toList = [.tmp 2] := rfl
  generalize hr : rightB k t = r
  unfold rightB at hr
  simp only [go_sem, Nat.reduceBEq, Nat.reduceLeDiff, Nat.reduceEqDiff, Nat.reduceSub, Nat.reduceAdd, Int.reduceEq, Int.reduceLT, Int.reduceLE, Int.reduceAdd, rs, c_lex]
  generalize lexAns t = A at hr
  obtain ⟨ts, cd, p⟩ := A
  simp only [go_sem, Nat.reduceBEq, Nat.reduceLeDiff, Nat.reduceEqDiff, Nat.reduceSub, Nat.reduceAdd, Int.reduceEq, Int.reduceLT, Int.reduceLE, Int.reduceAdd, encLex, encFault]
  refine W_draw [(12, 14), (21, 23)] (by kernel_rfl) ?_
  by_cases hc : cd = 0
  · subst hc
    have dc : decide ((0 : Int) = 0) = true := rfl
    cases ts with
    | nil =>
      have hr' : r = false := hr.symm
      simp only [go_sem, Nat.reduceBEq, Nat.reduceLeDiff, Nat.reduceEqDiff, Nat.reduceSub, Nat.reduceAdd, Int.reduceEq, Int.reduceLT, Int.reduceLE, Int.reduceAdd, dc, List.map_nil, List.length_nil, hr']
    | cons x ts =>
      cases ts with
      | nil =>
        simp only at hr
        have d1 : decide ((1 : Int) = 1) = true := rfl
        by_cases h1 : (x.kind : Int) = k
        · have e1 : decide (((x.kind : Nat) : Int) = k) = true := by simp [h1]
          have e2 : decide (ba x.text = ba t) = decide (x.text = t) := by simp [ba_inj]
          have hr' : r = decide (x.text = t) := by rw [← hr, e1, Bool.true_and]
          simp only [go_sem, Nat.reduceBEq, Nat.reduceLeDiff, Nat.reduceEqDiff, Nat.reduceSub, Nat.reduceAdd, Int.reduceEq, Int.reduceLT, Int.reduceLE, Int.reduceAdd, dc, d1, List.map_cons, List.map_nil, iad_encTok, encTok, e1, e2, hr']
        · have e1 : decide (((x.kind : Nat) : Int) = k) = false := by simp [h1]
          have hr' : r = false := by rw [← hr, e1, Bool.false_and]
          simp only [go_sem, Nat.reduceBEq, Nat.reduceLeDiff, Nat.reduceEqDiff, Nat.reduceSub, Nat.reduceAdd, Int.reduceEq, Int.reduceLT, Int.reduceLE, Int.reduceAdd, dc, d1, List.map_cons, List.map_nil, iad_encTok, encTok, e1, hr']
      | cons y ts =>
        have hr' : r = false := hr.symm
        have d1 : decide (((ts.length + 1 + 1 : Nat) : Int) = 1) = false := by simp; omega
        simp only [go_sem, Nat.reduceBEq, Nat.reduceLeDiff, Nat.reduceEqDiff, Nat.reduceSub, Nat.reduceAdd, Int.reduceEq, Int.reduceLT, Int.reduceLE, Int.reduceAdd, dc, d1, List.map_cons, List.length_map, hr']
  · have dc : decide (((cd : Nat) : Int) = 0) = false := by simp; omega
    have hr' : r = false := by
      rw [← hr]
      split
      · rename_i heq; simp at heq; exact absurd heq.2.1 hc
      · rfl
    simp only [go_sem, Nat.reduceBEq, Nat.reduceLeDiff, Nat.reduceEqDiff, Nat.reduceSub, Nat.reduceAdd, Int.reduceEq, Int.reduceLT, Int.reduceLE, Int.reduceAdd, dc, hr']
set_option maxRecDepth 20000 in
theorem c_may (l : List GTok) (hlen : l.length ≤ 9223372036854775806) (o : Own) (H : Heap) : calls Tryd.prog cfg 69 [.sl o (l.map encG)] H = some (.ret (.lit (.bool (l.all rightG))) H) := by
  refine calls_pure (fn := Tryd.f69) rfl rfl rfl rfl rfl ?_ H
  have rs : Tryd.f69.results.toList = [.tmp 2] := rfl
  generalize hr : l.all rightG = r
  simp only [go_sem, Nat.reduceBEq, Nat.reduceLeDiff, Nat.reduceEqDiff, Nat.reduceSub, Nat.reduceAdd, Int.reduceEq, Int.reduceLT, Int.reduceLE, Int.reduceAdd, rs, List.length_map]
  refine W_loop_ind (fun k e H => ∃ i : Nat, k = l.length - i ∧ i ≤ l.length ∧ (l.drop i).all rightG = r ∧ gget .bad e 5 = .sl .sh (l.map encG) ∧ gget .bad e 6 = .lit (.int .i64 (l.length : Nat)) ∧ gget .bad e 7 = .lit (.int .i64 (i : Nat)))
    l.length ⟨0, rfl, by omega, hr, by simp only [go_sem, Nat.reduceBEq, Nat.reduceLeDiff, Nat.reduceEqDiff, Nat.reduceSub, Nat.reduceAdd, Int.reduceEq, Int.reduceLT, Int.reduceLE, Int.reduceAdd], by simp only [go_sem, Nat.reduceBEq, Nat.reduceLeDiff, Nat.reduceEqDiff, Nat.reduceSub, Nat.reduceAdd, Int.reduceEq, Int.reduceLT, Int.reduceLE, Int.reduceAdd], by simp only [go_sem, Nat.reduceBEq, Nat.reduceLeDiff, Nat.reduceEqDiff, Nat.reduceSub, Nat.reduceAdd, Int.reduceEq, Int.reduceLT, Int.reduceLE, Int.reduceAdd]⟩ ?_
  rintro k ih e H ⟨i, rfl, hle, hR, h5, h6, h7⟩
  by_cases hlt : i < l.length
  · have hlt' : decide ((i : Int) < (l.length : Nat)) = true := by simp; omega
    rw [drop_cons' default hlt, List.all_cons] at hR
    have ha := iad_encG (t := 38) (bs := 32) (o := .sh) hlt
    generalize l.getD i default = x at hR ha
    have hw1 := wrap1 (show i + 1 ≤ 9223372036854775807 by omega)
    cases hx : rightG x with
    | true =>
      rw [hx, Bool.true_and] at hR
      have hx' : rightB x.kind x.text = true := hx
      simp only [go_sem, Nat.reduceBEq, Nat.reduceLeDiff, Nat.reduceEqDiff, Nat.reduceSub, Nat.reduceAdd, Int.reduceEq, Int.reduceLT, Int.reduceLE, Int.reduceAdd, h5, h6, h7, hlt', ha, encG, c_right, hx', hw1]
      exact ih (l.length - (i + 1)) (by omega) _ _ ⟨i + 1, rfl, by omega, hR, by simp only [go_sem, Nat.reduceBEq, Nat.reduceLeDiff, Nat.reduceEqDiff, Nat.reduceSub, Nat.reduceAdd, Int.reduceEq, Int.reduceLT, Int.reduceLE, Int.reduceAdd, h5], by simp only [go_sem, Nat.reduceBEq, Nat.reduceLeDiff, Nat.reduceEqDiff, Nat.reduceSub, Nat.reduceAdd, Int.reduceEq, Int.reduceLT, Int.reduceLE, Int.reduceAdd, h6], by simp only [go_sem, Nat.reduceBEq, Nat.reduceLeDiff, Nat.reduceEqDiff, Nat.reduceSub, Nat.reduceAdd, Int.reduceEq, Int.reduceLT, Int.reduceLE, Int.reduceAdd]⟩
    | false =>
      rw [hx, Bool.false_and] at hR
      have hx' : rightB x.kind x.text = false := hx
      simp only [go_sem, Nat.reduceBEq, Nat.reduceLeDiff, Nat.reduceEqDiff, Nat.reduceSub, Nat.reduceAdd, Int.reduceEq, Int.reduceLT, Int.reduceLE, Int.reduceAdd, h5, h6, h7, hlt', ha, encG, c_right, hx', ← hR]
  · have hlt' : decide ((i : Int) < (l.length : Nat)) = false := by simp; omega
    rw [List.drop_of_length_le (by omega)] at hR
    have hR' : r = true := hR.symm
    simp only [go_sem, Nat.reduceBEq, Nat.reduceLeDiff, Nat.reduceEqDiff, Nat.reduceSub, Nat.reduceAdd, Int.reduceEq, Int.reduceLT, Int.reduceLE, Int.reduceAdd, h5, h6, h7, hlt', hR']
end Go.Proofs.YtghhkbigmmjanaaDoor.VA

/-! Pa2 -/
namespace Go.Proofs.YtghhkbigmmjanaaDoor.VA
open Go Go.RowKit
set_option linter.unusedSimpArgs false

section
variable {l : List GTok} {en : Int}
/-- From one state to the next: if there is no fault, there was none, and it is not behind. -/
def Le1 (l : List GTok) (s s' : PS) : Prop := s'.ok = true → s.ok = true ∧ s.at_ ≤ s'.at_ ∧ (s.at_ = s'.at_ ∨ s'.at_ ≤ l.length)
/-- The same, and it is ahead. -/
def Lt1 (l : List GTok) (s s' : PS) : Prop := s'.ok = true → s.ok = true ∧ s.at_ < s'.at_ ∧ s'.at_ ≤ l.length
theorem Le1.refl (s : PS) : Le1 l s s := fun h => ⟨h, Nat.le_refl _, .inl rfl⟩
theorem Lt1.le {s s' : PS} (h : Lt1 l s s') : Le1 l s s' := fun hk => let ⟨a, b, c⟩ := h hk; ⟨a, by omega, .inr c⟩
theorem Le1.trans {a b c : PS} (h : Le1 l a b) (k : Le1 l b c) : Le1 l a c := fun hk => by
  obtain ⟨h1, h2, h3⟩ := k hk
  obtain ⟨k1, k2, k3⟩ := h h1
  exact ⟨k1, by omega, by omega⟩
theorem Lt1.trans_le {a b c : PS} (h : Lt1 l a b) (k : Le1 l b c) : Lt1 l a c := fun hk => by
  obtain ⟨h1, h2, h3⟩ := k hk
  obtain ⟨k1, k2, k3⟩ := h h1
  exact ⟨k1, by omega, by omega⟩
theorem Le1.trans_lt {a b c : PS} (h : Le1 l a b) (k : Lt1 l b c) : Lt1 l a c := fun hk => by
  obtain ⟨h1, h2, h3⟩ := k hk
  obtain ⟨k1, k2, k3⟩ := h h1
  exact ⟨k1, by omega, by omega⟩
theorem tk_some {s : PS} {x : GTok} (h : tk l s = some x) : s.f = none ∧ s.ok = true ∧ s.at_ < l.length ∧ l.getD s.at_ default = x := by
  unfold tk at h
  split at h
  · rename_i hf
    refine ⟨hf, by simp [PS.ok, hf], (List.getElem?_eq_some_iff.1 h).1, ?_⟩
    rw [List.getD_eq_getElem?_getD, h]; rfl
  · cases h
theorem isT_some {s : PS} {t : List UInt8} (h : isT l s t = true) : ∃ x, tk l s = some x ∧ rightG x = true ∧ x.text = t ∧ x.kind ≠ 1 := by
  unfold isT at h
  cases hk : tk l s with
  | none => simp [hk] at h
  | some x => simp [hk] at h; exact ⟨x, rfl, h.1.1, h.1.2, h.2⟩
theorem isName_some {s : PS} (h : isName l s = true) : ∃ x, tk l s = some x ∧ rightG x = true ∧ x.kind = 0 ∧ keyword x.text = false := by
  unfold isName at h
  cases hk : tk l s with
  | none => simp [hk] at h
  | some x => simp [hk] at h; exact ⟨x, rfl, h.1.1, h.1.2, h.2⟩
theorem isNum_some {s : PS} (h : isNum l s = true) : ∃ x, tk l s = some x ∧ rightG x = true ∧ x.kind = 1 := by
  unfold isNum at h
  cases hk : tk l s with
  | none => simp [hk] at h
  | some x => simp [hk] at h; exact ⟨x, rfl, h.1, h.2⟩
theorem adv_lt {s : PS} {x : GTok} (h : tk l s = some x) : Lt1 l s s.adv := fun _ => by
  obtain ⟨_, h2, h3, _⟩ := tk_some h
  exact ⟨h2, by simp [PS.adv], by simp [PS.adv]; omega⟩
theorem adv_isT {s : PS} {t : List UInt8} (h : isT l s t = true) : Lt1 l s s.adv := let ⟨_, h, _⟩ := isT_some h; adv_lt h
theorem pfail_bad (s : PS) (code : Nat) : (pfail l en s code).ok = false := by
  unfold pfail
  cases h : s.f with
  | none => simp [PS.ok]
  | some q => simp [PS.ok, h]
theorem bad_lt {s s' : PS} (h : s'.ok = false) : Lt1 l s s' := fun hk => by rw [h] at hk; cases hk
theorem need_lt (s : PS) (t : List UInt8) : Lt1 l s (need l en s t) := by
  unfold need
  cases h : isT l s t with
  | true => exact adv_isT h
  | false => exact bad_lt (pfail_bad _ _)
theorem nameP_lt (s : PS) : Lt1 l s (nameP l en s).1 := by
  unfold nameP
  cases h : isName l s with
  | true => obtain ⟨x, h, _⟩ := isName_some h; exact adv_lt h
  | false => exact bad_lt (pfail_bad _ _)
theorem operand_lt (s : PS) : Lt1 l s (operand l en s).1 := by
  unfold operand
  cases h1 : isT l s tNull with
  | true => exact adv_isT h1
  | false =>
  cases h2 : isT l s tTrue with
  | true => exact adv_isT h2
  | false =>
  cases h3 : isT l s tFalse with
  | true => exact adv_isT h3
  | false =>
  cases h4 : isT l s [38] with
  | true => exact (adv_isT h4).trans_le (nameP_lt _).le
  | false =>
  cases h5 : isNum l s with
  | true => obtain ⟨x, h, _⟩ := isNum_some h5; exact adv_lt h
  | false => exact nameP_lt _
theorem listF_le {X : Type} {one : PS → X → PS × X} (h1 : ∀ s x, Lt1 l s (one s x).1) (end_ : List UInt8) : ∀ (n : Nat) (s : PS) (x : X), Le1 l s (listF l en one end_ n s x).1
  | 0, s, x => Le1.refl s
  | n + 1, s, x => by
    unfold listF
    cases s.ok with
    | false => exact Le1.refl s
    | true =>
      simp only
      cases h : isT l (one s x).1 end_ with
      | true => exact ((h1 s x).trans_le (adv_isT h).le).le
      | false => exact ((h1 s x).trans_le (need_lt _ _).le).le.trans (listF_le h1 end_ n _ _)
theorem listP_le {X : Type} {one : PS → X → PS × X} (h1 : ∀ s x, Lt1 l s (one s x).1) (end_ : List UInt8) (s : PS) (x : X) : Le1 l s (listP l en one end_ s x).1 := by
  unfold listP
  cases h : isT l s end_ with
  | true => exact (adv_isT h).le
  | false => exact listF_le h1 _ _ _ _
theorem oneArg_lt (s : PS) (x : List Opd) : Lt1 l s (oneArg l en s x).1 := operand_lt s
theorem oneName_lt (s : PS) (x : List (List UInt8)) : Lt1 l s (oneName l en s x).1 := nameP_lt s
theorem oneProp_lt (s : PS) (x : List (List UInt8) × List Opd) : Lt1 l s (oneProp l en s x).1 := (nameP_lt s).trans_le ((need_lt _ _).trans_le (operand_lt _).le).le
theorem args_lt (s : PS) : Lt1 l s (args l en s).1 := (need_lt _ _).trans_le (listP_le oneArg_lt _ _ _)
theorem names_lt (s : PS) : Lt1 l s (names l en s).1 := (need_lt _ _).trans_le (listP_le oneName_lt _ _ _)
theorem propsP_lt (s : PS) : Lt1 l s (propsP l en s).1 := (need_lt _ _).trans_le (listP_le oneProp_lt _ _ _)
theorem protoP_lt (s : PS) : Lt1 l s (protoP l en s).1 := (need_lt _ _).trans_le (operand_lt _).le
theorem object_lt (s : PS) : Lt1 l s (object l en s).1 := (propsP_lt s).trans_le (protoP_lt _).le
theorem signOf_some {s : PS} {ts : List (List UInt8)} {t : List UInt8} (h : signOf l s ts = some t) : isT l s t = true ∧ t ∈ ts := by
  induction ts with
  | nil => simp [signOf] at h
  | cons u ts ih =>
    unfold signOf at h
    cases hu : isT l s u with
    | true => rw [hu] at h; simp at h; subst h; exact ⟨hu, by simp⟩
    | false => rw [hu] at h; obtain ⟨h1, h2⟩ := ih h; exact ⟨h1, by simp [h2]⟩
theorem rest_le (s : PS) (o : Opd) : Le1 l s (rest l en s o).1 := by
  unfold rest
  cases h : signOf l s arith with
  | some t => exact ((adv_isT (signOf_some h).1).trans_le (operand_lt _).le).le
  | none =>
    simp only
    cases h1 : decide (o.kind = 4) && isT l s [40] with
    | true => exact (args_lt s).le
    | false =>
      simp only
      cases h2 : decide (o.kind = 4) && isT l s [46] with
      | true =>
        rw [Bool.and_eq_true] at h2
        exact ((adv_isT h2.2).trans_le (nameP_lt _).le).le
      | false => exact Le1.refl s
theorem value_lt (s : PS) : Lt1 l s (value l en s).1 := by
  unfold value
  cases h1 : isT l s tIn with
  | true => exact adv_isT h1
  | false =>
  cases h2 : isT l s tCall with
  | true => exact (adv_isT h2).trans_le ((nameP_lt _).trans_le (args_lt _).le).le
  | false =>
  cases h3 : isT l s tNew with
  | true => exact (adv_isT h3).trans_le (object_lt _).le
  | false => exact (operand_lt _).trans_le (rest_le _ _)
theorem assign_lt (s : PS) : Lt1 l s (assign l en s).1 := by
  unfold assign
  cases h1 : isT l (nameP l en s).1 [46] with
  | true => exact (nameP_lt s).trans_le ((adv_isT h1).trans_le ((nameP_lt _).trans_le ((need_lt _ _).trans_le (operand_lt _).le).le).le).le
  | false => exact (nameP_lt s).trans_le ((need_lt _ _).trans_le (value_lt _).le).le
theorem simple_lt (s : PS) : Lt1 l s (simple l en s).1 := by
  unfold simple
  cases h1 : isT l s tOut with
  | true => exact (adv_isT h1).trans_le (operand_lt _).le
  | false =>
  cases h2 : isT l s tReturn with
  | true => exact (adv_isT h2).trans_le (operand_lt _).le
  | false => exact assign_lt s
theorem isT_count (s : PS) (t : List UInt8) : isT l s.count t = isT l s t := rfl
theorem count_lt {s s' : PS} (h : Lt1 l s.count s') : Lt1 l s s' := h
/-- How far it is to the end. -/
def rem (l : List GTok) (s : PS) : Nat := if s.ok = true then l.length - s.at_ else 0
theorem rem_lt {s s' : PS} (h : Lt1 l s s') : rem l s' ≤ rem l s ∧ (s.ok = true → s.at_ < l.length → rem l s' + 1 ≤ rem l s) := by
  unfold rem
  by_cases hk : s'.ok = true
  · obtain ⟨h1, h2, h3⟩ := h hk
    rw [if_pos hk, if_pos h1]; omega
  · rw [if_neg hk]
    refine ⟨by omega, fun h1 h2 => ?_⟩
    rw [if_pos h1]; omega
theorem blocks_lt : ∀ (n : Nat), (∀ s deep, Lt1 l s (stmtF l en n s deep).1) ∧ (∀ s deep, Lt1 l s (blockF l en n s deep).1) ∧ (∀ s deep acc, Lt1 l s (bodyF l en n s deep acc).1) := by
  intro n
  induction n with
  | zero => exact ⟨fun s _ => bad_lt (pfail_bad _ _), fun s _ => bad_lt (pfail_bad _ _), fun s _ _ => bad_lt (pfail_bad _ _)⟩
  | succ n ih =>
    obtain ⟨ih1, ih2, ih3⟩ := ih
    refine ⟨fun s deep => ?_, fun s deep => ?_, fun s deep acc => ?_⟩
    · unfold stmtF
      cases starts l s with
      | false => exact bad_lt (pfail_bad _ _)
      | true =>
      cases decide (2000 ≤ s.cnt) with
      | true => exact bad_lt (pfail_bad _ _)
      | false =>
      cases h1 : isT l s tIf with
      | true =>
        have h2 : Lt1 l s (blockF l en n (operand l en s.count.adv).1 deep).1 := (count_lt (adv_isT (s := s.count) h1)).trans_le ((operand_lt _).trans_le (ih2 _ _).le).le
        simp only
        cases h3 : isT l (blockF l en n (operand l en s.count.adv).1 deep).1 tElse with
        | true => exact h2.trans_le ((adv_isT h3).trans_le (ih2 _ _).le).le
        | false => exact h2
      | false =>
      cases h2 : isT l s tWhile with
      | true => exact (count_lt (adv_isT (s := s.count) h2)).trans_le ((operand_lt _).trans_le (ih2 _ _).le).le
      | false => exact (count_lt (simple_lt s.count)).trans_le (need_lt _ _).le
    · unfold blockF
      cases isT l s [123] && decide (32 ≤ deep) with
      | true => exact bad_lt (pfail_bad _ _)
      | false => exact (need_lt _ _).trans_le (ih3 _ _ _).le
    · unfold bodyF
      cases s.ok && !isT l s [125] with
      | true => exact (ih1 _ _).trans_le (ih3 _ _ _).le
      | false => exact need_lt _ _
theorem stmtF_lt (n : Nat) (s : PS) (deep : Nat) : Lt1 l s (stmtF l en n s deep).1 := (blocks_lt n).1 s deep
theorem blockF_lt (n : Nat) (s : PS) (deep : Nat) : Lt1 l s (blockF l en n s deep).1 := (blocks_lt n).2.1 s deep
theorem bodyF_lt (n : Nat) (s : PS) (deep : Nat) (acc : List GStmt) : Lt1 l s (bodyF l en n s deep acc).1 := (blocks_lt n).2.2 s deep acc
theorem funcP_lt (s : PS) : Lt1 l s (funcP l en s).1 := (need_lt _ _).trans_le ((nameP_lt _).trans_le ((names_lt _).trans_le (blockF_lt _ _ _).le).le).le
end
end Go.Proofs.YtghhkbigmmjanaaDoor.VA

/-! Pc0 -/
namespace Go.Proofs.YtghhkbigmmjanaaDoor.VA
open Go Go.RowKit
set_option linter.unusedSimpArgs false

/-! ### what a call leaves alone -/
/-- All but one box stays as it was. -/
def Adv (r : Nat) (H H' : Heap) : Prop := H.next ≤ H'.next ∧ ∀ k, k < H.next → k ≠ r → H'.get k = H.get k ∧ H'.isLive k = H.isLive k
theorem Adv.refl (r : Nat) (H : Heap) : Adv r H H := ⟨Nat.le_refl _, fun _ _ _ => ⟨rfl, rfl⟩⟩
theorem Adv.trans {r : Nat} {H H1 H2 : Heap} (h : Adv r H H1) (k : Adv r H1 H2) : Adv r H H2 :=
  ⟨Nat.le_trans h.1 k.1, fun x hx hr => ⟨(k.2 x (Nat.lt_of_lt_of_le hx h.1) hr).1.trans (h.2 x hx hr).1, (k.2 x (Nat.lt_of_lt_of_le hx h.1) hr).2.trans (h.2 x hx hr).2⟩⟩
theorem Adv.up {r : Nat} {H H1 : Heap} (h : Adv r H H1) (n : Nat) : Adv r H (H1.up n) := ⟨Nat.le_trans h.1 (Nat.le_add_right _ _), h.2⟩
theorem Adv.put {r : Nat} {H H1 : Heap} (h : Adv r H H1) (cs : List AV) : Adv r H (H1.put r cs) :=
  ⟨h.1, fun k hk hr => ⟨by rw [Heap.get_put, if_neg (Ne.symm hr)]; exact (h.2 k hk hr).1, (h.2 k hk hr).2⟩⟩
theorem Adv.new {r : Nat} {H H1 : Heap} (h : Adv r H H1) {b : Nat} (hb : H.next ≤ b) (cs : List AV) : Adv r H (H1.put b cs) :=
  ⟨h.1, fun k hk hr => ⟨by rw [Heap.get_put, if_neg (by omega)]; exact (h.2 k hk hr).1, (h.2 k hk hr).2⟩⟩
theorem Adv.live {r : Nat} {H H1 : Heap} (h : Adv r H H1) {b : Nat} (hb : H.next ≤ b) (x : Bool) : Adv r H (H1.setLive b x) :=
  ⟨h.1, fun k hk hr => ⟨(h.2 k hk hr).1, by rw [Heap.isLive_setLive, if_neg (by omega)]; exact (h.2 k hk hr).2⟩⟩
theorem Adv.owns {r : Nat} {H H1 : Heap} (h : Adv r H H1) {o : Own} {b : Nat} (hb : H.next ≤ b) (ho : ∀ s e z, o = .own s e z → H.next ≤ s) : Adv r H (appU H1 (ownUs o b)) := by
  cases o with
  | own s e z => exact (h.live (ho s e z rfl) false).live hb true
  | nil => exact h.live hb true
  | sh => exact h.live hb true
  | ex => exact h.live hb true
theorem Adv.get {r : Nat} {H H' : Heap} (h : Adv r H H') {k : Nat} (hk : k < H.next) (hr : k ≠ r) : H'.get k = H.get k := (h.2 k hk hr).1
theorem Adv.keeps {r : Nat} {H H' : Heap} (h : Adv r H H') {k : Nat} (hk : k < H.next) (hr : k ≠ r) : Keeps H H' k := ⟨(h.2 k hk hr).1.symm, (h.2 k hk hr).2.symm⟩
/-- What a function may append to in place is its own, and below a bound. -/
def OwnB (H : Heap) (o : Own) (e : TypeId) (sz lo : Nat) : Prop :=
  match o with
  | .nil => True
  | .own s e' z => e' = e ∧ z = sz ∧ H.isLive s = true ∧ lo ≤ s ∧ s < H.next
  | _ => False
theorem OwnB.ok {H : Heap} {o : Own} {e : TypeId} {sz lo : Nat} (h : OwnB H o e sz lo) : OwnOk H o e sz := by
  cases o with
  | nil => trivial
  | own s e' z => exact ⟨h.1, h.2.1, h.2.2.1⟩
  | sh => exact h.elim
  | ex => exact h.elim
theorem OwnB.lo {H : Heap} {o : Own} {e : TypeId} {sz lo : Nat} (h : OwnB H o e sz lo) : ∀ s e z, o = .own s e z → lo ≤ s := by
  rintro s e' z rfl
  exact h.2.2.2.1
theorem OwnB.adv {H H' : Heap} {o : Own} {e : TypeId} {sz lo r : Nat} (h : OwnB H o e sz lo) (a : Adv r H H') (hr : r < lo) : OwnB H' o e sz lo := by
  cases o with
  | nil => trivial
  | own s e' z =>
    obtain ⟨h1, h2, h3, h4, h5⟩ := h
    exact ⟨h1, h2, by rw [(a.2 s h5 (by omega)).2]; exact h3, h4, Nat.lt_of_lt_of_le h5 a.1⟩
  | sh => exact h.elim
  | ex => exact h.elim
theorem OwnB.nil (H : Heap) (e : TypeId) (sz lo : Nat) : OwnB H .nil e sz lo := trivial
/-- After appending. -/
theorem OwnB.app (H : Heap) (o : Own) (b : Nat) (e : TypeId) (sz lo : Nat) (h1 : lo ≤ b) (h2 : b < H.next) : OwnB (appU H (ownUs o b)) (.own b e sz) e sz lo :=
  ⟨rfl, rfl, by cases o <;> simp [ownUs, appU, U.app], h1, by rw [ownUs_next]; exact h2⟩
theorem OwnB.put {H : Heap} {o : Own} {e : TypeId} {sz lo : Nat} (h : OwnB H o e sz lo) (b : Nat) (cs : List AV) : OwnB (H.put b cs) o e sz lo := by
  cases o with
  | own s e' z => exact h
  | _ => exact h
theorem OwnB.up {H : Heap} {o : Own} {e : TypeId} {sz lo : Nat} (h : OwnB H o e sz lo) (n : Nat) : OwnB (H.up n) o e sz lo := by
  cases o with
  | own s e' z => exact ⟨h.1, h.2.1, h.2.2.1, h.2.2.2.1, Nat.lt_of_lt_of_le h.2.2.2.2 (Nat.le_add_right _ _)⟩
  | _ => exact h

/-! ### calls that may panic -/
/-- What a call comes to: a value, and what one box then holds; or a panic. -/
inductive Out where
  | ok (v : AV) (cs : List AV)
  | bad (v : AV)
def PCall (P : Program) (c : Cfg) (r : Nat) (f : FuncId) (args : List AV) (H : Heap) : Out → Prop
  | .ok v cs => ∃ H', calls P c f args H = some (.ret v H') ∧ H'.get r = some cs ∧ Adv r H H'
  | .bad v => ∃ H', calls P c f args H = some (.pan v H') ∧ Adv r H H'
def PQ (P : Program) (r : Nat) (rs : List ResultVar) (H0 : Heap) : Out → Post
  | .ok v cs => fun x e H => match x with
    | .nrm | .ret => (∃ vs, aResults P e H rs = some vs ∧ san (oneOr vs) = v) ∧ H.get r = some cs ∧ Adv r H0 H
    | _ => False
  | .bad v => fun x _ H => match x with
    | .pan u => san u = v ∧ Adv r H0 H
    | _ => False
section
variable {P : Program} {c : Cfg} {r : Nat} {rs : List ResultVar} {H0 H : Heap} {e : List AV} {v : AV} {cs : List AV}
@[go_sem] theorem PQ_nrm : PQ P r rs H0 (.ok v cs) .nrm e H = ((∃ vs, aResults P e H rs = some vs ∧ san (oneOr vs) = v) ∧ H.get r = some cs ∧ Adv r H0 H) := rfl
@[go_sem] theorem PQ_ret : PQ P r rs H0 (.ok v cs) .ret e H = ((∃ vs, aResults P e H rs = some vs ∧ san (oneOr vs) = v) ∧ H.get r = some cs ∧ Adv r H0 H) := rfl
@[go_sem] theorem PQ_pan {u : AV} : PQ P r rs H0 (.bad v) (.pan u) e H = (san u = v ∧ Adv r H0 H) := rfl
theorem PCall_of {f : FuncId} {fn : Func} {code : Code} {args : List AV} {q : Out} (ht : c.told f = none) (hf : c.fn f = some fn) (hi : c.imp f = true) (hb : fn.body = some code) (hn : Nat.ble args.length fn.ntmps = true)
    (h : W P c code [] args H (PQ P r fn.results.toList H q)) : PCall P c r f args H q := by
  obtain ⟨x, e1, H1, hx, hq⟩ := h
  rw [Fin_nil] at hq
  have hn' := Nat.le_of_ble_eq_true hn
  cases q with
  | ok v cs =>
    have hx2 : x = .nrm ∨ x = .ret := by cases x <;> first | exact .inl rfl | exact .inr rfl | exact hq.elim
    have hq2 : (∃ vs, aResults P e1 H1 fn.results.toList = some vs ∧ san (oneOr vs) = v) ∧ H1.get r = some cs ∧ Adv r H H1 := by rcases hx2 with rfl | rfl <;> exact hq
    obtain ⟨⟨vs, hv, hs⟩, h2, h3⟩ := hq2
    obtain ⟨k, hk⟩ := runFn_of_XS hb hn' hx hx2 hv
    exact ⟨H1, calls_iff.2 ⟨k + 1, by simp only [call, ht, hf, hi, hk, hs]⟩, h2, h3⟩
  | bad v =>
    cases x with
    | pan u =>
      obtain ⟨k, hk⟩ := runFn_of_pan hb hn' hx
      have hq' : san u = v ∧ Adv r H H1 := hq
      exact ⟨H1, calls_iff.2 ⟨k + 1, by simp only [call, ht, hf, hi, hk, hq'.1]⟩, hq'.2⟩
    | nrm => exact hq.elim
    | ret => exact hq.elim
    | exit j => exact hq.elim
theorem PCall.ok {f : FuncId} {args : List AV} (h : PCall P c r f args H (.ok v cs)) : ∃ H', calls P c f args H = some (.ret v H') ∧ H'.get r = some cs ∧ Adv r H H' := h
theorem PCall.bad {f : FuncId} {args : List AV} (h : PCall P c r f args H (.bad v)) : ∃ H', calls P c f args H = some (.pan v H') ∧ Adv r H H' := h
variable {st : List Fr} {Q : Post} {ds : List (Option Tmp)} {base : Nat} {dst : Option Tmp} {os : List Oper} {i : Nat} {f : FuncId} {args : List AV}
theorem goC_ok (h : PCall P c r f args H (.ok v cs)) (k : ∀ H', H'.get r = some cs → Adv r H H' → WO P c ds base os i st (aput e dst v) H' Q) : goC P c (calls P c f args H) ds base dst os i st e Q := by
  obtain ⟨H', h1, h2, h3⟩ := h.ok
  rw [h1]; exact k H' h2 h3
theorem goC_bad (h : PCall P c r f args H (.bad v)) (k : ∀ H', Adv r H H' → Fin P c st (.pan v) e H' Q) : goC P c (calls P c f args H) ds base dst os i st e Q := by
  obtain ⟨H', h1, h2⟩ := h.bad
  rw [h1]; exact k H' h2
variable {un : List (Nat × Nat)} {dd : List (List Nat)} {tr : List Tr}
theorem eK_ok (hi : c.imp f = true) (h : PCall P c r f args H (.ok v cs)) (k : ∀ H', H'.get r = some cs → Adv r H H' → WE P c un ds dd base st Q os (i + 1) (tr ++ [.call v H H']) (aput e dst v) H') :
    eK P c (calls P c f args H) (c.imp f) un ds dd base st Q dst os i tr e H := by
  obtain ⟨H', h1, h2, h3⟩ := h.ok
  rw [h1, hi]; exact k H' h2 h3
theorem eK_bad (hi : c.imp f = true) (h : PCall P c r f args H (.bad v)) (k : ∀ H', Adv r H H' → WX P c un ds (gget [] dd i) base st v H' Q os (i + 1) (tr ++ [.pan]) e H) :
    eK P c (calls P c f args H) (c.imp f) un ds dd base st Q dst os i tr e H := by
  obtain ⟨H', h1, h2⟩ := h.bad
  rw [h1, hi]; exact k H' h2
end
end Go.Proofs.YtghhkbigmmjanaaDoor.VA

/-! Pf -/
namespace Go.Proofs.YtghhkbigmmjanaaDoor.VA
open Go Go.RowKit
set_option linter.unusedSimpArgs false
set_option maxRecDepth 100000

@[go_sem] theorem fl_st0 : tField Tryd.prog 54 0 = some (0, 1, false) := by kernel_rfl
@[go_sem] theorem fl_st1 : tField Tryd.prog 54 1 = some (1, 1, false) := by kernel_rfl
@[go_sem] theorem fl_st2 : tField Tryd.prog 54 2 = some (2, 1, false) := by kernel_rfl
@[go_sem] theorem fl_st3 : tField Tryd.prog 54 3 = some (3, 1, false) := by kernel_rfl
@[go_sem] theorem fl_st4 : tField Tryd.prog 54 4 = some (4, 2, true) := by kernel_rfl
@[go_sem] theorem bl_st : tBuild Tryd.prog 54 = some ([(0, 1), (1, 1), (2, 1), (3, 1), (4, 2)], [.sl .nil [], .lit (.int .i64 0), .lit (.int .i64 0), .lit (.int .i64 0), .lit (.int .i64 0), .lit (.int .i64 0)]) := by kernel_rfl
@[go_sem] theorem zr_st : tZero Tryd.prog 54 = some [.sl .nil [], .lit (.int .i64 0), .lit (.int .i64 0), .lit (.int .i64 0), .lit (.int .i64 0), .lit (.int .i64 0)] := by kernel_rfl
@[go_sem] theorem sz_st : tSize Tryd.prog 54 = some 6 := by kernel_rfl
@[go_sem] theorem ag_st : tAgg Tryd.prog 54 = some true := by kernel_rfl
@[go_sem] theorem fl_opd0 : tField Tryd.prog 67 0 = some (0, 1, false) := by kernel_rfl
@[go_sem] theorem fl_opd1 : tField Tryd.prog 67 1 = some (1, 1, false) := by kernel_rfl
@[go_sem] theorem fl_opd2 : tField Tryd.prog 67 2 = some (2, 1, false) := by kernel_rfl
@[go_sem] theorem bl_opd : tBuild Tryd.prog 67 = some ([(0, 1), (1, 1), (2, 1)], [.lit (.int .i64 0), .lit (.int .i64 0), .lit (.string ⟨#[]⟩)]) := by kernel_rfl
@[go_sem] theorem zr_opd : tZero Tryd.prog 67 = some [.lit (.int .i64 0), .lit (.int .i64 0), .lit (.string ⟨#[]⟩)] := by kernel_rfl
@[go_sem] theorem sz_opd : tSize Tryd.prog 67 = some 3 := by kernel_rfl
@[go_sem] theorem ag_opd : tAgg Tryd.prog 67 = some true := by kernel_rfl
@[go_sem] theorem fl_stm0 : tField Tryd.prog 65 0 = some (0, 1, false) := by kernel_rfl
@[go_sem] theorem fl_stm1 : tField Tryd.prog 65 1 = some (1, 1, false) := by kernel_rfl
@[go_sem] theorem fl_stm2 : tField Tryd.prog 65 2 = some (2, 1, false) := by kernel_rfl
@[go_sem] theorem fl_stm3 : tField Tryd.prog 65 3 = some (3, 1, false) := by kernel_rfl
@[go_sem] theorem fl_stm4 : tField Tryd.prog 65 4 = some (4, 1, false) := by kernel_rfl
@[go_sem] theorem fl_stm5 : tField Tryd.prog 65 5 = some (5, 1, false) := by kernel_rfl
@[go_sem] theorem fl_stm6 : tField Tryd.prog 65 6 = some (6, 1, false) := by kernel_rfl
@[go_sem] theorem fl_stm7 : tField Tryd.prog 65 7 = some (7, 1, false) := by kernel_rfl
@[go_sem] theorem bl_stm : tBuild Tryd.prog 65 = some ([(0, 1), (1, 1), (2, 1), (3, 1), (4, 1), (5, 1), (6, 1), (7, 1)], [.lit (.int .i64 0), .lit (.string ⟨#[]⟩), .lit (.string ⟨#[]⟩), .lit (.string ⟨#[]⟩), .sl .nil [], .sl .nil [], .sl .nil [], .sl .nil []]) := by kernel_rfl
@[go_sem] theorem zr_stm : tZero Tryd.prog 65 = some [.lit (.int .i64 0), .lit (.string ⟨#[]⟩), .lit (.string ⟨#[]⟩), .lit (.string ⟨#[]⟩), .sl .nil [], .sl .nil [], .sl .nil [], .sl .nil []] := by kernel_rfl
@[go_sem] theorem sz_stm : tSize Tryd.prog 65 = some 8 := by kernel_rfl
@[go_sem] theorem ag_stm : tAgg Tryd.prog 65 = some true := by kernel_rfl
@[go_sem] theorem fl_fun0 : tField Tryd.prog 44 0 = some (0, 1, false) := by kernel_rfl
@[go_sem] theorem fl_fun1 : tField Tryd.prog 44 1 = some (1, 1, false) := by kernel_rfl
@[go_sem] theorem fl_fun2 : tField Tryd.prog 44 2 = some (2, 1, false) := by kernel_rfl
@[go_sem] theorem bl_fun : tBuild Tryd.prog 44 = some ([(0, 1), (1, 1), (2, 1)], [.lit (.string ⟨#[]⟩), .sl .nil [], .sl .nil []]) := by kernel_rfl
@[go_sem] theorem zr_fun : tZero Tryd.prog 44 = some [.lit (.string ⟨#[]⟩), .sl .nil [], .sl .nil []] := by kernel_rfl
@[go_sem] theorem sz_fun : tSize Tryd.prog 44 = some 3 := by kernel_rfl
@[go_sem] theorem ag_fun : tAgg Tryd.prog 44 = some true := by kernel_rfl
@[go_sem] theorem fl_prg0 : tField Tryd.prog 25 0 = some (0, 1, false) := by kernel_rfl
@[go_sem] theorem bl_prg : tBuild Tryd.prog 25 = some ([(0, 1)], [.sl .nil []]) := by kernel_rfl
@[go_sem] theorem zr_prg : tZero Tryd.prog 25 = some [.sl .nil []] := by kernel_rfl
@[go_sem] theorem sz_prg : tSize Tryd.prog 25 = some 1 := by kernel_rfl
@[go_sem] theorem ag_prg : tAgg Tryd.prog 25 = some true := by kernel_rfl
@[go_sem] theorem fl_par0 : tField Tryd.prog 51 0 = some (0, 1, false) := by kernel_rfl
@[go_sem] theorem fl_par1 : tField Tryd.prog 51 1 = some (1, 1, false) := by kernel_rfl
@[go_sem] theorem fl_par2 : tField Tryd.prog 51 2 = some (2, 1, false) := by kernel_rfl
@[go_sem] theorem fl_par3 : tField Tryd.prog 51 3 = some (3, 1, false) := by kernel_rfl
@[go_sem] theorem bl_par : tBuild Tryd.prog 51 = some ([(0, 1), (1, 1), (2, 1), (3, 1)], [.sl .nil [], .lit (.int .i64 0), .lit (.int .i64 0), .lit (.int .i64 0)]) := by kernel_rfl
@[go_sem] theorem zr_par : tZero Tryd.prog 51 = some [.sl .nil [], .lit (.int .i64 0), .lit (.int .i64 0), .lit (.int .i64 0)] := by kernel_rfl
@[go_sem] theorem sz_par : tSize Tryd.prog 51 = some 4 := by kernel_rfl
@[go_sem] theorem ag_par : tAgg Tryd.prog 51 = some true := by kernel_rfl
@[go_sem] theorem fl_tro0 : tField Tryd.prog 47 0 = some (0, 2, true) := by kernel_rfl
@[go_sem] theorem bl_tro : tBuild Tryd.prog 47 = some ([(0, 2)], [.lit (.int .i64 0), .lit (.int .i64 0)]) := by kernel_rfl
@[go_sem] theorem zr_tro : tZero Tryd.prog 47 = some [.lit (.int .i64 0), .lit (.int .i64 0)] := by kernel_rfl
@[go_sem] theorem sz_tro : tSize Tryd.prog 47 = some 2 := by kernel_rfl
@[go_sem] theorem ag_tro : tAgg Tryd.prog 47 = some true := by kernel_rfl
@[go_sem] theorem el_sOpd : tElem Tryd.prog 63 = some (67, 3, 32) := by kernel_rfl
@[go_sem] theorem zo_sOpd : zeroOk Tryd.prog 67 3 = true := by kernel_rfl
@[go_sem] theorem el_sStm : tElem Tryd.prog 42 = some (65, 8, 152) := by kernel_rfl
@[go_sem] theorem zo_sStm : zeroOk Tryd.prog 65 8 = true := by kernel_rfl
@[go_sem] theorem el_sFun : tElem Tryd.prog 23 = some (44, 3, 64) := by kernel_rfl
@[go_sem] theorem zo_sFun : zeroOk Tryd.prog 44 3 = true := by kernel_rfl
@[go_sem] theorem sz_sTok : tSize Tryd.prog 22 = some 1 := by kernel_rfl
@[go_sem] theorem ag_sTok : tAgg Tryd.prog 22 = some false := by kernel_rfl
@[go_sem] theorem zr_sTok : tZero Tryd.prog 22 = some [.sl .nil []] := by kernel_rfl
@[go_sem] theorem sz_sStr : tSize Tryd.prog 41 = some 1 := by kernel_rfl
@[go_sem] theorem ag_sStr : tAgg Tryd.prog 41 = some false := by kernel_rfl
@[go_sem] theorem zr_sStr : tZero Tryd.prog 41 = some [.sl .nil []] := by kernel_rfl
@[go_sem] theorem sz_sOpd : tSize Tryd.prog 63 = some 1 := by kernel_rfl
@[go_sem] theorem ag_sOpd : tAgg Tryd.prog 63 = some false := by kernel_rfl
@[go_sem] theorem zr_sOpd : tZero Tryd.prog 63 = some [.sl .nil []] := by kernel_rfl
@[go_sem] theorem sz_sStm : tSize Tryd.prog 42 = some 1 := by kernel_rfl
@[go_sem] theorem ag_sStm : tAgg Tryd.prog 42 = some false := by kernel_rfl
@[go_sem] theorem zr_sStm : tZero Tryd.prog 42 = some [.sl .nil []] := by kernel_rfl
@[go_sem] theorem sz_sFun : tSize Tryd.prog 23 = some 1 := by kernel_rfl
@[go_sem] theorem ag_sFun : tAgg Tryd.prog 23 = some false := by kernel_rfl
@[go_sem] theorem zr_sFun : tZero Tryd.prog 23 = some [.sl .nil []] := by kernel_rfl
@[go_sem] theorem sz_pPar : tSize Tryd.prog 49 = some 1 := by kernel_rfl
@[go_sem] theorem ag_pPar : tAgg Tryd.prog 49 = some false := by kernel_rfl
@[go_sem] theorem zr_pPar : tZero Tryd.prog 49 = some [.lit (.pointer none)] := by kernel_rfl

/-! ### cells of a list, by place -/
def fcode (s : PS) : Nat := match s.f with | none => 0 | some (c, _) => c + 20
def fat (s : PS) : Int := match s.f with | none => 0 | some (_, a) => a
/-- The reference's state. -/
def cS (l : List GTok) (en : Int) (s : PS) : List AV :=
  [.sl .sh (l.map encG), .lit (.int .i64 (s.at_ : Nat)), .lit (.int .i64 en), .lit (.int .i64 (s.cnt : Nat)), .lit (.int .i64 (fcode s : Nat)), .lit (.int .i64 (fat s))]
/-- The parser's. -/
def cP (l : List GTok) (en : Int) (s : PS) : List AV := [.sl .sh (l.map encG), .lit (.int .i64 (s.at_ : Nat)), .lit (.int .i64 en), .lit (.int .i64 (s.cnt : Nat))]
section
variable {l : List GTok} {en : Int} (s : PS)
@[go_sem] theorem cS_len : (cS l en s).length = 6 := rfl
@[go_sem] theorem cS_one : (cS l en s).all AV.one = true := rfl
@[go_sem] theorem cS_take : (cS l en s).take 6 = cS l en s := rfl
@[go_sem] theorem cS_drop : (cS l en s).drop 6 = [] := rfl
@[go_sem] theorem cS_app : cS l en s ++ [] = cS l en s := rfl
@[go_sem] theorem cS_san : sanL (cS l en s) = cS l en s := by simp only [cS, go_sem]
@[go_sem] theorem cS_0 : (cS l en s)[0]? = some (.sl .sh (l.map encG)) := rfl
@[go_sem] theorem cS_1 : (cS l en s)[1]? = some (.lit (.int .i64 (s.at_ : Nat))) := rfl
@[go_sem] theorem cS_2 : (cS l en s)[2]? = some (.lit (.int .i64 en)) := rfl
@[go_sem] theorem cS_3 : (cS l en s)[3]? = some (.lit (.int .i64 (s.cnt : Nat))) := rfl
@[go_sem] theorem cS_4 : (cS l en s)[4]? = some (.lit (.int .i64 (fcode s : Nat))) := rfl
@[go_sem] theorem cS_F : ((cS l en s).drop 4).take 2 = [.lit (.int .i64 (fcode s : Nat)), .lit (.int .i64 (fat s))] := rfl
/-- One token taken. -/
@[go_sem] theorem cS_adv : (cS l en s).take 1 ++ .lit (.int .i64 ((s.at_ + 1 : Nat) : Int)) :: (cS l en s).drop 2 = cS l en s.adv := rfl
@[go_sem] theorem cS_count : (cS l en s).take 3 ++ .lit (.int .i64 ((s.cnt + 1 : Nat) : Int)) :: (cS l en s).drop 4 = cS l en s.count := rfl
@[go_sem] theorem cP_len : (cP l en s).length = 4 := rfl
@[go_sem] theorem cP_one : (cP l en s).all AV.one = true := rfl
@[go_sem] theorem cP_take : (cP l en s).take 4 = cP l en s := rfl
@[go_sem] theorem cP_0 : (cP l en s)[0]? = some (.sl .sh (l.map encG)) := rfl
@[go_sem] theorem cP_1 : (cP l en s)[1]? = some (.lit (.int .i64 (s.at_ : Nat))) := rfl
@[go_sem] theorem cP_2 : (cP l en s)[2]? = some (.lit (.int .i64 en)) := rfl
@[go_sem] theorem cP_3 : (cP l en s)[3]? = some (.lit (.int .i64 (s.cnt : Nat))) := rfl
@[go_sem] theorem cP_adv : (cP l en s).take 1 ++ .lit (.int .i64 ((s.at_ + 1 : Nat) : Int)) :: (cP l en s).drop 2 = cP l en s.adv := rfl
@[go_sem] theorem cP_count : (cP l en s).take 3 ++ .lit (.int .i64 ((s.cnt + 1 : Nat) : Int)) :: (cP l en s).drop 4 = cP l en s.count := rfl
end
@[go_sem] theorem eO_len (o : Opd) : (encOpd o).length = 3 := rfl
@[go_sem] theorem eO_one (o : Opd) : (encOpd o).all AV.one = true := rfl
@[go_sem] theorem eO_take (o : Opd) : (encOpd o).take 3 = encOpd o := rfl
@[go_sem] theorem eO_drop (o : Opd) : (encOpd o).drop 3 = [] := rfl
@[go_sem] theorem eO_app (o : Opd) : encOpd o ++ [] = encOpd o := rfl
@[go_sem] theorem eO_0 (o : Opd) : (encOpd o)[0]? = some (.lit (.int .i64 (o.kind : Nat))) := rfl
@[go_sem] theorem eO_2 (o : Opd) : (encOpd o)[2]? = some (.lit (.string (ba o.name))) := rfl
@[go_sem] theorem eM_len (s : GStmt) : (encStmt s).length = 8 := by cases s; simp [encStmt]
@[go_sem] theorem eM_one (s : GStmt) : (encStmt s).all AV.one = true := by cases s; simp [encStmt, AV.one, Value.oneCell']
@[go_sem] theorem eM_take (s : GStmt) : (encStmt s).take 8 = encStmt s := by cases s; simp [encStmt]
@[go_sem] theorem eM_drop (s : GStmt) : (encStmt s).drop 8 = [] := by cases s; simp [encStmt]
@[go_sem] theorem eM_app (s : GStmt) : encStmt s ++ [] = encStmt s := by simp
/-- The variable set. -/
@[go_sem] theorem eM_setX (s : GStmt) (x : List UInt8) : (encStmt s).take 1 ++ .lit (.string (ba x)) :: (encStmt s).drop 2 = encStmt (s.setX x) := by cases s; simp [encStmt, GStmt.setX]
@[go_sem] theorem eF_len (f : GFunc) : (encFunc f).length = 3 := rfl
@[go_sem] theorem eF_one (f : GFunc) : (encFunc f).all AV.one = true := rfl
@[go_sem] theorem eF_take (f : GFunc) : (encFunc f).take 3 = encFunc f := rfl
@[go_sem] theorem eF_drop (f : GFunc) : (encFunc f).drop 3 = [] := rfl
@[go_sem] theorem eF_app (f : GFunc) : encFunc f ++ [] = encFunc f := rfl
theorem bs1_opd (o : Opd) : aBuildSlice Tryd.prog 63 1 [(0, .agg (encOpd o))] = some (.sl .ex [encOpd o]) := build1 el_sOpd (by decide) zr_opd rfl rfl _ rfl rfl
theorem bs1_stm (s : GStmt) : aBuildSlice Tryd.prog 42 1 [(0, .agg (encStmt s))] = some (.sl .ex [encStmt s]) := build1 el_sStm (by decide) zr_stm rfl rfl _ (eM_len s) (eM_one s)
theorem bs1_fun (f : GFunc) : aBuildSlice Tryd.prog 23 1 [(0, .agg (encFunc f))] = some (.sl .ex [encFunc f]) := build1 el_sFun (by decide) zr_fun rfl rfl _ rfl rfl
theorem bs1_str (t : List UInt8) : aBuildSlice Tryd.prog 41 1 [(0, .lit (.string (ba t)))] = some (.sl .ex [encStr t]) := build1 (z := [.lit (.string ⟨#[]⟩)]) el_str (by decide) (by kernel_rfl) rfl rfl _ rfl rfl
attribute [go_sem] bs1_opd bs1_stm bs1_fun bs1_str
end Go.Proofs.YtghhkbigmmjanaaDoor.VA

/-! Lp0 -/
namespace Go.Proofs.YtghhkbigmmjanaaDoor.VA
open Go Go.RowKit
set_option linter.unusedSimpArgs false

theorem lexF_len : ∀ (n : Nat) (l : List UInt8) (a : Nat) (ts : List Tok), lexF n l a = .ok ts → ts.length ≤ l.length := by
  intro n
  induction n with
  | zero => intro l a ts h; simp [lexF] at h
  | succ n ih =>
    intro l a ts h
    cases l with
    | nil => simp [lexF] at h; subst h; simp
    | cons b l =>
      have pre : ∀ (x : Tok) (r : LexR) (ts : List Tok), LexR.pre [x] r = .ok ts → ∃ ts', r = .ok ts' ∧ ts.length = ts'.length + 1 := by
        intro x r ts h
        cases r with
        | ok l => simp [LexR.pre] at h; subst h; exact ⟨l, rfl, by simp⟩
        | err a => simp [LexR.pre] at h
      simp only [lexF] at h
      split at h
      · have := ih _ _ _ h; simp; omega
      · have := ih _ _ _ h; simp at this ⊢; omega
      · rename_i hc
        obtain ⟨ts', h1, h2⟩ := pre _ _ _ h
        have := ih _ _ _ h1
        rw [span_pos (cls3 hc)] at this
        simp at this ⊢; omega
      · rename_i hc
        split at h
        · obtain ⟨ts', h1, h2⟩ := pre _ _ _ h
          have := ih _ _ _ h1
          rw [span_pos (cls4 hc)] at this
          simp at this ⊢; omega
        · cases h
      · obtain ⟨ts', h1, h2⟩ := pre _ _ _ h
        have := ih _ _ _ h1
        simp; omega
      · cases h
theorem lexAns_len (l : List UInt8) : (lexAns l).1.length ≤ 65536 := by
  unfold lexAns
  split
  · simp
  · split
    · rename_i h1 ts h
      have := lexF_len _ _ _ _ h
      simp; omega
    · simp
end Go.Proofs.YtghhkbigmmjanaaDoor.VA

/-! Lp1 -/
namespace Go.Proofs.YtghhkbigmmjanaaDoor.VA
open Go Go.RowKit
set_option linter.unusedSimpArgs false

def stops (p : Nat → Bool) (rest : List UInt8) : Prop :=
  match rest with
  | [] => True
  | c :: _ => p c.toNat = false
theorem span_app {p : Nat → Bool} {rest : List UInt8} (h : stops p rest) : ∀ l, span p (l ++ rest) = span p l
  | [] => by
    cases rest with
    | nil => rfl
    | cons c r => rw [List.nil_append, span_cons, span_nil, if_neg (by rw [show p c.toNat = false from h]; simp)]
  | b :: l => by
    rw [List.cons_append, span_cons, span_cons, span_app h l]
theorem stops_digit {rest : List UInt8} (h : stops inWord rest) : stops isDigit rest := by
  cases rest with
  | nil => trivial
  | cons c r =>
    have h' : inWord c.toNat = false := h
    show isDigit c.toNat = false
    cases hd : isDigit c.toNat with
    | false => rfl
    | true => rw [digit_word hd] at h'; cases h'
theorem stops_ends {rest : List UInt8} (h : stops inWord rest) : endsNum rest = true := by
  cases rest with
  | nil => rfl
  | cons c r => have h' : inWord c.toNat = false := h; simp [endsNum, h']
def tokOk (k : Nat) (t : List UInt8) : Prop :=
  (k = 0 ∧ ∃ b l, t = b :: l ∧ cls b.toNat = 3 ∧ span inWord t = t.length) ∨
  (k = 1 ∧ ∃ b l, t = b :: l ∧ cls b.toNat = 4 ∧ span isDigit t = t.length ∧ t.length ≤ 9) ∨
  (k = 2 ∧ ∃ b, t = [b] ∧ cls b.toNat = 5)
theorem lexL_tok {k : Nat} {t rest : List UInt8} {a : Nat} (h : tokOk k t) (hr : stops inWord rest) : lexL (t ++ rest) a = LexR.pre [⟨k, t, a⟩] (lexL rest (a + t.length)) := by
  rcases h with ⟨rfl, b, l, rfl, hc, hs⟩ | ⟨rfl, b, l, rfl, hc, hs, h9⟩ | ⟨rfl, b, rfl, hc⟩
  · rw [List.cons_append, lexL_word hc, ← List.cons_append, span_app hr, hs, List.take_left' rfl, List.drop_left' rfl]
  · have hs' := span_app (stops_digit hr) (b :: l)
    rw [hs] at hs'
    rw [List.cons_append, lexL_num hc, ← List.cons_append, hs', List.take_left' rfl, List.drop_left' rfl]
    · rw [← List.cons_append, hs']; exact h9
    · rw [← List.cons_append, hs', List.drop_left' rfl]; exact stops_ends hr
  · exact lexL_sign hc
theorem lexF_text : ∀ (n : Nat) (l : List UInt8) (a : Nat) (ts : List Tok), lexF n l a = .ok ts → ∀ t ∈ ts, t.text.length ≤ l.length := by
  intro n
  induction n with
  | zero => intro l a ts h; simp [lexF] at h
  | succ n ih =>
    intro l a ts h t ht
    cases l with
    | nil => simp [lexF] at h; subst h; simp at ht
    | cons b l =>
      have pre : ∀ (x : Tok) (r : LexR), LexR.pre [x] r = .ok ts → ∃ ts', r = .ok ts' ∧ ts = x :: ts' := by
        intro x r h
        cases r with
        | ok l => simp [LexR.pre] at h; subst h; exact ⟨l, rfl, rfl⟩
        | err a => simp [LexR.pre] at h
      simp only [lexF] at h
      split at h
      · have := ih _ _ _ h t ht; simp; omega
      · have := ih _ _ _ h t ht; simp at this ⊢; omega
      · obtain ⟨ts', h1, rfl⟩ := pre _ _ h
        rcases List.mem_cons.1 ht with rfl | ht
        · simp; omega
        · have := ih _ _ _ h1 t ht; simp at this ⊢; omega
      · split at h
        · obtain ⟨ts', h1, rfl⟩ := pre _ _ h
          rcases List.mem_cons.1 ht with rfl | ht
          · simp; omega
          · have := ih _ _ _ h1 t ht; simp at this ⊢; omega
        · cases h
      · obtain ⟨ts', h1, rfl⟩ := pre _ _ h
        rcases List.mem_cons.1 ht with rfl | ht
        · simp
        · have := ih _ _ _ h1 t ht; simp at this ⊢; omega
      · cases h
theorem lexL_text {l : List UInt8} {a : Nat} {ts : List Tok} (h : lexL l a = .ok ts) : ∀ t ∈ ts, t.text.length ≤ l.length := lexF_text _ _ _ _ h
theorem pre_ok {x : Tok} {r : LexR} {ts : List Tok} (h : LexR.pre [x] r = .ok ts) : ∃ ts', r = .ok ts' ∧ ts = x :: ts' := by
  cases r with
  | ok l => simp [LexR.pre] at h; subst h; exact ⟨l, rfl, rfl⟩
  | err a => simp [LexR.pre] at h
theorem lexL_first {s : List UInt8} {a : Nat} {x : Tok} (h : lexL s a = .ok [x]) (hx : x.text = s) : tokOk x.kind s := by
  cases s with
  | nil => rw [lexL_nil] at h; cases h
  | cons b l =>
    have hc := cls_lt b.toNat
    have short : ∀ {l' : List UInt8} {a' : Nat}, l'.length < (b :: l).length → lexL l' a' = .ok [x] → False := fun hl h => by
      have := lexL_text h x (by simp)
      rw [hx] at this; omega
    by_cases c1 : cls b.toNat = 1
    · rw [lexL_blank c1] at h
      exact (short (by simp) h).elim
    by_cases c2 : cls b.toNat = 2
    · rw [lexL_remark c2] at h
      refine (short ?_ h).elim
      rw [List.length_drop, span_pos (cls2 c2)]; simp; omega
    by_cases c3 : cls b.toNat = 3
    · rw [lexL_word c3] at h
      obtain ⟨ts', h1, h2⟩ := pre_ok h
      obtain ⟨rfl, rfl⟩ := List.cons.inj h2
      refine .inl ⟨rfl, b, l, rfl, c3, ?_⟩
      have := congrArg List.length hx
      have hle := span_le inWord (b :: l)
      simp only [List.length_take] at this
      omega
    by_cases c4 : cls b.toNat = 4
    · by_cases hn : span isDigit (b :: l) ≤ 9 ∧ endsNum ((b :: l).drop (span isDigit (b :: l))) = true
      · rw [lexL_num c4 hn.1 hn.2] at h
        obtain ⟨ts', h1, h2⟩ := pre_ok h
        obtain ⟨rfl, rfl⟩ := List.cons.inj h2
        have := congrArg List.length hx
        have hle := span_le isDigit (b :: l)
        simp only [List.length_take] at this
        exact .inr (.inl ⟨rfl, b, l, rfl, c4, by omega, by omega⟩)
      · rw [lexL_notnum c4 hn] at h; cases h
    by_cases c5 : cls b.toNat = 5
    · rw [lexL_sign c5] at h
      obtain ⟨ts', h1, h2⟩ := pre_ok h
      obtain ⟨rfl, rfl⟩ := List.cons.inj h2
      exact .inr (.inr ⟨rfl, b, hx.symm, c5⟩)
    · rw [lexL_other (by omega)] at h; cases h
theorem right_tok {K : Int} {t : List UInt8} (h : rightB K t = true) : ∃ k : Nat, K = (k : Int) ∧ tokOk k t ∧ t.length ≤ 65536 := by
  unfold rightB lexAns at h
  by_cases hb : 65536 < t.length
  · rw [if_pos hb] at h; cases h
  · rw [if_neg hb] at h
    cases hl : lexL t 0 with
    | err a => rw [hl] at h; cases h
    | ok ts =>
      rw [hl] at h
      simp only at h
      cases ts with
      | nil => cases h
      | cons x ts =>
        cases ts with
        | cons y ts => cases h
        | nil =>
          simp only [Bool.and_eq_true, decide_eq_true_eq] at h
          exact ⟨x.kind, h.1.symm, lexL_first hl h.2, by omega⟩
theorem tok_right {k : Nat} {t : List UInt8} (h : tokOk k t) (hl : t.length ≤ 65536) : rightB (k : Int) t = true := by
  have h1 := lexL_tok (a := 0) (rest := []) h trivial
  rw [List.append_nil, lexL_nil] at h1
  simp only [rightB, lexAns, if_neg (show ¬ 65536 < t.length by omega), h1, LexR.pre]
  simp
theorem word_kind {k : Nat} {t : List UInt8} (h : tokOk k t) (hk : (k : Int) = 0) : tokOk 0 t := by
  have : k = 0 := by omega
  subst this; exact h
/-- LexWords, plain. -/
theorem words_lex {s t : List UInt8} (hs : rightB 0 s = true) (ht : rightB 0 t = true) (hl : s.length ≤ 1000) (hl2 : t.length ≤ 1000) :
    lexAns (s ++ [32] ++ t) = ([⟨0, s, 0⟩, ⟨0, t, s.length + 1⟩], 0, 0) := by
  obtain ⟨k, hk, h1, _⟩ := right_tok hs
  obtain ⟨k', hk', h2, _⟩ := right_tok ht
  have h1 := word_kind h1 hk.symm
  have h2 := word_kind h2 hk'.symm
  have e1 := lexL_tok (a := 0) (rest := [32] ++ t) h1 (by rfl)
  have e2 : lexL ([32] ++ t) (0 + s.length) = lexL t (s.length + 1) := by rw [Nat.zero_add]; exact lexL_blank (by rfl)
  have e3 := lexL_tok (a := s.length + 1) (rest := []) h2 trivial
  rw [List.append_nil, lexL_nil] at e3
  rw [← List.append_assoc] at e1
  rw [e2, e3] at e1
  simp only [lexAns, if_neg (show ¬ 65536 < (s ++ [32] ++ t).length by simp; omega), e1, LexR.pre]
  rfl
end Go.Proofs.YtghhkbigmmjanaaDoor.VA

/-! Pd1 -/
namespace Go.Proofs.YtghhkbigmmjanaaDoor.VA
open Go Go.RowKit
attribute [local go_sem] Nat.add_eq_left Nat.left_eq_add true_and and_true ite_true if_false Int.cast_ofNat_Int eq_self Nat.add_assoc Option.some.injEq decide_true decide_false Bool.not_true Bool.not_false List.size_toArray List.length_cons List.length_nil
set_option linter.unusedSimpArgs false
set_option maxRecDepth 100000

/-! ### a token that may be -/
def okB (k : Int) (c : Nat) : Bool := !((decide (k = 0) && !inWord c) || (decide (k = 1) && !isDigit c) || (decide (k = 2) && !isSign c))
def endB (k : Int) (t : List UInt8) : Bool := bif decide (k = 0) then isLetter (t.getD 0 0).toNat else bif decide (k = 1) then decide (t.length ≤ 9) else decide (k = 2) && decide (t.length = 1)
def rightR (k : Int) (t : List UInt8) : Bool := decide (1 ≤ t.length) && decide (t.length ≤ 65536) && (t.all (fun b => okB k b.toNat) && endB k t)
theorem span_all (p : Nat → Bool) : ∀ (l : List UInt8), span p l = l.length ↔ l.all (fun b => p b.toNat) = true
  | [] => by simp [span_nil]
  | b :: l => by
    rw [span_cons, List.all_cons]
    cases h : p b.toNat with
    | true => simp [span_all p l]
    | false => simp
theorem cls5_iff (n : Nat) : cls n = 5 ↔ isSign n = true := by
  constructor
  · intro h
    unfold cls at h
    repeat' split at h
    all_goals first | omega | assumption
  · intro h
    have hm : n ∈ signs := by simpa [isSign] using h
    simp only [signs, List.mem_cons, List.not_mem_nil, or_false] at hm
    rcases hm with rfl | rfl | rfl | rfl | rfl | rfl | rfl | rfl | rfl | rfl | rfl | rfl | rfl | rfl <;> rfl
theorem rightB_R (k : Int) (t : List UInt8) : rightB k t = rightR k t := by
  have key : rightB k t = true ↔ rightR k t = true := by
    constructor
    · intro h
      obtain ⟨m, rfl, hm, hl⟩ := right_tok h
      have hl' : decide (t.length ≤ 65536) = true := by simpa using hl
      rcases hm with ⟨rfl, b, l, rfl, hc, hs⟩ | ⟨rfl, b, l, rfl, hc, hs, h9⟩ | ⟨rfl, b, rfl, hc⟩
      · have h3 := (cls3_iff _).1 hc
        have ha := (span_all _ _).1 hs
        simp only [rightR, hl', okB, endB]
        simp at ha ⊢
        exact ⟨ha, h3⟩
      · have ha := (span_all _ _).1 hs
        simp only [rightR, hl', okB, endB]
        simp at ha h9 ⊢
        exact ⟨ha, h9⟩
      · have h5 := (cls5_iff _).1 hc
        simp [rightR, okB, endB, h5]
    · intro h
      simp only [rightR, Bool.and_eq_true, decide_eq_true_eq] at h
      obtain ⟨⟨h1, h2⟩, h3, h4⟩ := h
      cases t with
      | nil => simp at h1
      | cons b l =>
        by_cases k0 : k = 0
        · subst k0
          simp only [endB, decide_true, cond_true] at h4
          have ha : (b :: l).all (fun b => inWord b.toNat) = true := by simpa [okB] using h3
          exact tok_right (k := 0) (.inl ⟨rfl, b, l, rfl, (cls3_iff _).2 (by simpa using h4), (span_all _ _).2 ha⟩) h2
        · by_cases k1 : k = 1
          · subst k1
            have ha : (b :: l).all (fun b => isDigit b.toNat) = true := by simpa [okB] using h3
            have hb : isDigit b.toNat = true := by rw [List.all_cons, Bool.and_eq_true] at ha; exact ha.1
            have h9 : (b :: l).length ≤ 9 := by simpa [endB] using h4
            exact tok_right (k := 1) (.inr (.inl ⟨rfl, b, l, rfl, (cls4_iff _).2 hb, (span_all _ _).2 ha, h9⟩)) h2
          · by_cases k2 : k = 2
            · subst k2
              have hl : l = [] := by simpa [endB] using h4
              subst hl
              have hb : isSign b.toNat = true := by simpa [okB] using h3
              exact tok_right (k := 2) (.inr (.inr ⟨rfl, b, rfl, (cls5_iff _).2 hb⟩)) h2
            · simp [endB, k0, k1, k2] at h4
  cases h : rightB k t with
  | true => exact (key.1 h).symm
  | false =>
    cases h2 : rightR k t with
    | false => rfl
    | true => rw [key.2 h2] at h; cases h
set_option maxRecDepth 20000 in
theorem c_rRight (k a : Int) (t : List UInt8) (H : Heap) : calls Tryd.prog cfg 56 [.agg [.lit (.int .i64 k), .lit (.string (ba t)), .lit (.int .i64 a)]] H = some (.ret (.lit (.bool (rightB k t))) H) := by
  refine calls_pure (fn := Tryd.f56) rfl rfl rfl rfl rfl ?_ H
  have rs : Tryd.f56.results.toList = [.tmp 2] := rfl
  generalize hr : rightB k t = r
  rw [rightB_R, rightR] at hr
  by_cases h1 : 1 ≤ t.length
  · have d1 : decide (((t.length : Nat) : Int) < 1) = false := by simp; omega
    have d1' : decide (1 ≤ t.length) = true := by simp [h1]
    rw [d1', Bool.true_and] at hr
    by_cases h2 : t.length ≤ 65536
    · have d2 : decide (65536 < ((t.length : Nat) : Int)) = false := by simp; omega
      have d2' : decide (t.length ≤ 65536) = true := by simp [h2]
      rw [d2', Bool.true_and] at hr
      have hk : (decide (k = 0) = true ∧ decide (k = 1) = false ∧ decide (k = 2) = false) ∨ (decide (k = 0) = false ∧ decide (k = 1) = true ∧ decide (k = 2) = false) ∨
          (decide (k = 0) = false ∧ decide (k = 1) = false ∧ decide (k = 2) = true) ∨ (decide (k = 0) = false ∧ decide (k = 1) = false ∧ decide (k = 2) = false) := by simp; omega
      simp only [go_sem, Nat.reduceBEq, Nat.reduceLeDiff, Nat.reduceEqDiff, Nat.reduceSub, Nat.reduceAdd, Int.reduceEq, Int.reduceLT, Int.reduceLE, Int.reduceAdd, rs, ba_size, d1, d2]
      refine W_loop_ind (fun n e H => ∃ i : Nat, n = t.length - i ∧ i ≤ t.length ∧ ((t.drop i).all (fun b => okB k b.toNat) && endB k t) = r ∧ gget .bad e 1 = .ptr 0 0 ∧ gget .bad e 3 = .lit (.int .i64 (i : Nat)) ∧
          H.get 0 = some [.lit (.int .i64 k), .lit (.string (ba t)), .lit (.int .i64 a)]) t.length ⟨0, rfl, by omega, hr, by simp only [go_sem, Nat.reduceBEq, Nat.reduceLeDiff, Nat.reduceEqDiff, Nat.reduceSub, Nat.reduceAdd, Int.reduceEq, Int.reduceLT, Int.reduceLE, Int.reduceAdd], by simp only [go_sem, Nat.reduceBEq, Nat.reduceLeDiff, Nat.reduceEqDiff, Nat.reduceSub, Nat.reduceAdd, Int.reduceEq, Int.reduceLT, Int.reduceLE, Int.reduceAdd] <;> rfl, by simp only [go_sem, Nat.reduceBEq, Nat.reduceLeDiff, Nat.reduceEqDiff, Nat.reduceSub, Nat.reduceAdd, Int.reduceEq, Int.reduceLT, Int.reduceLE, Int.reduceAdd]⟩ ?_
      rintro n ih e H ⟨i, rfl, hle, hR, e1, e3, hg⟩
      by_cases hlt : i < t.length
      · have hlt' : decide ((i : Int) < (t.length : Nat)) = true := by simp; omega
        have hix := ixs_ba hlt
        rw [drop_cons hlt, List.all_cons] at hR
        generalize t.getD i 0 = b at hix hR
        have hw1 := wrap1 (show i + 1 ≤ 9223372036854775807 by omega)
        simp only [go_sem, Nat.reduceBEq, Nat.reduceLeDiff, Nat.reduceEqDiff, Nat.reduceSub, Nat.reduceAdd, Int.reduceEq, Int.reduceLT, Int.reduceLE, Int.reduceAdd, e1, e3, hg, ba_size, hlt', hix]
        have fin : okB k b.toNat = true → W Tryd.prog cfg (.skip) [] e H (fun _ _ _ => True) := fun _ => by simp only [go_sem, Nat.reduceBEq, Nat.reduceLeDiff, Nat.reduceEqDiff, Nat.reduceSub, Nat.reduceAdd, Int.reduceEq, Int.reduceLT, Int.reduceLE, Int.reduceAdd]
        rcases hk with ⟨k0, k1, k2⟩ | ⟨k0, k1, k2⟩ | ⟨k0, k1, k2⟩ | ⟨k0, k1, k2⟩
        · cases hb : inWord b.toNat with
          | true =>
            have ho : okB k b.toNat = true := by simp [okB, k0, k1, k2, hb]
            rw [ho, Bool.true_and] at hR
            simp only [go_sem, Nat.reduceBEq, Nat.reduceLeDiff, Nat.reduceEqDiff, Nat.reduceSub, Nat.reduceAdd, Int.reduceEq, Int.reduceLT, Int.reduceLE, Int.reduceAdd, k0, k1, k2, c_rInner, hb, e1, e3, hg, hw1]
            exact ih (t.length - (i + 1)) (by omega) _ _ ⟨i + 1, rfl, by omega, hR, by simp only [go_sem, Nat.reduceBEq, Nat.reduceLeDiff, Nat.reduceEqDiff, Nat.reduceSub, Nat.reduceAdd, Int.reduceEq, Int.reduceLT, Int.reduceLE, Int.reduceAdd, e1], by simp only [go_sem, Nat.reduceBEq, Nat.reduceLeDiff, Nat.reduceEqDiff, Nat.reduceSub, Nat.reduceAdd, Int.reduceEq, Int.reduceLT, Int.reduceLE, Int.reduceAdd], by simp only [go_sem, Nat.reduceBEq, Nat.reduceLeDiff, Nat.reduceEqDiff, Nat.reduceSub, Nat.reduceAdd, Int.reduceEq, Int.reduceLT, Int.reduceLE, Int.reduceAdd, hg]⟩
          | false =>
            have ho : okB k b.toNat = false := by simp [okB, k0, k1, k2, hb]
            rw [ho, Bool.false_and, Bool.false_and] at hR
            simp only [go_sem, Nat.reduceBEq, Nat.reduceLeDiff, Nat.reduceEqDiff, Nat.reduceSub, Nat.reduceAdd, Int.reduceEq, Int.reduceLT, Int.reduceLE, Int.reduceAdd, k0, k1, k2, c_rInner, hb, e1, e3, hg, ← hR]
        · cases hb : isDigit b.toNat with
          | true =>
            have ho : okB k b.toNat = true := by simp [okB, k0, k1, k2, hb]
            rw [ho, Bool.true_and] at hR
            simp only [go_sem, Nat.reduceBEq, Nat.reduceLeDiff, Nat.reduceEqDiff, Nat.reduceSub, Nat.reduceAdd, Int.reduceEq, Int.reduceLT, Int.reduceLE, Int.reduceAdd, k0, k1, k2, c_rDigit, hb, e1, e3, hg, hw1]
            exact ih (t.length - (i + 1)) (by omega) _ _ ⟨i + 1, rfl, by omega, hR, by simp only [go_sem, Nat.reduceBEq, Nat.reduceLeDiff, Nat.reduceEqDiff, Nat.reduceSub, Nat.reduceAdd, Int.reduceEq, Int.reduceLT, Int.reduceLE, Int.reduceAdd, e1], by simp only [go_sem, Nat.reduceBEq, Nat.reduceLeDiff, Nat.reduceEqDiff, Nat.reduceSub, Nat.reduceAdd, Int.reduceEq, Int.reduceLT, Int.reduceLE, Int.reduceAdd], by simp only [go_sem, Nat.reduceBEq, Nat.reduceLeDiff, Nat.reduceEqDiff, Nat.reduceSub, Nat.reduceAdd, Int.reduceEq, Int.reduceLT, Int.reduceLE, Int.reduceAdd, hg]⟩
          | false =>
            have ho : okB k b.toNat = false := by simp [okB, k0, k1, k2, hb]
            rw [ho, Bool.false_and, Bool.false_and] at hR
            simp only [go_sem, Nat.reduceBEq, Nat.reduceLeDiff, Nat.reduceEqDiff, Nat.reduceSub, Nat.reduceAdd, Int.reduceEq, Int.reduceLT, Int.reduceLE, Int.reduceAdd, k0, k1, k2, c_rDigit, hb, e1, e3, hg, ← hR]
        · cases hb : isSign b.toNat with
          | true =>
            have ho : okB k b.toNat = true := by simp [okB, k0, k1, k2, hb]
            rw [ho, Bool.true_and] at hR
            simp only [go_sem, Nat.reduceBEq, Nat.reduceLeDiff, Nat.reduceEqDiff, Nat.reduceSub, Nat.reduceAdd, Int.reduceEq, Int.reduceLT, Int.reduceLE, Int.reduceAdd, k0, k1, k2, c_rSign, hb, e1, e3, hg, hw1]
            exact ih (t.length - (i + 1)) (by omega) _ _ ⟨i + 1, rfl, by omega, hR, by simp only [go_sem, Nat.reduceBEq, Nat.reduceLeDiff, Nat.reduceEqDiff, Nat.reduceSub, Nat.reduceAdd, Int.reduceEq, Int.reduceLT, Int.reduceLE, Int.reduceAdd, e1], by simp only [go_sem, Nat.reduceBEq, Nat.reduceLeDiff, Nat.reduceEqDiff, Nat.reduceSub, Nat.reduceAdd, Int.reduceEq, Int.reduceLT, Int.reduceLE, Int.reduceAdd], by simp only [go_sem, Nat.reduceBEq, Nat.reduceLeDiff, Nat.reduceEqDiff, Nat.reduceSub, Nat.reduceAdd, Int.reduceEq, Int.reduceLT, Int.reduceLE, Int.reduceAdd, hg]⟩
          | false =>
            have ho : okB k b.toNat = false := by simp [okB, k0, k1, k2, hb]
            rw [ho, Bool.false_and, Bool.false_and] at hR
            simp only [go_sem, Nat.reduceBEq, Nat.reduceLeDiff, Nat.reduceEqDiff, Nat.reduceSub, Nat.reduceAdd, Int.reduceEq, Int.reduceLT, Int.reduceLE, Int.reduceAdd, k0, k1, k2, c_rSign, hb, e1, e3, hg, ← hR]
        · have ho : okB k b.toNat = true := by simp [okB, k0, k1, k2]
          rw [ho, Bool.true_and] at hR
          simp only [go_sem, Nat.reduceBEq, Nat.reduceLeDiff, Nat.reduceEqDiff, Nat.reduceSub, Nat.reduceAdd, Int.reduceEq, Int.reduceLT, Int.reduceLE, Int.reduceAdd, k0, k1, k2, e1, e3, hg, hw1]
          exact ih (t.length - (i + 1)) (by omega) _ _ ⟨i + 1, rfl, by omega, hR, by simp only [go_sem, Nat.reduceBEq, Nat.reduceLeDiff, Nat.reduceEqDiff, Nat.reduceSub, Nat.reduceAdd, Int.reduceEq, Int.reduceLT, Int.reduceLE, Int.reduceAdd, e1], by simp only [go_sem, Nat.reduceBEq, Nat.reduceLeDiff, Nat.reduceEqDiff, Nat.reduceSub, Nat.reduceAdd, Int.reduceEq, Int.reduceLT, Int.reduceLE, Int.reduceAdd], by simp only [go_sem, Nat.reduceBEq, Nat.reduceLeDiff, Nat.reduceEqDiff, Nat.reduceSub, Nat.reduceAdd, Int.reduceEq, Int.reduceLT, Int.reduceLE, Int.reduceAdd, hg]⟩
      · have hlt' : decide ((i : Int) < (t.length : Nat)) = false := by simp; omega
        rw [List.drop_of_length_le (by omega), List.all_nil, Bool.true_and] at hR
        have h0 : 0 < t.length := by omega
        have hix := ixs_ba h0
        simp only [go_sem, Nat.reduceBEq, Nat.reduceLeDiff, Nat.reduceEqDiff, Nat.reduceSub, Nat.reduceAdd, Int.reduceEq, Int.reduceLT, Int.reduceLE, Int.reduceAdd, e1, e3, hg, ba_size, hlt']
        rcases hk with ⟨k0, k1, k2⟩ | ⟨k0, k1, k2⟩ | ⟨k0, k1, k2⟩ | ⟨k0, k1, k2⟩
        · simp only [endB, k0, cond_true] at hR
          simp only [go_sem, Nat.reduceBEq, Nat.reduceLeDiff, Nat.reduceEqDiff, Nat.reduceSub, Nat.reduceAdd, Int.reduceEq, Int.reduceLT, Int.reduceLE, Int.reduceAdd, k0, e1, e3, hg, hix, c_rLetter, hR]
        · have h9 : decide (((t.length : Nat) : Int) ≤ 9) = r := by rw [← hR]; simp only [endB, k0, k1, cond_true, cond_false]; rw [Bool.eq_iff_iff]; simp; omega
          simp only [go_sem, Nat.reduceBEq, Nat.reduceLeDiff, Nat.reduceEqDiff, Nat.reduceSub, Nat.reduceAdd, Int.reduceEq, Int.reduceLT, Int.reduceLE, Int.reduceAdd, k0, k1, e1, e3, hg, ba_size, h9]
        · have h9 : decide (((t.length : Nat) : Int) = 1) = r := by rw [← hR]; simp only [endB, k0, k1, k2, cond_true, cond_false, Bool.true_and]; rw [Bool.eq_iff_iff]; simp; omega
          simp only [go_sem, Nat.reduceBEq, Nat.reduceLeDiff, Nat.reduceEqDiff, Nat.reduceSub, Nat.reduceAdd, Int.reduceEq, Int.reduceLT, Int.reduceLE, Int.reduceAdd, k0, k1, k2, e1, e3, hg, ba_size, h9]
        · have h9 : r = false := by rw [← hR]; simp only [endB, k0, k1, k2, cond_true, cond_false, Bool.false_and]
          simp only [go_sem, Nat.reduceBEq, Nat.reduceLeDiff, Nat.reduceEqDiff, Nat.reduceSub, Nat.reduceAdd, Int.reduceEq, Int.reduceLT, Int.reduceLE, Int.reduceAdd, k0, k1, k2, e1, e3, hg, ba_size, h9]
    · have d2 : decide (65536 < ((t.length : Nat) : Int)) = true := by simp; omega
      have d2' : decide (t.length ≤ 65536) = false := by simp; omega
      have hr' : r = false := by rw [← hr, d2']; rfl
      simp only [go_sem, Nat.reduceBEq, Nat.reduceLeDiff, Nat.reduceEqDiff, Nat.reduceSub, Nat.reduceAdd, Int.reduceEq, Int.reduceLT, Int.reduceLE, Int.reduceAdd, rs, ba_size, d1, d2, hr']
  · have d1 : decide (((t.length : Nat) : Int) < 1) = true := by simp; omega
    have d1' : decide (1 ≤ t.length) = false := decide_eq_false h1
    have hr' : r = false := by rw [← hr, d1']; rfl
    simp only [go_sem, Nat.reduceBEq, Nat.reduceLeDiff, Nat.reduceEqDiff, Nat.reduceSub, Nat.reduceAdd, Int.reduceEq, Int.reduceLT, Int.reduceLE, Int.reduceAdd, rs, ba_size, d1, hr']

/-! ### names -/
def kwB (t : List UInt8) : Bool := keyword t
set_option maxRecDepth 20000 in
theorem c_keyword (t : List UInt8) (H : Heap) : calls Tryd.prog cfg 21 [.lit (.string (ba t))] H = some (.ret (.lit (.bool (keyword t))) H) := by
  refine calls_pure (fn := Tryd.f21) rfl rfl rfl rfl rfl ?_ H
  have rs : Tryd.f21.results.toList = [.tmp 2] := rfl
  have hd : ∀ u, decide (ba t = ba u) = (t == u) := fun u => by rw [Bool.eq_iff_iff]; simp [ba_inj]
  generalize hr : keyword t = r
  simp only [keyword, words, List.contains_cons, List.contains_nil] at hr
  simp only [go_sem, Nat.reduceBEq, Nat.reduceLeDiff, Nat.reduceEqDiff, Nat.reduceSub, Nat.reduceAdd, Int.reduceEq, Int.reduceLT, Int.reduceLE, Int.reduceAdd, rs, hd]
  cases h1 : (t == [102, 117, 110]) with
  | true => rw [h1] at hr; simp only [go_sem, Nat.reduceBEq, Nat.reduceLeDiff, Nat.reduceEqDiff, Nat.reduceSub, Nat.reduceAdd, Int.reduceEq, Int.reduceLT, Int.reduceLE, Int.reduceAdd, Bool.true_or] at hr ⊢; simp only [← hr]
  | false =>
  rw [h1, Bool.false_or] at hr
  simp only [go_sem, Nat.reduceBEq, Nat.reduceLeDiff, Nat.reduceEqDiff, Nat.reduceSub, Nat.reduceAdd, Int.reduceEq, Int.reduceLT, Int.reduceLE, Int.reduceAdd, hd]
  cases h2 : (t == [111, 117, 116]) with
  | true => rw [h2] at hr; simp only [go_sem, Nat.reduceBEq, Nat.reduceLeDiff, Nat.reduceEqDiff, Nat.reduceSub, Nat.reduceAdd, Int.reduceEq, Int.reduceLT, Int.reduceLE, Int.reduceAdd, Bool.true_or] at hr ⊢; simp only [← hr]
  | false =>
  rw [h2, Bool.false_or] at hr
  simp only [go_sem, Nat.reduceBEq, Nat.reduceLeDiff, Nat.reduceEqDiff, Nat.reduceSub, Nat.reduceAdd, Int.reduceEq, Int.reduceLT, Int.reduceLE, Int.reduceAdd, hd]
  cases h3 : (t == [114, 101, 116, 117, 114, 110]) with
  | true => rw [h3] at hr; simp only [go_sem, Nat.reduceBEq, Nat.reduceLeDiff, Nat.reduceEqDiff, Nat.reduceSub, Nat.reduceAdd, Int.reduceEq, Int.reduceLT, Int.reduceLE, Int.reduceAdd, Bool.true_or] at hr ⊢; simp only [← hr]
  | false =>
  rw [h3, Bool.false_or] at hr
  simp only [go_sem, Nat.reduceBEq, Nat.reduceLeDiff, Nat.reduceEqDiff, Nat.reduceSub, Nat.reduceAdd, Int.reduceEq, Int.reduceLT, Int.reduceLE, Int.reduceAdd, hd]
  cases h4 : (t == [105, 102]) with
  | true => rw [h4] at hr; simp only [go_sem, Nat.reduceBEq, Nat.reduceLeDiff, Nat.reduceEqDiff, Nat.reduceSub, Nat.reduceAdd, Int.reduceEq, Int.reduceLT, Int.reduceLE, Int.reduceAdd, Bool.true_or] at hr ⊢; simp only [← hr]
  | false =>
  rw [h4, Bool.false_or] at hr
  simp only [go_sem, Nat.reduceBEq, Nat.reduceLeDiff, Nat.reduceEqDiff, Nat.reduceSub, Nat.reduceAdd, Int.reduceEq, Int.reduceLT, Int.reduceLE, Int.reduceAdd, hd]
  cases h5 : (t == [101, 108, 115, 101]) with
  | true => rw [h5] at hr; simp only [go_sem, Nat.reduceBEq, Nat.reduceLeDiff, Nat.reduceEqDiff, Nat.reduceSub, Nat.reduceAdd, Int.reduceEq, Int.reduceLT, Int.reduceLE, Int.reduceAdd, Bool.true_or] at hr ⊢; simp only [← hr]
  | false =>
  rw [h5, Bool.false_or] at hr
  simp only [go_sem, Nat.reduceBEq, Nat.reduceLeDiff, Nat.reduceEqDiff, Nat.reduceSub, Nat.reduceAdd, Int.reduceEq, Int.reduceLT, Int.reduceLE, Int.reduceAdd, hd]
  cases h6 : (t == [119, 104, 105, 108, 101]) with
  | true => rw [h6] at hr; simp only [go_sem, Nat.reduceBEq, Nat.reduceLeDiff, Nat.reduceEqDiff, Nat.reduceSub, Nat.reduceAdd, Int.reduceEq, Int.reduceLT, Int.reduceLE, Int.reduceAdd, Bool.true_or] at hr ⊢; simp only [← hr]
  | false =>
  rw [h6, Bool.false_or] at hr
  simp only [go_sem, Nat.reduceBEq, Nat.reduceLeDiff, Nat.reduceEqDiff, Nat.reduceSub, Nat.reduceAdd, Int.reduceEq, Int.reduceLT, Int.reduceLE, Int.reduceAdd, hd]
  cases h7 : (t == [110, 101, 119]) with
  | true => rw [h7] at hr; simp only [go_sem, Nat.reduceBEq, Nat.reduceLeDiff, Nat.reduceEqDiff, Nat.reduceSub, Nat.reduceAdd, Int.reduceEq, Int.reduceLT, Int.reduceLE, Int.reduceAdd, Bool.true_or] at hr ⊢; simp only [← hr]
  | false =>
  rw [h7, Bool.false_or] at hr
  simp only [go_sem, Nat.reduceBEq, Nat.reduceLeDiff, Nat.reduceEqDiff, Nat.reduceSub, Nat.reduceAdd, Int.reduceEq, Int.reduceLT, Int.reduceLE, Int.reduceAdd, hd]
  cases h8 : (t == [112, 114, 111, 116, 111]) with
  | true => rw [h8] at hr; simp only [go_sem, Nat.reduceBEq, Nat.reduceLeDiff, Nat.reduceEqDiff, Nat.reduceSub, Nat.reduceAdd, Int.reduceEq, Int.reduceLT, Int.reduceLE, Int.reduceAdd, Bool.true_or] at hr ⊢; simp only [← hr]
  | false =>
  rw [h8, Bool.false_or] at hr
  simp only [go_sem, Nat.reduceBEq, Nat.reduceLeDiff, Nat.reduceEqDiff, Nat.reduceSub, Nat.reduceAdd, Int.reduceEq, Int.reduceLT, Int.reduceLE, Int.reduceAdd, hd]
  cases h9 : (t == [99, 97, 108, 108]) with
  | true => rw [h9] at hr; simp only [go_sem, Nat.reduceBEq, Nat.reduceLeDiff, Nat.reduceEqDiff, Nat.reduceSub, Nat.reduceAdd, Int.reduceEq, Int.reduceLT, Int.reduceLE, Int.reduceAdd, Bool.true_or] at hr ⊢; simp only [← hr]
  | false =>
  rw [h9, Bool.false_or] at hr
  simp only [go_sem, Nat.reduceBEq, Nat.reduceLeDiff, Nat.reduceEqDiff, Nat.reduceSub, Nat.reduceAdd, Int.reduceEq, Int.reduceLT, Int.reduceLE, Int.reduceAdd, hd]
  cases h10 : (t == [105, 110]) with
  | true => rw [h10] at hr; simp only [go_sem, Nat.reduceBEq, Nat.reduceLeDiff, Nat.reduceEqDiff, Nat.reduceSub, Nat.reduceAdd, Int.reduceEq, Int.reduceLT, Int.reduceLE, Int.reduceAdd, Bool.true_or] at hr ⊢; simp only [← hr]
  | false =>
  rw [h10, Bool.false_or] at hr
  simp only [go_sem, Nat.reduceBEq, Nat.reduceLeDiff, Nat.reduceEqDiff, Nat.reduceSub, Nat.reduceAdd, Int.reduceEq, Int.reduceLT, Int.reduceLE, Int.reduceAdd, hd]
  cases h11 : (t == [110, 117, 108, 108]) with
  | true => rw [h11] at hr; simp only [go_sem, Nat.reduceBEq, Nat.reduceLeDiff, Nat.reduceEqDiff, Nat.reduceSub, Nat.reduceAdd, Int.reduceEq, Int.reduceLT, Int.reduceLE, Int.reduceAdd, Bool.true_or] at hr ⊢; simp only [← hr]
  | false =>
  rw [h11, Bool.false_or] at hr
  simp only [go_sem, Nat.reduceBEq, Nat.reduceLeDiff, Nat.reduceEqDiff, Nat.reduceSub, Nat.reduceAdd, Int.reduceEq, Int.reduceLT, Int.reduceLE, Int.reduceAdd, hd]
  cases h12 : (t == [116, 114, 117, 101]) with
  | true => rw [h12] at hr; simp only [go_sem, Nat.reduceBEq, Nat.reduceLeDiff, Nat.reduceEqDiff, Nat.reduceSub, Nat.reduceAdd, Int.reduceEq, Int.reduceLT, Int.reduceLE, Int.reduceAdd, Bool.true_or] at hr ⊢; simp only [← hr]
  | false =>
  rw [h12, Bool.false_or] at hr
  simp only [go_sem, Nat.reduceBEq, Nat.reduceLeDiff, Nat.reduceEqDiff, Nat.reduceSub, Nat.reduceAdd, Int.reduceEq, Int.reduceLT, Int.reduceLE, Int.reduceAdd, hd]
  cases h13 : (t == [102, 97, 108, 115, 101]) with
  | true => rw [h13] at hr; simp only [go_sem, Nat.reduceBEq, Nat.reduceLeDiff, Nat.reduceEqDiff, Nat.reduceSub, Nat.reduceAdd, Int.reduceEq, Int.reduceLT, Int.reduceLE, Int.reduceAdd, Bool.true_or] at hr ⊢; simp only [← hr]
  | false =>
  rw [h13, Bool.false_or] at hr
  simp only [go_sem, Nat.reduceBEq, Nat.reduceLeDiff, Nat.reduceEqDiff, Nat.reduceSub, Nat.reduceAdd, Int.reduceEq, Int.reduceLT, Int.reduceLE, Int.reduceAdd, ← hr]
theorem wordsB : aBuildSlice Tryd.prog 41 13 [(0, .lit (.string (ba [102, 117, 110]))), (1, .lit (.string (ba [111, 117, 116]))), (2, .lit (.string (ba [114, 101, 116, 117, 114, 110]))), (3, .lit (.string (ba [105, 102]))),
    (4, .lit (.string (ba [101, 108, 115, 101]))), (5, .lit (.string (ba [119, 104, 105, 108, 101]))), (6, .lit (.string (ba [110, 101, 119]))), (7, .lit (.string (ba [112, 114, 111, 116, 111]))), (8, .lit (.string (ba [99, 97, 108, 108]))),
    (9, .lit (.string (ba [105, 110]))), (10, .lit (.string (ba [110, 117, 108, 108]))), (11, .lit (.string (ba [116, 114, 117, 101]))), (12, .lit (.string (ba [102, 97, 108, 115, 101])))] = some (.sl .ex (words.map encStr)) := by kernel_rfl
theorem iad_encStr {t : TypeId} {bs : Nat} {o : Own} {l : List (List UInt8)} {i : Nat} (h : i < l.length) : iad (some (t, 1, bs)) (.sl o (l.map encStr)) (some i) = some (.ep (encStr (l.getD i []))) := by
  refine iad_some ?_ rfl
  rw [List.getElem?_map, List.getElem?_eq_getElem h, List.getD_eq_getElem?_getD, List.getElem?_eq_getElem h]
  rfl
set_option maxRecDepth 20000 in
theorem c_rKeyword (t : List UInt8) (H : Heap) : calls Tryd.prog cfg 65 [.lit (.string (ba t))] H = some (.ret (.lit (.bool (keyword t))) H) := by
  refine calls_pure (fn := Tryd.f65) rfl rfl rfl rfl rfl ?_ H
  have rs : Tryd.f65.results.toList = [.tmp 2] := rfl
  have hwl : words.length = 13 := rfl
  generalize hr : keyword t = r
  unfold keyword at hr
  simp only [go_sem, Nat.reduceBEq, Nat.reduceLeDiff, Nat.reduceEqDiff, Nat.reduceSub, Nat.reduceAdd, Int.reduceEq, Int.reduceLT, Int.reduceLE, Int.reduceAdd, rs, wordsB]
  refine W_loop_ind (fun n e H => ∃ i : Nat, n = words.length - i ∧ i ≤ words.length ∧ (words.drop i).contains t = r ∧ gget .bad e 0 = .lit (.string (ba t)) ∧ gget .bad e 3 = .sl .ex (words.map encStr) ∧ gget .bad e 4 = .lit (.int .i64 (i : Nat)))
    words.length ⟨0, rfl, by omega, hr, by simp only [go_sem, Nat.reduceBEq, Nat.reduceLeDiff, Nat.reduceEqDiff, Nat.reduceSub, Nat.reduceAdd, Int.reduceEq, Int.reduceLT, Int.reduceLE, Int.reduceAdd], by simp only [go_sem, Nat.reduceBEq, Nat.reduceLeDiff, Nat.reduceEqDiff, Nat.reduceSub, Nat.reduceAdd, Int.reduceEq, Int.reduceLT, Int.reduceLE, Int.reduceAdd], by simp only [go_sem, Nat.reduceBEq, Nat.reduceLeDiff, Nat.reduceEqDiff, Nat.reduceSub, Nat.reduceAdd, Int.reduceEq, Int.reduceLT, Int.reduceLE, Int.reduceAdd] <;> rfl⟩ ?_
  generalize words = l at hwl
  rintro n ih e H ⟨i, rfl, hle, hR, e0, e3, e4⟩
  by_cases hlt : i < l.length
  · have hlt' : decide ((i : Int) < (l.length : Nat)) = true := by simp; omega
    have hix := iad_encStr (t := 9) (bs := 16) (o := .ex) hlt
    rw [drop_cons' [] hlt, List.contains_cons] at hR
    generalize l.getD i [] = b at hix hR
    have hw1 := wrap1 (show i + 1 ≤ 9223372036854775807 by omega)
    have hd : decide (ba b = ba t) = (t == b) := by rw [Bool.eq_iff_iff]; simp [ba_inj]; exact eq_comm
    simp only [go_sem, Nat.reduceBEq, Nat.reduceLeDiff, Nat.reduceEqDiff, Nat.reduceSub, Nat.reduceAdd, Int.reduceEq, Int.reduceLT, Int.reduceLE, Int.reduceAdd, e0, e3, e4, List.length_map, hlt', hix, encStr, hd]
    cases hb : (t == b) with
    | true =>
      rw [hb, Bool.true_or] at hR
      simp only [go_sem, Nat.reduceBEq, Nat.reduceLeDiff, Nat.reduceEqDiff, Nat.reduceSub, Nat.reduceAdd, Int.reduceEq, Int.reduceLT, Int.reduceLE, Int.reduceAdd, ← hR]
    | false =>
      rw [hb, Bool.false_or] at hR
      simp only [go_sem, Nat.reduceBEq, Nat.reduceLeDiff, Nat.reduceEqDiff, Nat.reduceSub, Nat.reduceAdd, Int.reduceEq, Int.reduceLT, Int.reduceLE, Int.reduceAdd, e0, e3, e4, hw1]
      exact ih (l.length - (i + 1)) (by omega) _ _ ⟨i + 1, rfl, by omega, hR, by simp only [go_sem, Nat.reduceBEq, Nat.reduceLeDiff, Nat.reduceEqDiff, Nat.reduceSub, Nat.reduceAdd, Int.reduceEq, Int.reduceLT, Int.reduceLE, Int.reduceAdd, e0], by simp only [go_sem, Nat.reduceBEq, Nat.reduceLeDiff, Nat.reduceEqDiff, Nat.reduceSub, Nat.reduceAdd, Int.reduceEq, Int.reduceLT, Int.reduceLE, Int.reduceAdd, e3], by simp only [go_sem, Nat.reduceBEq, Nat.reduceLeDiff, Nat.reduceEqDiff, Nat.reduceSub, Nat.reduceAdd, Int.reduceEq, Int.reduceLT, Int.reduceLE, Int.reduceAdd]⟩
  · have hlt' : decide ((i : Int) < (l.length : Nat)) = false := by simp; omega
    rw [List.drop_of_length_le (by omega), List.contains_nil] at hR
    simp only [go_sem, Nat.reduceBEq, Nat.reduceLeDiff, Nat.reduceEqDiff, Nat.reduceSub, Nat.reduceAdd, Int.reduceEq, Int.reduceLT, Int.reduceLE, Int.reduceAdd, e0, e3, e4, List.length_map, hlt', ← hR]
theorem c_rName (t : List UInt8) (H : Heap) : calls Tryd.prog cfg 55 [.lit (.string (ba t))] H = some (.ret (.lit (.bool (rightB 0 t && !keyword t))) H) := by
  refine calls_pure (fn := Tryd.f55) rfl rfl rfl rfl rfl ?_ H
  have rs : Tryd.f55.results.toList = [.tmp 2] := rfl
  simp only [go_sem, Nat.reduceBEq, Nat.reduceLeDiff, Nat.reduceEqDiff, Nat.reduceSub, Nat.reduceAdd, Int.reduceEq, Int.reduceLT, Int.reduceLE, Int.reduceAdd, rs, c_rRight]
  cases rightB 0 t with
  | true => simp only [go_sem, Nat.reduceBEq, Nat.reduceLeDiff, Nat.reduceEqDiff, Nat.reduceSub, Nat.reduceAdd, Int.reduceEq, Int.reduceLT, Int.reduceLE, Int.reduceAdd, c_rKeyword, Bool.true_and]
  | false => simp only [go_sem, Nat.reduceBEq, Nat.reduceLeDiff, Nat.reduceEqDiff, Nat.reduceSub, Nat.reduceAdd, Int.reduceEq, Int.reduceLT, Int.reduceLE, Int.reduceAdd, Bool.false_and]
end Go.Proofs.YtghhkbigmmjanaaDoor.VA

/-! Pd2 -/
namespace Go.Proofs.YtghhkbigmmjanaaDoor.VA
open Go Go.RowKit
attribute [local go_sem] Nat.add_eq_left Nat.left_eq_add true_and and_true ite_true if_false Int.cast_ofNat_Int eq_self Nat.add_assoc Option.some.injEq decide_true decide_false Bool.not_true Bool.not_false List.size_toArray List.length_cons List.length_nil
set_option linter.unusedSimpArgs false
set_option maxRecDepth 100000

theorem tk_bad {l : List GTok} {s : PS} {q : Nat × Int} (h : s.f = some q) : tk l s = none := by simp [tk, h]
theorem tk_end {l : List GTok} {s : PS} (h : ¬ s.at_ < l.length) : tk l s = none := by
  unfold tk
  split
  · exact List.getElem?_eq_none (by omega)
  · rfl
theorem tk_in {l : List GTok} {s : PS} (hf : s.f = none) (h : s.at_ < l.length) : tk l s = some (l.getD s.at_ default) := by
  simp only [tk, hf]
  rw [List.getD_eq_getElem?_getD, List.getElem?_eq_getElem h]
  rfl
theorem ok_none {s : PS} (h : s.f = none) : s.ok = true := by simp [PS.ok, h]
theorem ok_some {s : PS} {q : Nat × Int} (h : s.f = some q) : s.ok = false := by simp [PS.ok, h]
theorem f_none {s : PS} (h : s.ok = true) : s.f = none := by simpa [PS.ok] using h
section
variable {l : List GTok} {en : Int}
theorem c_rOk (s : PS) (H : Heap) : calls Tryd.prog cfg 15 [.agg (cS l en s)] H = some (.ret (.lit (.bool s.ok)) H) := by
  refine calls_pure (fn := Tryd.f15) rfl rfl rfl rfl rfl ?_ H
  have rs : Tryd.f15.results.toList = [.tmp 2] := rfl
  have d : decide (((fcode s : Nat) : Int) = 0) = s.ok := by
    unfold fcode PS.ok
    cases s.f with
    | none => rfl
    | some q => obtain ⟨c, a⟩ := q; simp; omega
  simp only [go_sem, Nat.reduceBEq, Nat.reduceLeDiff, Nat.reduceEqDiff, Nat.reduceSub, Nat.reduceAdd, Int.reduceEq, Int.reduceLT, Int.reduceLE, Int.reduceAdd, rs, d]
theorem fail_cells (s : PS) (code : Nat) (p : Int) : (cS l en s).take 4 ++ [.lit (.int .i64 ((code + 20 : Nat) : Int)), .lit (.int .i64 p)] = cS l en { s with f := some (code, p) } := rfl
set_option maxRecDepth 20000 in
theorem c_rFail (s : PS) (code : Nat) (H : Heap) : calls Tryd.prog cfg 36 [.agg (cS l en s), .lit (.int .i64 ((code + 20 : Nat) : Int))] H = some (.ret (.agg (cS l en (pfail l en s code))) H) := by
  refine calls_pure (fn := Tryd.f36) rfl rfl rfl rfl rfl ?_ H
  have rs : Tryd.f36.results.toList = [.cell 4 54] := rfl
  have hcode : IntKind.wrap .i64 0 = 0 := rfl
  generalize hkk : ((code + 20 : Nat) : Int) = kk
  cases hf : s.f with
  | some q =>
    have hr : pfail l en s code = s := by simp only [pfail, hf]
    simp only [go_sem, Nat.reduceBEq, Nat.reduceLeDiff, Nat.reduceEqDiff, Nat.reduceSub, Nat.reduceAdd, Int.reduceEq, Int.reduceLT, Int.reduceLE, Int.reduceAdd, rs, c_rOk, ok_some hf, hr]
  | none =>
    have hr : pfail l en s code = { s with f := some (code, place l en s.at_) } := by simp only [pfail, hf]
    have hc : ∀ p, (cS l en s).take 4 ++ [.lit (.int .i64 kk), .lit (.int .i64 p)] = cS l en { s with f := some (code, p) } := fun p => by rw [← hkk]; exact fail_cells s code p
    rw [hr]
    by_cases hlt : s.at_ < l.length
    · have hlt' : decide ((s.at_ : Int) < (l.length : Nat)) = true := by simp; omega
      have ha := iad_encG (t := 38) (bs := 32) (o := .sh) hlt
      have hp : place l en s.at_ = (l.getD s.at_ default).at_ := by simp only [place, hlt, if_true]
      rw [hp]
      simp only [go_sem, Nat.reduceBEq, Nat.reduceLeDiff, Nat.reduceEqDiff, Nat.reduceSub, Nat.reduceAdd, Int.reduceEq, Int.reduceLT, Int.reduceLE, Int.reduceAdd, rs, c_rOk, ok_none hf, List.length_map, hlt', ha, encG, hc]
    · have hlt' : decide ((s.at_ : Int) < (l.length : Nat)) = false := by simp; omega
      have hp : place l en s.at_ = en := by simp only [place, hlt, if_false]
      rw [hp]
      simp only [go_sem, Nat.reduceBEq, Nat.reduceLeDiff, Nat.reduceEqDiff, Nat.reduceSub, Nat.reduceAdd, Int.reduceEq, Int.reduceLT, Int.reduceLE, Int.reduceAdd, rs, c_rOk, ok_none hf, List.length_map, hlt', hc]
theorem c_rFail0 (s : PS) (H : Heap) : calls Tryd.prog cfg 36 [.agg (cS l en s), .lit (.int .i64 20)] H = some (.ret (.agg (cS l en (pfail l en s 0))) H) := c_rFail s 0 H
theorem c_rFail1 (s : PS) (H : Heap) : calls Tryd.prog cfg 36 [.agg (cS l en s), .lit (.int .i64 21)] H = some (.ret (.agg (cS l en (pfail l en s 1))) H) := c_rFail s 1 H
theorem c_rFail2 (s : PS) (H : Heap) : calls Tryd.prog cfg 36 [.agg (cS l en s), .lit (.int .i64 22)] H = some (.ret (.agg (cS l en (pfail l en s 2))) H) := c_rFail s 2 H
set_option maxRecDepth 20000 in
theorem c_rIs (s : PS) (t : List UInt8) (H : Heap) : calls Tryd.prog cfg 37 [.agg (cS l en s), .lit (.string (ba t))] H = some (.ret (.lit (.bool (isT l s t))) H) := by
  refine calls_pure (fn := Tryd.f37) rfl rfl rfl rfl rfl ?_ H
  have rs : Tryd.f37.results.toList = [.tmp 4] := rfl
  generalize hr : isT l s t = r
  unfold isT at hr
  cases hf : s.f with
  | some q =>
    rw [tk_bad hf] at hr
    have hr' : r = false := hr.symm
    simp only [go_sem, Nat.reduceBEq, Nat.reduceLeDiff, Nat.reduceEqDiff, Nat.reduceSub, Nat.reduceAdd, Int.reduceEq, Int.reduceLT, Int.reduceLE, Int.reduceAdd, rs, c_rOk, ok_some hf, hr']
  | none =>
    by_cases hlt : s.at_ < l.length
    · have hlt' : decide ((s.at_ : Int) < (l.length : Nat)) = true := by simp; omega
      have ha := iad_encG (t := 38) (bs := 32) (o := .sh) hlt
      rw [tk_in hf hlt] at hr
      generalize l.getD s.at_ default = x at ha hr
      have hr' : (rightB x.kind x.text && decide (x.text = t) && !decide (x.kind = 1)) = r := hr
      have hd : decide (ba x.text = ba t) = decide (x.text = t) := by simp [ba_inj]
      simp only [go_sem, Nat.reduceBEq, Nat.reduceLeDiff, Nat.reduceEqDiff, Nat.reduceSub, Nat.reduceAdd, Int.reduceEq, Int.reduceLT, Int.reduceLE, Int.reduceAdd, rs, c_rOk, ok_none hf, List.length_map, hlt', ha, encG, c_rRight]
      cases h1 : rightB x.kind x.text with
      | false =>
        rw [h1, Bool.false_and, Bool.false_and] at hr'
        simp only [go_sem, Nat.reduceBEq, Nat.reduceLeDiff, Nat.reduceEqDiff, Nat.reduceSub, Nat.reduceAdd, Int.reduceEq, Int.reduceLT, Int.reduceLE, Int.reduceAdd, ← hr']
      | true =>
        rw [h1, Bool.true_and] at hr'
        simp only [go_sem, Nat.reduceBEq, Nat.reduceLeDiff, Nat.reduceEqDiff, Nat.reduceSub, Nat.reduceAdd, Int.reduceEq, Int.reduceLT, Int.reduceLE, Int.reduceAdd, List.length_map, ha, encG, hd]
        cases h2 : decide (x.text = t) with
        | false =>
          rw [h2, Bool.false_and] at hr'
          simp only [go_sem, Nat.reduceBEq, Nat.reduceLeDiff, Nat.reduceEqDiff, Nat.reduceSub, Nat.reduceAdd, Int.reduceEq, Int.reduceLT, Int.reduceLE, Int.reduceAdd, ← hr']
        | true =>
          rw [h2, Bool.true_and] at hr'
          simp only [go_sem, Nat.reduceBEq, Nat.reduceLeDiff, Nat.reduceEqDiff, Nat.reduceSub, Nat.reduceAdd, Int.reduceEq, Int.reduceLT, Int.reduceLE, Int.reduceAdd, List.length_map, ha, encG, hr']
    · have hlt' : decide ((s.at_ : Int) < (l.length : Nat)) = false := by simp; omega
      rw [tk_end hlt] at hr
      have hr' : r = false := hr.symm
      simp only [go_sem, Nat.reduceBEq, Nat.reduceLeDiff, Nat.reduceEqDiff, Nat.reduceSub, Nat.reduceAdd, Int.reduceEq, Int.reduceLT, Int.reduceLE, Int.reduceAdd, rs, c_rOk, ok_none hf, List.length_map, hlt', hr']
theorem at_wrap (hlen : l.length ≤ LM) {s : PS} (h : s.at_ < l.length) : IntKind.wrap .i64 ((s.at_ : Int) + 1) = ((s.at_ + 1 : Nat) : Int) := wrap1 (by unfold LM at hlen; omega)
theorem isT_at {s : PS} {t : List UInt8} (h : isT l s t = true) : s.at_ < l.length := by obtain ⟨x, h1, _⟩ := isT_some h; exact (tk_some h1).2.2.1
theorem isName_at {s : PS} (h : isName l s = true) : s.at_ < l.length := by obtain ⟨x, h1, _⟩ := isName_some h; exact (tk_some h1).2.2.1
theorem c_rNeed (hlen : l.length ≤ LM) (s : PS) (t : List UInt8) (H : Heap) : calls Tryd.prog cfg 17 [.agg (cS l en s), .lit (.string (ba t))] H = some (.ret (.agg (cS l en (need l en s t))) H) := by
  refine calls_pure (fn := Tryd.f17) rfl rfl rfl rfl rfl ?_ H
  have rs : Tryd.f17.results.toList = [.cell 4 54] := rfl
  cases h : isT l s t with
  | true =>
    have hw := at_wrap hlen (isT_at h)
    have hr : need l en s t = s.adv := by simp only [need, h]
    simp only [go_sem, Nat.reduceBEq, Nat.reduceLeDiff, Nat.reduceEqDiff, Nat.reduceSub, Nat.reduceAdd, Int.reduceEq, Int.reduceLT, Int.reduceLE, Int.reduceAdd, rs, c_rIs, h, hw, hr]
  | false =>
    have hr : need l en s t = pfail l en s 0 := by simp only [need, h]
    simp only [go_sem, Nat.reduceBEq, Nat.reduceLeDiff, Nat.reduceEqDiff, Nat.reduceSub, Nat.reduceAdd, Int.reduceEq, Int.reduceLT, Int.reduceLE, Int.reduceAdd, rs, c_rIs, h, c_rFail0, hr]
set_option maxRecDepth 20000 in
theorem c_rIsName (s : PS) (H : Heap) : calls Tryd.prog cfg 35 [.agg (cS l en s)] H = some (.ret (.lit (.bool (isName l s))) H) := by
  refine calls_pure (fn := Tryd.f35) rfl rfl rfl rfl rfl ?_ H
  have rs : Tryd.f35.results.toList = [.tmp 2] := rfl
  generalize hr : isName l s = r
  unfold isName at hr
  cases hf : s.f with
  | some q =>
    rw [tk_bad hf] at hr
    have hr' : r = false := hr.symm
    simp only [go_sem, Nat.reduceBEq, Nat.reduceLeDiff, Nat.reduceEqDiff, Nat.reduceSub, Nat.reduceAdd, Int.reduceEq, Int.reduceLT, Int.reduceLE, Int.reduceAdd, rs, c_rOk, ok_some hf, hr']
  | none =>
    by_cases hlt : s.at_ < l.length
    · have hlt' : decide ((s.at_ : Int) < (l.length : Nat)) = true := by simp; omega
      have ha := iad_encG (t := 38) (bs := 32) (o := .sh) hlt
      rw [tk_in hf hlt] at hr
      generalize l.getD s.at_ default = x at ha hr
      have hr' : (rightB x.kind x.text && decide (x.kind = 0) && !keyword x.text) = r := hr
      by_cases h0 : x.kind = 0
      · have d0 : decide (x.kind = 0) = true := by simp [h0]
        rw [h0] at hr'
        have hr' : (rightB 0 x.text && !keyword x.text) = r := by rw [← hr']; simp
        simp only [go_sem, Nat.reduceBEq, Nat.reduceLeDiff, Nat.reduceEqDiff, Nat.reduceSub, Nat.reduceAdd, Int.reduceEq, Int.reduceLT, Int.reduceLE, Int.reduceAdd, rs, c_rOk, ok_none hf, List.length_map, hlt', ha, encG, d0, c_rName, hr']
      · have d0 : decide (x.kind = 0) = false := by simp [h0]
        have hr2 : r = false := by rw [← hr', d0, Bool.and_false, Bool.false_and]
        simp only [go_sem, Nat.reduceBEq, Nat.reduceLeDiff, Nat.reduceEqDiff, Nat.reduceSub, Nat.reduceAdd, Int.reduceEq, Int.reduceLT, Int.reduceLE, Int.reduceAdd, rs, c_rOk, ok_none hf, List.length_map, hlt', ha, encG, d0, hr2]
    · have hlt' : decide ((s.at_ : Int) < (l.length : Nat)) = false := by simp; omega
      rw [tk_end hlt] at hr
      have hr' : r = false := hr.symm
      simp only [go_sem, Nat.reduceBEq, Nat.reduceLeDiff, Nat.reduceEqDiff, Nat.reduceSub, Nat.reduceAdd, Int.reduceEq, Int.reduceLT, Int.reduceLE, Int.reduceAdd, rs, c_rOk, ok_none hf, List.length_map, hlt', hr']
theorem c_rName2 (hlen : l.length ≤ LM) (s : PS) (H : Heap) : calls Tryd.prog cfg 16 [.agg (cS l en s)] H =
    some (.ret (.tup [.agg (cS l en (nameP l en s).1), .lit (.string (ba (nameP l en s).2))]) H) := by
  refine calls_pure (fn := Tryd.f16) rfl rfl rfl rfl rfl ?_ H
  have rs : Tryd.f16.results.toList = [.cell 2 54, .tmp 3] := rfl
  cases h : isName l s with
  | true =>
    have hlt := isName_at h
    have hw := at_wrap hlen hlt
    have hr : nameP l en s = (s.adv, (l.getD s.at_ default).text) := by simp only [nameP, h, text]
    have ha := iad_encG (t := 38) (bs := 32) (o := .sh) hlt
    have hwb : IntKind.wrap .i64 (((s.at_ + 1 : Nat) : Int) - 1) = (s.at_ : Nat) := by unfold LM at hlen; rw [wrap64 (by omega) (by omega)]; omega
    have hadv : s.adv.at_ = s.at_ + 1 := rfl
    rw [hr]
    generalize l.getD s.at_ default = x at ha
    simp only [go_sem, Nat.reduceBEq, Nat.reduceLeDiff, Nat.reduceEqDiff, Nat.reduceSub, Nat.reduceAdd, Int.reduceEq, Int.reduceLT, Int.reduceLE, Int.reduceAdd, rs, c_rIsName, h, hw]
    refine W_draw [(0, 2), (0, 4), (2, 4), (0, 8), (2, 9), (4, 9), (8, 9)] (by kernel_rfl) ?_
    simp only [go_sem, Nat.reduceBEq, Nat.reduceLeDiff, Nat.reduceEqDiff, Nat.reduceSub, Nat.reduceAdd, Int.reduceEq, Int.reduceLT, Int.reduceLE, Int.reduceAdd, rs, hadv, hwb, ha, encG]
  | false =>
    have hr : nameP l en s = (pfail l en s 0, []) := by simp only [nameP, h]
    rw [hr]
    simp only [go_sem, Nat.reduceBEq, Nat.reduceLeDiff, Nat.reduceEqDiff, Nat.reduceSub, Nat.reduceAdd, Int.reduceEq, Int.reduceLT, Int.reduceLE, Int.reduceAdd, rs, c_rIsName, h, c_rFail0]
end
end Go.Proofs.YtghhkbigmmjanaaDoor.VA

/-! Pd3 -/
namespace Go.Proofs.YtghhkbigmmjanaaDoor.VA
open Go Go.RowKit
attribute [local go_sem] Nat.add_eq_left Nat.left_eq_add true_and and_true ite_true if_false Int.cast_ofNat_Int eq_self Nat.add_assoc Option.some.injEq decide_true decide_false Bool.not_true Bool.not_false List.size_toArray List.length_cons List.length_nil
set_option linter.unusedSimpArgs false
set_option maxRecDepth 100000

/-! ### numbers -/
theorem numOf_snoc (t : List UInt8) (b : UInt8) : numOf (t ++ [b]) = 10 * numOf t + (b.toNat - 48) := by simp [numOf]
theorem numOf_lt : ∀ (n : Nat) (t : List UInt8), t.length = n → t.all (fun b => isDigit b.toNat) = true → numOf t < 10 ^ n
  | 0, t, h, _ => by rw [List.eq_nil_of_length_eq_zero h]; simp [numOf]
  | n + 1, t, h, hd => by
    have hne : t ≠ [] := by intro e; rw [e] at h; cases h
    rw [← List.dropLast_concat_getLast hne] at hd ⊢
    rw [numOf_snoc]
    rw [List.all_append, Bool.and_eq_true] at hd
    have h1 := numOf_lt n t.dropLast (by rw [List.length_dropLast, h]; rfl) hd.1
    have h2 : isDigit (t.getLast hne).toNat = true := by simpa using hd.2
    simp only [isDigit, Bool.and_eq_true, decide_eq_true_eq] at h2
    rw [Nat.pow_succ]
    omega
theorem right_num {x : GTok} (h : rightG x = true) (hk : x.kind = 1) : x.text.all (fun b => isDigit b.toNat) = true ∧ 1 ≤ x.text.length ∧ x.text.length ≤ 9 := by
  have h' : rightR x.kind x.text = true := by rw [← rightB_R]; exact h
  rw [hk] at h'
  simp only [rightR, Bool.and_eq_true, decide_eq_true_eq] at h'
  obtain ⟨⟨h1, h2⟩, h3, h4⟩ := h'
  exact ⟨by simpa [okB] using h3, h1, by simpa [endB] using h4⟩
section
variable {l : List GTok} {en : Int}
set_option maxRecDepth 20000 in
theorem c_rOperand (hlen : l.length ≤ LM) (s : PS) (H : Heap) : calls Tryd.prog cfg 57 [.agg (cS l en s)] H =
    some (.ret (.tup [.agg (cS l en (operand l en s).1), .agg (encOpd (operand l en s).2)]) H) := by
  refine calls_pure (fn := Tryd.f57) rfl rfl rfl rfl rfl ?_ H
  have rs : Tryd.f57.results.toList = [.cell 2 54, .cell 3 67] := rfl
  generalize hr : operand l en s = r
  unfold operand at hr
  have hd : ∀ a b : List UInt8, decide (ba a = ba b) = (a == b) := fun a b => by rw [Bool.eq_iff_iff]; simp [ba_inj]
  have hmN : ba tNull = ba [110, 117, 108, 108] := rfl
  have hmT : ba tTrue = ba [116, 114, 117, 101] := rfl
  have hmF : ba tFalse = ba [102, 97, 108, 115, 101] := rfl
  cases h1 : isT l s [110, 117, 108, 108] with
  | true =>
    obtain ⟨x, hx, hx1, hx2, hx3⟩ := isT_some h1
    have hlt := isT_at h1
    have hw := at_wrap hlen hlt
    have ha := iad_encG (t := 38) (bs := 32) (o := .sh) hlt
    rw [(tk_some hx).2.2.2] at ha
    have d : (([110, 117, 108, 108] : List UInt8) == [110, 117, 108, 108]) = true := rfl
    have hr' : r = (s.adv, ⟨0, 0, []⟩) := by rw [← hr, show isT l s tNull = true from h1]
    have e0 : ([.lit (.int .i64 0), .lit (.int .i64 0), .lit (.string (ba []))] : List AV) = encOpd ⟨0, 0, []⟩ := rfl
    simp only [go_sem, Nat.reduceBEq, Nat.reduceLeDiff, Nat.reduceEqDiff, Nat.reduceSub, Nat.reduceAdd, Int.reduceEq, Int.reduceLT, Int.reduceLE, Int.reduceAdd, rs, c_rIs, h1, ha, encG, hx2, hd, d, hw, hr', e0]
  | false =>
  rw [show isT l s tNull = false from h1] at hr
  simp only at hr
  cases h2 : isT l s [116, 114, 117, 101] with
  | true =>
    obtain ⟨x, hx, hx1, hx2, hx3⟩ := isT_some h2
    have hlt := isT_at h2
    have hw := at_wrap hlen hlt
    have ha := iad_encG (t := 38) (bs := 32) (o := .sh) hlt
    rw [(tk_some hx).2.2.2] at ha
    have d : (([116, 114, 117, 101] : List UInt8) == [110, 117, 108, 108]) = false := rfl
    have d2 : (([116, 114, 117, 101] : List UInt8) == [116, 114, 117, 101]) = true := rfl
    have hr' : r = (s.adv, ⟨1, 1, []⟩) := by rw [← hr, show isT l s tTrue = true from h2]
    have e0 : ([.lit (.int .i64 1), .lit (.int .i64 1), .lit (.string (ba []))] : List AV) = encOpd ⟨1, 1, []⟩ := rfl
    simp only [go_sem, Nat.reduceBEq, Nat.reduceLeDiff, Nat.reduceEqDiff, Nat.reduceSub, Nat.reduceAdd, Int.reduceEq, Int.reduceLT, Int.reduceLE, Int.reduceAdd, rs, c_rIs, h1, h2, ha, encG, hx2, hd, d, d2, hw, hr', e0]
    refine W_draw [(0, 1), (1, 2)] (by kernel_rfl) ?_
    simp only [go_sem, Nat.reduceBEq, Nat.reduceLeDiff, Nat.reduceEqDiff, Nat.reduceSub, Nat.reduceAdd, Int.reduceEq, Int.reduceLT, Int.reduceLE, Int.reduceAdd, rs, e0]
  | false =>
  rw [show isT l s tTrue = false from h2] at hr
  simp only at hr
  cases h3 : isT l s [102, 97, 108, 115, 101] with
  | true =>
    obtain ⟨x, hx, hx1, hx2, hx3⟩ := isT_some h3
    have hlt := isT_at h3
    have hw := at_wrap hlen hlt
    have ha := iad_encG (t := 38) (bs := 32) (o := .sh) hlt
    rw [(tk_some hx).2.2.2] at ha
    have d : (([102, 97, 108, 115, 101] : List UInt8) == [110, 117, 108, 108]) = false := rfl
    have d2 : (([102, 97, 108, 115, 101] : List UInt8) == [116, 114, 117, 101]) = false := rfl
    have hr' : r = (s.adv, ⟨1, 0, []⟩) := by rw [← hr, show isT l s tFalse = true from h3]
    have e0 : ([.lit (.int .i64 1), .lit (.int .i64 0), .lit (.string (ba []))] : List AV) = encOpd ⟨1, 0, []⟩ := rfl
    simp only [go_sem, Nat.reduceBEq, Nat.reduceLeDiff, Nat.reduceEqDiff, Nat.reduceSub, Nat.reduceAdd, Int.reduceEq, Int.reduceLT, Int.reduceLE, Int.reduceAdd, rs, c_rIs, h1, h2, h3, ha, encG, hx2, hd, d, d2, hw, hr', e0]
    refine W_draw [(0, 1), (1, 2)] (by kernel_rfl) ?_
    simp only [go_sem, Nat.reduceBEq, Nat.reduceLeDiff, Nat.reduceEqDiff, Nat.reduceSub, Nat.reduceAdd, Int.reduceEq, Int.reduceLT, Int.reduceLE, Int.reduceAdd, rs, e0]
  | false =>
  rw [show isT l s tFalse = false from h3] at hr
  simp only at hr
  have nameC := c_rName2 (en := en) hlen
  cases h4 : isT l s [38] with
  | true =>
    have hw := at_wrap hlen (isT_at h4)
    rw [h4] at hr
    simp only at hr
    have e0 : ([.lit (.int .i64 3), .lit (.int .i64 0), .lit (.string (ba (nameP l en s.adv).2))] : List AV) = encOpd ⟨3, 0, (nameP l en s.adv).2⟩ := rfl
    simp only [go_sem, Nat.reduceBEq, Nat.reduceLeDiff, Nat.reduceEqDiff, Nat.reduceSub, Nat.reduceAdd, Int.reduceEq, Int.reduceLT, Int.reduceLE, Int.reduceAdd, rs, c_rIs, h1, h2, h3, h4, hw, nameC, e0, ← hr]
  | false =>
  rw [h4] at hr
  simp only at hr
  have e4 : ([.lit (.int .i64 4), .lit (.int .i64 0), .lit (.string (ba (nameP l en s).2))] : List AV) = encOpd ⟨4, 0, (nameP l en s).2⟩ := rfl
  have last : isNum l s = false → r = ((nameP l en s).1, ⟨4, 0, (nameP l en s).2⟩) := fun h => by rw [← hr, h]
  have hk : ∀ x, tk l s = some x → isNum l s = (rightG x && decide (x.kind = 1)) := fun x hx => by simp only [isNum, hx]
  cases hf : s.f with
  | some q =>
    have hn : isNum l s = false := by simp only [isNum, tk_bad hf]
    simp only [go_sem, Nat.reduceBEq, Nat.reduceLeDiff, Nat.reduceEqDiff, Nat.reduceSub, Nat.reduceAdd, Int.reduceEq, Int.reduceLT, Int.reduceLE, Int.reduceAdd, rs, c_rIs, h1, h2, h3, h4, c_rOk, ok_some hf, nameC, e4, last hn]
  | none =>
    by_cases hlt : s.at_ < l.length
    · have hlt' : decide ((s.at_ : Int) < (l.length : Nat)) = true := by simp; omega
      have hx := tk_in hf hlt
      have ha := iad_encG (t := 38) (bs := 32) (o := .sh) hlt
      have htx : text l s = (l.getD s.at_ default).text := rfl
      generalize hxx : l.getD s.at_ default = x at hx ha htx
      have hk := hk x hx
      by_cases k1 : x.kind = 1
      · have d1 : decide (x.kind = 1) = true := by simp [k1]
        rw [d1, Bool.and_true] at hk
        cases hg : rightB x.kind x.text with
        | true =>
          obtain ⟨n1, n2, n3⟩ := right_num (x := x) hg k1
          have hn : isNum l s = true := by rw [hk]; exact hg
          rw [hn, htx] at hr
          simp only at hr
          have hw := at_wrap hlen hlt
          simp only [go_sem, Nat.reduceBEq, Nat.reduceLeDiff, Nat.reduceEqDiff, Nat.reduceSub, Nat.reduceAdd, Int.reduceEq, Int.reduceLT, Int.reduceLE, Int.reduceAdd, rs, c_rIs, h1, h2, h3, h4, c_rOk, ok_none hf, List.length_map, hlt', ha, encG, d1, c_rRight, hg]
          refine W_loop_ind (fun n e H => ∃ i : Nat, n = x.text.length - i ∧ i ≤ x.text.length ∧ gget .bad e 1 = .ptr 0 0 ∧ gget .bad e 2 = .ptr 1 0 ∧ gget .bad e 3 = .ptr 2 0 ∧ gget .bad e 8 = .lit (.int .i64 (numOf (x.text.take i) : Nat)) ∧
              gget .bad e 9 = .lit (.string (ba x.text)) ∧ gget .bad e 10 = .lit (.int .i64 (i : Nat)) ∧ H.get 0 = some (cS l en s) ∧ (∃ c0, H.get 1 = some c0 ∧ c0.length = 6) ∧ H.get 2 = some [.lit (.int .i64 0), .lit (.int .i64 0), .lit (.string (ba []))])
            x.text.length ⟨0, rfl, by omega, by simp only [go_sem, Nat.reduceBEq, Nat.reduceLeDiff, Nat.reduceEqDiff, Nat.reduceSub, Nat.reduceAdd, Int.reduceEq, Int.reduceLT, Int.reduceLE, Int.reduceAdd], by simp only [go_sem, Nat.reduceBEq, Nat.reduceLeDiff, Nat.reduceEqDiff, Nat.reduceSub, Nat.reduceAdd, Int.reduceEq, Int.reduceLT, Int.reduceLE, Int.reduceAdd], by simp only [go_sem, Nat.reduceBEq, Nat.reduceLeDiff, Nat.reduceEqDiff, Nat.reduceSub, Nat.reduceAdd, Int.reduceEq, Int.reduceLT, Int.reduceLE, Int.reduceAdd], by simp only [go_sem, Nat.reduceBEq, Nat.reduceLeDiff, Nat.reduceEqDiff, Nat.reduceSub, Nat.reduceAdd, Int.reduceEq, Int.reduceLT, Int.reduceLE, Int.reduceAdd] <;> rfl, by simp only [go_sem, Nat.reduceBEq, Nat.reduceLeDiff, Nat.reduceEqDiff, Nat.reduceSub, Nat.reduceAdd, Int.reduceEq, Int.reduceLT, Int.reduceLE, Int.reduceAdd], by simp only [go_sem, Nat.reduceBEq, Nat.reduceLeDiff, Nat.reduceEqDiff, Nat.reduceSub, Nat.reduceAdd, Int.reduceEq, Int.reduceLT, Int.reduceLE, Int.reduceAdd] <;> rfl, by simp only [go_sem, Nat.reduceBEq, Nat.reduceLeDiff, Nat.reduceEqDiff, Nat.reduceSub, Nat.reduceAdd, Int.reduceEq, Int.reduceLT, Int.reduceLE, Int.reduceAdd], ⟨_, by simp only [go_sem, Nat.reduceBEq, Nat.reduceLeDiff, Nat.reduceEqDiff, Nat.reduceSub, Nat.reduceAdd, Int.reduceEq, Int.reduceLT, Int.reduceLE, Int.reduceAdd] <;> rfl, rfl⟩, by simp only [go_sem, Nat.reduceBEq, Nat.reduceLeDiff, Nat.reduceEqDiff, Nat.reduceSub, Nat.reduceAdd, Int.reduceEq, Int.reduceLT, Int.reduceLE, Int.reduceAdd]⟩ ?_
          rintro n ih e H ⟨i, rfl, hle, q1, q2, q3, q8, q9, q10, g0, ⟨c0, g1, g1l⟩, g2⟩
          by_cases hi : i < x.text.length
          · have hi' : decide ((i : Int) < (x.text.length : Nat)) = true := by simp; omega
            have hix := ixs_ba hi
            have hbd : isDigit (x.text.getD i 0).toNat = true := by
              rw [List.getD_eq_getElem?_getD, List.getElem?_eq_getElem hi]
              exact List.all_eq_true.1 n1 _ (List.getElem_mem hi)
            have htk : x.text.take (i + 1) = x.text.take i ++ [x.text.getD i 0] := by
              rw [List.take_succ_eq_append_getElem hi, List.getD_eq_getElem?_getD, List.getElem?_eq_getElem hi]; rfl
            have hb1 : numOf (x.text.take i) < 10 ^ i := numOf_lt i _ (by rw [List.length_take]; omega) (by
              rw [List.all_eq_true] at n1 ⊢
              exact fun y hy => n1 y (List.mem_of_mem_take hy))
            have hb2 : 10 ^ i ≤ 10 ^ 9 := Nat.pow_le_pow_right (by decide) (by omega)
            generalize x.text.getD i 0 = b at hix hbd htk
            generalize hm : numOf (x.text.take i) = m at hb1 q8
            simp only [isDigit, Bool.and_eq_true, decide_eq_true_eq] at hbd
            have w1 : IntKind.wrap .i64 (10 * (m : Int)) = ((10 * m : Nat) : Int) := by rw [wrap64 (by omega) (by omega)]; omega
            have w2 : IntKind.wrap .u8 ((b.toNat : Int) - 48) = ((b.toNat - 48 : Nat) : Int) := by simp only [IntKind.wrap, IntKind.bits, IntKind.signed]; simp; omega
            have w3 : IntKind.wrap .i64 ((b.toNat - 48 : Nat) : Int) = ((b.toNat - 48 : Nat) : Int) := wrap64 (by omega) (by omega)
            have w4 := wrapN (a := 10 * m) (b := b.toNat - 48) (by omega)
            have w5 := wrap1 (show i + 1 ≤ 9223372036854775807 by omega)
            have hnn : numOf (x.text.take (i + 1)) = 10 * m + (b.toNat - 48) := by rw [htk, numOf_snoc, hm]
            simp only [go_sem, Nat.reduceBEq, Nat.reduceLeDiff, Nat.reduceEqDiff, Nat.reduceSub, Nat.reduceAdd, Int.reduceEq, Int.reduceLT, Int.reduceLE, Int.reduceAdd, q1, q2, q3, q8, q9, q10, g0, g1, g2, ba_size, hi', hix, w1, w2, w3, w4, w5]
            exact ih (x.text.length - (i + 1)) (by omega) _ _ ⟨i + 1, rfl, by omega, by simp only [go_sem, Nat.reduceBEq, Nat.reduceLeDiff, Nat.reduceEqDiff, Nat.reduceSub, Nat.reduceAdd, Int.reduceEq, Int.reduceLT, Int.reduceLE, Int.reduceAdd, q1], by simp only [go_sem, Nat.reduceBEq, Nat.reduceLeDiff, Nat.reduceEqDiff, Nat.reduceSub, Nat.reduceAdd, Int.reduceEq, Int.reduceLT, Int.reduceLE, Int.reduceAdd, q2], by simp only [go_sem, Nat.reduceBEq, Nat.reduceLeDiff, Nat.reduceEqDiff, Nat.reduceSub, Nat.reduceAdd, Int.reduceEq, Int.reduceLT, Int.reduceLE, Int.reduceAdd, q3], by simp only [go_sem, Nat.reduceBEq, Nat.reduceLeDiff, Nat.reduceEqDiff, Nat.reduceSub, Nat.reduceAdd, Int.reduceEq, Int.reduceLT, Int.reduceLE, Int.reduceAdd, hnn], by simp only [go_sem, Nat.reduceBEq, Nat.reduceLeDiff, Nat.reduceEqDiff, Nat.reduceSub, Nat.reduceAdd, Int.reduceEq, Int.reduceLT, Int.reduceLE, Int.reduceAdd, q9], by simp only [go_sem, Nat.reduceBEq, Nat.reduceLeDiff, Nat.reduceEqDiff, Nat.reduceSub, Nat.reduceAdd, Int.reduceEq, Int.reduceLT, Int.reduceLE, Int.reduceAdd], by simp only [go_sem, Nat.reduceBEq, Nat.reduceLeDiff, Nat.reduceEqDiff, Nat.reduceSub, Nat.reduceAdd, Int.reduceEq, Int.reduceLT, Int.reduceLE, Int.reduceAdd, g0],
              ⟨c0, by simp only [go_sem, Nat.reduceBEq, Nat.reduceLeDiff, Nat.reduceEqDiff, Nat.reduceSub, Nat.reduceAdd, Int.reduceEq, Int.reduceLT, Int.reduceLE, Int.reduceAdd, g1], g1l⟩, by simp only [go_sem, Nat.reduceBEq, Nat.reduceLeDiff, Nat.reduceEqDiff, Nat.reduceSub, Nat.reduceAdd, Int.reduceEq, Int.reduceLT, Int.reduceLE, Int.reduceAdd, g2]⟩
          · have hi' : decide ((i : Int) < (x.text.length : Nat)) = false := by simp; omega
            have htk : x.text.take i = x.text := List.take_of_length_le (by omega)
            rw [htk] at q8
            have e2 : ([.lit (.int .i64 2), .lit (.int .i64 ((numOf x.text : Nat) : Int)), .lit (.string (ba []))] : List AV) = encOpd ⟨2, (numOf x.text : Nat), []⟩ := rfl
            have c6 : c0.drop 6 = [] := List.drop_of_length_le (by omega)
            have c7 : 6 ≤ c0.length := by omega
            simp only [go_sem, Nat.reduceBEq, Nat.reduceLeDiff, Nat.reduceEqDiff, Nat.reduceSub, Nat.reduceAdd, Int.reduceEq, Int.reduceLT, Int.reduceLE, Int.reduceAdd, rs, q1, q2, q3, q8, q9, q10, g0, g1, g2, ba_size, hi', hw, c6, c7, e2, ← hr]
        | false =>
          have hn : isNum l s = false := by rw [hk]; exact hg
          simp only [go_sem, Nat.reduceBEq, Nat.reduceLeDiff, Nat.reduceEqDiff, Nat.reduceSub, Nat.reduceAdd, Int.reduceEq, Int.reduceLT, Int.reduceLE, Int.reduceAdd, rs, c_rIs, h1, h2, h3, h4, c_rOk, ok_none hf, List.length_map, hlt', ha, encG, d1, c_rRight, hg, nameC, e4, last hn]
      · have d1 : decide (x.kind = 1) = false := by simp [k1]
        have hn : isNum l s = false := by rw [hk, d1, Bool.and_false]
        simp only [go_sem, Nat.reduceBEq, Nat.reduceLeDiff, Nat.reduceEqDiff, Nat.reduceSub, Nat.reduceAdd, Int.reduceEq, Int.reduceLT, Int.reduceLE, Int.reduceAdd, rs, c_rIs, h1, h2, h3, h4, c_rOk, ok_none hf, List.length_map, hlt', ha, encG, d1, nameC, e4, last hn]
    · have hlt' : decide ((s.at_ : Int) < (l.length : Nat)) = false := by simp; omega
      have hn : isNum l s = false := by simp only [isNum, tk_end hlt]
      simp only [go_sem, Nat.reduceBEq, Nat.reduceLeDiff, Nat.reduceEqDiff, Nat.reduceSub, Nat.reduceAdd, Int.reduceEq, Int.reduceLT, Int.reduceLE, Int.reduceAdd, rs, c_rIs, h1, h2, h3, h4, c_rOk, ok_none hf, List.length_map, hlt', nameC, e4, last hn]
end
end Go.Proofs.YtghhkbigmmjanaaDoor.VA

/-! Pd4 -/
namespace Go.Proofs.YtghhkbigmmjanaaDoor.VA
open Go Go.RowKit
attribute [local go_sem] Nat.add_eq_left Nat.left_eq_add true_and and_true ite_true if_false Int.cast_ofNat_Int eq_self Nat.add_assoc Option.some.injEq decide_true decide_false Bool.not_true Bool.not_false List.size_toArray List.length_cons List.length_nil
set_option linter.unusedSimpArgs false
set_option maxRecDepth 100000

section
variable {l : List GTok} {en : Int}
/-- How many rounds are left. -/
def ms (l : List GTok) (s : PS) : Nat := if s.ok = true then l.length - s.at_ + 1 else 0
theorem ms_lt {s s' : PS} (h : Lt1 l s s') (hk : s.ok = true) : ms l s' < ms l s := by
  unfold ms
  rw [if_pos hk]
  by_cases hk' : s'.ok = true
  · obtain ⟨_, h2, h3⟩ := h hk'
    rw [if_pos hk']; omega
  · rw [if_neg hk']; omega
theorem ms_le (s : PS) : ms l s ≤ l.length + 1 := by unfold ms; split <;> omega
theorem ms_FN (hlen : l.length ≤ LM) (s : PS) : ms l s < FN := by have := ms_le (l := l) s; unfold LM at hlen; unfold FN; omega
theorem listF_bad {X : Type} (one : PS → X → PS × X) (end_ : List UInt8) {s : PS} (h : s.ok = false) (x : X) : ∀ n, listF l en one end_ n s x = (s, x)
  | 0 => rfl
  | n + 1 => by simp only [listF, h]
theorem listF_end {X : Type} {one : PS → X → PS × X} {end_ : List UInt8} {s : PS} {x : X} {n : Nat} (h : s.ok = true) (hn : ms l s < n) (h2 : isT l (one s x).1 end_ = true) : listF l en one end_ n s x = ((one s x).1.adv, (one s x).2) := by
  obtain ⟨n, rfl⟩ : ∃ k, n = k + 1 := ⟨n - 1, by omega⟩
  simp only [listF, h, h2]
theorem listF_more {X : Type} {one : PS → X → PS × X} {end_ : List UInt8} {s : PS} {x : X} {n : Nat} (h : s.ok = true) (hn : ms l s < n) (h2 : isT l (one s x).1 end_ = false) :
    ∃ k, n = k + 1 ∧ listF l en one end_ n s x = listF l en one end_ k (need l en (one s x).1 [44]) (one s x).2 := by
  obtain ⟨k, rfl⟩ : ∃ k, n = k + 1 := ⟨n - 1, by omega⟩
  exact ⟨k, rfl, by simp only [listF, h, h2]⟩
theorem app_opd (hlen : l.length ≤ LM) {acc : List Opd} (h : acc.length ≤ l.length + 5) (o : Own) (x : Opd) (H : Heap) (id : Nat) (ho : AppOk H o acc.length 67 3) :
    aAppend Tryd.prog 63 (.sl o (acc.map encOpd)) (.sl .ex [encOpd x]) H id = some (.sl (.own id 67 3) ((acc ++ [x]).map encOpd), ownUs o id, ownRs o) := by
  rw [append_any el_sOpd zo_sOpd (by decide) (by simp; unfold LM at hlen; omega) (by simp; unfold LM at hlen; omega) (by rfl) H id (by simpa using ho)]
  simp [sanLL, sanL_encOpd]
theorem app_str (hlen : l.length ≤ LM) {acc : List (List UInt8)} (h : acc.length ≤ l.length + 5) (o : Own) (x : List UInt8) (H : Heap) (id : Nat) (ho : AppOk H o acc.length 9 1) :
    aAppend Tryd.prog 41 (.sl o (acc.map encStr)) (.sl .ex [encStr x]) H id = some (.sl (.own id 9 1) ((acc ++ [x]).map encStr), ownUs o id, ownRs o) := by
  rw [append_any el_str zo_str (by decide) (by simp; unfold LM at hlen; omega) (by simp; unfold LM at hlen; omega) (by rfl) H id (by simpa using ho)]
  simp [sanLL, sanL_encStr]
theorem bs0_opd : aBuildSlice Tryd.prog 63 0 [] = some (.sl .ex []) := build0 el_sOpd zr_opd rfl rfl
theorem bs0_stm : aBuildSlice Tryd.prog 42 0 [] = some (.sl .ex []) := build0 el_sStm zr_stm rfl rfl
theorem bs0_str : aBuildSlice Tryd.prog 41 0 [] = some (.sl .ex []) := build0 (z := [.lit (.string ⟨#[]⟩)]) el_str (by kernel_rfl) rfl rfl
set_option maxRecDepth 20000 in
theorem c_rArgs (hlen : l.length ≤ LM) (s : PS) (H : Heap) : calls Tryd.prog cfg 66 [.agg (cS l en s)] H =
    some (.ret (.tup [.agg (cS l en (args l en s).1), .sl .sh ((args l en s).2.map encOpd)]) H) := by
  refine calls_pure (fn := Tryd.f66) rfl rfl rfl rfl rfl ?_ H
  have rs : Tryd.f66.results.toList = [.cell 2 54, .tmp 3] := rfl
  generalize hr : args l en s = r
  unfold args listP at hr
  have hlt := need_lt (l := l) (en := en) s [40]
  simp only [go_sem, Nat.reduceBEq, Nat.reduceLeDiff, Nat.reduceEqDiff, Nat.reduceSub, Nat.reduceAdd, Int.reduceEq, Int.reduceLT, Int.reduceLE, Int.reduceAdd, rs, bs0_opd, c_rNeed hlen, c_rIs]
  generalize need l en s [40] = s at hr hlt
  have hneed : ∀ (s : PS) (t : List UInt8), isT l s t = true → need l en s t = s.adv := fun s t h => by simp only [need, h]
  cases h : isT l s [41] with
  | true =>
    rw [h] at hr
    simp only [go_sem, Nat.reduceBEq, Nat.reduceLeDiff, Nat.reduceEqDiff, Nat.reduceSub, Nat.reduceAdd, Int.reduceEq, Int.reduceLT, Int.reduceLE, Int.reduceAdd, rs, c_rNeed hlen, hneed s _ h, ← hr, List.map_nil]
  | false =>
    rw [h] at hr
    simp only [go_sem, Nat.reduceBEq, Nat.reduceLeDiff, Nat.reduceEqDiff, Nat.reduceSub, Nat.reduceAdd, Int.reduceEq, Int.reduceLT, Int.reduceLE, Int.reduceAdd]
    refine W_loop_ind (fun n e H => ∃ (s : PS) (acc : List (Opd)) (o : Own) (k : Nat), n = ms l s ∧ ms l s < k ∧ listF l en (oneArg l en) [41] k s acc = r ∧ (s.ok = true → acc.length ≤ s.at_ ∧ s.at_ ≤ l.length) ∧
        gget .bad e 1 = .ptr 0 0 ∧ gget .bad e 2 = .ptr 1 0 ∧ gget .bad e 4 = .sl o (acc.map encOpd) ∧ H.get 0 = some (cS l en s) ∧ H.get 1 = some [.sl .nil [], .lit (.int .i64 0), .lit (.int .i64 0), .lit (.int .i64 0), .lit (.int .i64 0), .lit (.int .i64 0)] ∧ 2 ≤ H.next ∧ AppOk H o acc.length 67 3)
      (ms l s) ⟨s, [], .ex, FN, rfl, ms_FN hlen s, hr, fun hk => ⟨by simp, (hlt hk).2.2⟩, by simp only [go_sem, Nat.reduceBEq, Nat.reduceLeDiff, Nat.reduceEqDiff, Nat.reduceSub, Nat.reduceAdd, Int.reduceEq, Int.reduceLT, Int.reduceLE, Int.reduceAdd], by simp only [go_sem, Nat.reduceBEq, Nat.reduceLeDiff, Nat.reduceEqDiff, Nat.reduceSub, Nat.reduceAdd, Int.reduceEq, Int.reduceLT, Int.reduceLE, Int.reduceAdd], by simp only [go_sem, Nat.reduceBEq, Nat.reduceLeDiff, Nat.reduceEqDiff, Nat.reduceSub, Nat.reduceAdd, Int.reduceEq, Int.reduceLT, Int.reduceLE, Int.reduceAdd, List.map_nil], by simp only [go_sem, Nat.reduceBEq, Nat.reduceLeDiff, Nat.reduceEqDiff, Nat.reduceSub, Nat.reduceAdd, Int.reduceEq, Int.reduceLT, Int.reduceLE, Int.reduceAdd], by simp only [go_sem, Nat.reduceBEq, Nat.reduceLeDiff, Nat.reduceEqDiff, Nat.reduceSub, Nat.reduceAdd, Int.reduceEq, Int.reduceLT, Int.reduceLE, Int.reduceAdd], by simp only [go_sem, Nat.reduceBEq, Nat.reduceLeDiff, Nat.reduceEqDiff, Nat.reduceSub, Nat.reduceAdd, Int.reduceEq, Int.reduceLT, Int.reduceLE, Int.reduceAdd], by simp only [go_sem, Nat.reduceBEq, Nat.reduceLeDiff, Nat.reduceEqDiff, Nat.reduceSub, Nat.reduceAdd, Int.reduceEq, Int.reduceLT, Int.reduceLE, Int.reduceAdd]⟩ ?_
    clear hlt h hr s
    rintro n ih e H ⟨s, acc, o, k, rfl, hk, hr, hb, e1, e2, e4, g0, g1, hnx, ho⟩
    obtain ⟨m, hm⟩ : ∃ m, H.next = m + 2 := ⟨H.next - 2, by omega⟩
    cases hok : s.ok with
    | false =>
      rw [listF_bad _ _ hok] at hr
      simp only [go_sem, Nat.reduceBEq, Nat.reduceLeDiff, Nat.reduceEqDiff, Nat.reduceSub, Nat.reduceAdd, Int.reduceEq, Int.reduceLT, Int.reduceLE, Int.reduceAdd, rs, e1, e2, e4, g0, g1, hm, c_rOk, hok, ← hr, sanLL_encOpd]
    | true =>
      obtain ⟨hb1, hb2⟩ := hb hok
      have hap := fun o x H id h => app_opd hlen (acc := acc) (by omega) o x H id h
      have hlt := operand_lt (l := l) (en := en) s
      have hone : oneArg l en s acc = ((operand l en s).1, acc ++ [(operand l en s).2]) := rfl
      cases h : isT l (operand l en s).1 [41] with
      | true =>
        have hr' : ((operand l en s).1.adv, acc ++ [(operand l en s).2]) = r := by rw [← hr, listF_end hok hk h]; rfl
        simp only [go_sem, Nat.reduceBEq, Nat.reduceLeDiff, Nat.reduceEqDiff, Nat.reduceSub, Nat.reduceAdd, Int.reduceEq, Int.reduceLT, Int.reduceLE, Int.reduceAdd, rs, e1, e2, e4, g0, g1, hm, c_rOk, hok, c_rOperand hlen, hap, ho, c_rIs, h, c_rNeed hlen, hneed _ _ h, ← hr', sanLL_encOpd]
      | false =>
        obtain ⟨k, rfl, h2⟩ := listF_more (one := oneArg l en) (x := acc) hok hk h
        rw [h2] at hr
        have hlt2 := hlt.trans_le (need_lt (en := en) _ [44]).le
        have hms := ms_lt hlt2 hok
        simp only [go_sem, Nat.reduceBEq, Nat.reduceLeDiff, Nat.reduceEqDiff, Nat.reduceSub, Nat.reduceAdd, Int.reduceEq, Int.reduceLT, Int.reduceLE, Int.reduceAdd, rs, e1, e2, e4, g0, g1, hm, c_rOk, hok, c_rOperand hlen, hap, ho, c_rIs, h, c_rNeed hlen]
        exact ih _ hms _ _ ⟨_, _, _, k, rfl, by omega, hr, fun hk' => by have := hlt2 hk'; simp [oneArg]; omega, by simp only [go_sem, Nat.reduceBEq, Nat.reduceLeDiff, Nat.reduceEqDiff, Nat.reduceSub, Nat.reduceAdd, Int.reduceEq, Int.reduceLT, Int.reduceLE, Int.reduceAdd, e1], by simp only [go_sem, Nat.reduceBEq, Nat.reduceLeDiff, Nat.reduceEqDiff, Nat.reduceSub, Nat.reduceAdd, Int.reduceEq, Int.reduceLT, Int.reduceLE, Int.reduceAdd, e2], by simp only [go_sem, Nat.reduceBEq, Nat.reduceLeDiff, Nat.reduceEqDiff, Nat.reduceSub, Nat.reduceAdd, Int.reduceEq, Int.reduceLT, Int.reduceLE, Int.reduceAdd, oneArg] <;> rfl, by simp only [go_sem, Nat.reduceBEq, Nat.reduceLeDiff, Nat.reduceEqDiff, Nat.reduceSub, Nat.reduceAdd, Int.reduceEq, Int.reduceLT, Int.reduceLE, Int.reduceAdd, oneArg], by simp only [go_sem, Nat.reduceBEq, Nat.reduceLeDiff, Nat.reduceEqDiff, Nat.reduceSub, Nat.reduceAdd, Int.reduceEq, Int.reduceLT, Int.reduceLE, Int.reduceAdd, g1], by simp only [go_sem, Nat.reduceBEq, Nat.reduceLeDiff, Nat.reduceEqDiff, Nat.reduceSub, Nat.reduceAdd, Int.reduceEq, Int.reduceLT, Int.reduceLE, Int.reduceAdd, hm], by simp only [go_sem, Nat.reduceBEq, Nat.reduceLeDiff, Nat.reduceEqDiff, Nat.reduceSub, Nat.reduceAdd, Int.reduceEq, Int.reduceLT, Int.reduceLE, Int.reduceAdd]⟩
set_option maxRecDepth 20000 in
theorem c_rNames (hlen : l.length ≤ LM) (s : PS) (H : Heap) : calls Tryd.prog cfg 18 [.agg (cS l en s)] H =
    some (.ret (.tup [.agg (cS l en (names l en s).1), .sl .sh ((names l en s).2.map encStr)]) H) := by
  refine calls_pure (fn := Tryd.f18) rfl rfl rfl rfl rfl ?_ H
  have rs : Tryd.f18.results.toList = [.cell 2 54, .tmp 3] := rfl
  generalize hr : names l en s = r
  unfold names listP at hr
  have hlt := need_lt (l := l) (en := en) s [40]
  simp only [go_sem, Nat.reduceBEq, Nat.reduceLeDiff, Nat.reduceEqDiff, Nat.reduceSub, Nat.reduceAdd, Int.reduceEq, Int.reduceLT, Int.reduceLE, Int.reduceAdd, rs, bs0_str, c_rNeed hlen, c_rIs]
  generalize need l en s [40] = s at hr hlt
  have hneed : ∀ (s : PS) (t : List UInt8), isT l s t = true → need l en s t = s.adv := fun s t h => by simp only [need, h]
  cases h : isT l s [41] with
  | true =>
    rw [h] at hr
    simp only [go_sem, Nat.reduceBEq, Nat.reduceLeDiff, Nat.reduceEqDiff, Nat.reduceSub, Nat.reduceAdd, Int.reduceEq, Int.reduceLT, Int.reduceLE, Int.reduceAdd, rs, c_rNeed hlen, hneed s _ h, ← hr, List.map_nil]
  | false =>
    rw [h] at hr
    simp only [go_sem, Nat.reduceBEq, Nat.reduceLeDiff, Nat.reduceEqDiff, Nat.reduceSub, Nat.reduceAdd, Int.reduceEq, Int.reduceLT, Int.reduceLE, Int.reduceAdd]
    refine W_loop_ind (fun n e H => ∃ (s : PS) (acc : List (List UInt8)) (o : Own) (k : Nat), n = ms l s ∧ ms l s < k ∧ listF l en (oneName l en) [41] k s acc = r ∧ (s.ok = true → acc.length ≤ s.at_ ∧ s.at_ ≤ l.length) ∧
        gget .bad e 1 = .ptr 0 0 ∧ gget .bad e 2 = .ptr 1 0 ∧ gget .bad e 4 = .sl o (acc.map encStr) ∧ H.get 0 = some (cS l en s) ∧ H.get 1 = some [.sl .nil [], .lit (.int .i64 0), .lit (.int .i64 0), .lit (.int .i64 0), .lit (.int .i64 0), .lit (.int .i64 0)] ∧ 2 ≤ H.next ∧ AppOk H o acc.length 9 1)
      (ms l s) ⟨s, [], .ex, FN, rfl, ms_FN hlen s, hr, fun hk => ⟨by simp, (hlt hk).2.2⟩, by simp only [go_sem, Nat.reduceBEq, Nat.reduceLeDiff, Nat.reduceEqDiff, Nat.reduceSub, Nat.reduceAdd, Int.reduceEq, Int.reduceLT, Int.reduceLE, Int.reduceAdd], by simp only [go_sem, Nat.reduceBEq, Nat.reduceLeDiff, Nat.reduceEqDiff, Nat.reduceSub, Nat.reduceAdd, Int.reduceEq, Int.reduceLT, Int.reduceLE, Int.reduceAdd], by simp only [go_sem, Nat.reduceBEq, Nat.reduceLeDiff, Nat.reduceEqDiff, Nat.reduceSub, Nat.reduceAdd, Int.reduceEq, Int.reduceLT, Int.reduceLE, Int.reduceAdd, List.map_nil], by simp only [go_sem, Nat.reduceBEq, Nat.reduceLeDiff, Nat.reduceEqDiff, Nat.reduceSub, Nat.reduceAdd, Int.reduceEq, Int.reduceLT, Int.reduceLE, Int.reduceAdd], by simp only [go_sem, Nat.reduceBEq, Nat.reduceLeDiff, Nat.reduceEqDiff, Nat.reduceSub, Nat.reduceAdd, Int.reduceEq, Int.reduceLT, Int.reduceLE, Int.reduceAdd], by simp only [go_sem, Nat.reduceBEq, Nat.reduceLeDiff, Nat.reduceEqDiff, Nat.reduceSub, Nat.reduceAdd, Int.reduceEq, Int.reduceLT, Int.reduceLE, Int.reduceAdd], by simp only [go_sem, Nat.reduceBEq, Nat.reduceLeDiff, Nat.reduceEqDiff, Nat.reduceSub, Nat.reduceAdd, Int.reduceEq, Int.reduceLT, Int.reduceLE, Int.reduceAdd]⟩ ?_
    clear hlt h hr s
    rintro n ih e H ⟨s, acc, o, k, rfl, hk, hr, hb, e1, e2, e4, g0, g1, hnx, ho⟩
    obtain ⟨m, hm⟩ : ∃ m, H.next = m + 2 := ⟨H.next - 2, by omega⟩
    cases hok : s.ok with
    | false =>
      rw [listF_bad _ _ hok] at hr
      simp only [go_sem, Nat.reduceBEq, Nat.reduceLeDiff, Nat.reduceEqDiff, Nat.reduceSub, Nat.reduceAdd, Int.reduceEq, Int.reduceLT, Int.reduceLE, Int.reduceAdd, rs, e1, e2, e4, g0, g1, hm, c_rOk, hok, ← hr, sanLL_encStr]
    | true =>
      obtain ⟨hb1, hb2⟩ := hb hok
      have hap := fun o x H id h => app_str hlen (acc := acc) (by omega) o x H id h
      have hlt := nameP_lt (l := l) (en := en) s
      have hone : oneName l en s acc = ((nameP l en s).1, acc ++ [(nameP l en s).2]) := rfl
      cases h : isT l (nameP l en s).1 [41] with
      | true =>
        have hr' : ((nameP l en s).1.adv, acc ++ [(nameP l en s).2]) = r := by rw [← hr, listF_end hok hk h]; rfl
        simp only [go_sem, Nat.reduceBEq, Nat.reduceLeDiff, Nat.reduceEqDiff, Nat.reduceSub, Nat.reduceAdd, Int.reduceEq, Int.reduceLT, Int.reduceLE, Int.reduceAdd, rs, e1, e2, e4, g0, g1, hm, c_rOk, hok, c_rName2 hlen, hap, ho, c_rIs, h, c_rNeed hlen, hneed _ _ h, ← hr', sanLL_encStr]
      | false =>
        obtain ⟨k, rfl, h2⟩ := listF_more (one := oneName l en) (x := acc) hok hk h
        rw [h2] at hr
        have hlt2 := hlt.trans_le (need_lt (en := en) _ [44]).le
        have hms := ms_lt hlt2 hok
        simp only [go_sem, Nat.reduceBEq, Nat.reduceLeDiff, Nat.reduceEqDiff, Nat.reduceSub, Nat.reduceAdd, Int.reduceEq, Int.reduceLT, Int.reduceLE, Int.reduceAdd, rs, e1, e2, e4, g0, g1, hm, c_rOk, hok, c_rName2 hlen, hap, ho, c_rIs, h, c_rNeed hlen]
        exact ih _ hms _ _ ⟨_, _, _, k, rfl, by omega, hr, fun hk' => by have := hlt2 hk'; simp [oneName]; omega, by simp only [go_sem, Nat.reduceBEq, Nat.reduceLeDiff, Nat.reduceEqDiff, Nat.reduceSub, Nat.reduceAdd, Int.reduceEq, Int.reduceLT, Int.reduceLE, Int.reduceAdd, e1], by simp only [go_sem, Nat.reduceBEq, Nat.reduceLeDiff, Nat.reduceEqDiff, Nat.reduceSub, Nat.reduceAdd, Int.reduceEq, Int.reduceLT, Int.reduceLE, Int.reduceAdd, e2], by simp only [go_sem, Nat.reduceBEq, Nat.reduceLeDiff, Nat.reduceEqDiff, Nat.reduceSub, Nat.reduceAdd, Int.reduceEq, Int.reduceLT, Int.reduceLE, Int.reduceAdd, oneName] <;> rfl, by simp only [go_sem, Nat.reduceBEq, Nat.reduceLeDiff, Nat.reduceEqDiff, Nat.reduceSub, Nat.reduceAdd, Int.reduceEq, Int.reduceLT, Int.reduceLE, Int.reduceAdd, oneName], by simp only [go_sem, Nat.reduceBEq, Nat.reduceLeDiff, Nat.reduceEqDiff, Nat.reduceSub, Nat.reduceAdd, Int.reduceEq, Int.reduceLT, Int.reduceLE, Int.reduceAdd, g1], by simp only [go_sem, Nat.reduceBEq, Nat.reduceLeDiff, Nat.reduceEqDiff, Nat.reduceSub, Nat.reduceAdd, Int.reduceEq, Int.reduceLT, Int.reduceLE, Int.reduceAdd, hm], by simp only [go_sem, Nat.reduceBEq, Nat.reduceLeDiff, Nat.reduceEqDiff, Nat.reduceSub, Nat.reduceAdd, Int.reduceEq, Int.reduceLT, Int.reduceLE, Int.reduceAdd]⟩
end
end Go.Proofs.YtghhkbigmmjanaaDoor.VA

/-! Pd5 -/
namespace Go.Proofs.YtghhkbigmmjanaaDoor.VA
open Go Go.RowKit
attribute [local go_sem] Nat.add_eq_left Nat.left_eq_add true_and and_true ite_true if_false Int.cast_ofNat_Int eq_self Nat.add_assoc Option.some.injEq decide_true decide_false Bool.not_true Bool.not_false List.size_toArray List.length_cons List.length_nil
set_option linter.unusedSimpArgs false
set_option maxRecDepth 100000

section
variable {l : List GTok} {en : Int}
theorem need_bad {s : PS} (h : s.ok = false) (t : List UInt8) : need l en s t = s := by
  obtain ⟨a, c, f⟩ := s
  cases f with
  | none => cases h
  | some q => rfl
theorem AppOk_owns' {H : Heap} {o o' : Own} {id n : Nat} {e : TypeId} {sz : Nat} (hne : ∀ k e z, o' = .own k e z → ∀ k' e' z', o = .own k' e' z' → k ≠ k') (hid : ∀ k e z, o = .own k e z → k < id) :
    AppOk (appU H (ownUs o' id)) o n e sz = AppOk H o n e sz := by
  cases o with
  | own k e' z =>
    have h4 := hid k e' z rfl
    have key : (appU H (ownUs o' id)).isLive k = H.isLive k := by
      cases o' with
      | own k2 e2 z2 =>
        have h5 := hne k2 e2 z2 rfl k e' z rfl
        simp only [ownUs, appU, U.app, Heap.isLive_setLive]
        rw [if_neg (by omega), if_neg h5]
      | _ =>
        simp only [ownUs, appU, U.app, Heap.isLive_setLive]
        rw [if_neg (by omega)]
    simp only [AppOk, OwnOk, key]
  | nil => rfl
  | sh => rfl
  | ex => rfl
theorem need_yes {s : PS} {t : List UInt8} (h : isT l s t = true) : need l en s t = s.adv := by simp only [need, h]
set_option maxRecDepth 20000 in
theorem c_rObject (hlen : l.length ≤ LM) (s : PS) (H : Heap) : calls Tryd.prog cfg 67 [.agg (cS l en s)] H =
    some (.ret (.tup [.agg (cS l en (object l en s).1), .agg (encStmt (object l en s).2)]) H) := by
  refine calls_pure (fn := Tryd.f67) rfl rfl rfl rfl rfl ?_ H
  have rs : Tryd.f67.results.toList = [.cell 2 54, .cell 3 65] := rfl
  generalize hr : propsP l en s = r
  have hobj : object l en s = ((protoP l en r.1).1, .mk 4 [] [] [] (r.2.2 ++ [(protoP l en r.1).2]) r.2.1 [] []) := by rw [← hr]; rfl
  rw [hobj]
  clear hobj
  unfold propsP listP at hr
  have hlt := need_lt (l := l) (en := en) s [123]
  simp only [go_sem, Nat.reduceBEq, Nat.reduceLeDiff, Nat.reduceEqDiff, Nat.reduceSub, Nat.reduceAdd, Int.reduceEq, Int.reduceLT, Int.reduceLE, Int.reduceAdd, rs, c_rNeed hlen, c_rIs]
  generalize need l en s [123] = s at hr hlt
  refine W_loop_ind (fun n e H => ∃ (s : PS) (ns : List (List UInt8)) (aa : List Opd) (oP oA : Own) (done : Bool), n = (bif done then 0 else ms l s) ∧
      ((done = true ∧ isT l s [125] = true ∧ (s.adv, ns, aa) = r) ∨ (done = false ∧ ∃ k, ms l s < k ∧ listF l en (oneProp l en) [125] k s (ns, aa) = r)) ∧
      (s.ok = true → ns.length ≤ s.at_ ∧ aa.length ≤ s.at_ ∧ s.at_ ≤ l.length) ∧ aa.length ≤ l.length + 1 ∧
      gget .bad e 1 = .ptr 0 0 ∧ gget .bad e 2 = .ptr 1 0 ∧ gget .bad e 3 = .ptr 2 0 ∧ gget .bad e 4 = .ptr 4 0 ∧ gget .bad e 5 = .lit (.bool done) ∧ H.get 0 = some (cS l en s) ∧ H.get 1 = some [.sl .nil [], .lit (.int .i64 0), .lit (.int .i64 0), .lit (.int .i64 0), .lit (.int .i64 0), .lit (.int .i64 0)] ∧ H.get 2 = some [.lit (.int .i64 0), .lit (.string (ba [])), .lit (.string (ba [])), .lit (.string (ba [])), .sl .nil [], .sl .nil [], .sl .nil [], .sl .nil []] ∧
      H.get 4 = some [.lit (.int .i64 4), .lit (.string (ba [])), .lit (.string (ba [])), .lit (.string (ba [])), .sl oA (aa.map encOpd), .sl oP (ns.map encStr), .sl .nil [], .sl .nil []] ∧
      5 ≤ H.next ∧ AppOk H oP ns.length 9 1 ∧ AppOk H oA aa.length 67 3 ∧ (∀ k e z, oP = .own k e z → ∀ k' e' z', oA = .own k' e' z' → k ≠ k') ∧ (∀ k e z, oP = .own k e z → k < H.next) ∧ (∀ k e z, oA = .own k e z → k < H.next))
    (bif isT l s [125] then 0 else ms l s) ⟨s, [], [], .nil, .nil, isT l s [125], rfl, ?_, fun hk => ⟨by simp, by simp, (hlt hk).2.2⟩, by simp, by simp only [go_sem, Nat.reduceBEq, Nat.reduceLeDiff, Nat.reduceEqDiff, Nat.reduceSub, Nat.reduceAdd, Int.reduceEq, Int.reduceLT, Int.reduceLE, Int.reduceAdd], by simp only [go_sem, Nat.reduceBEq, Nat.reduceLeDiff, Nat.reduceEqDiff, Nat.reduceSub, Nat.reduceAdd, Int.reduceEq, Int.reduceLT, Int.reduceLE, Int.reduceAdd], by simp only [go_sem, Nat.reduceBEq, Nat.reduceLeDiff, Nat.reduceEqDiff, Nat.reduceSub, Nat.reduceAdd, Int.reduceEq, Int.reduceLT, Int.reduceLE, Int.reduceAdd], by simp only [go_sem, Nat.reduceBEq, Nat.reduceLeDiff, Nat.reduceEqDiff, Nat.reduceSub, Nat.reduceAdd, Int.reduceEq, Int.reduceLT, Int.reduceLE, Int.reduceAdd], by simp only [go_sem, Nat.reduceBEq, Nat.reduceLeDiff, Nat.reduceEqDiff, Nat.reduceSub, Nat.reduceAdd, Int.reduceEq, Int.reduceLT, Int.reduceLE, Int.reduceAdd], by simp only [go_sem, Nat.reduceBEq, Nat.reduceLeDiff, Nat.reduceEqDiff, Nat.reduceSub, Nat.reduceAdd, Int.reduceEq, Int.reduceLT, Int.reduceLE, Int.reduceAdd], by simp only [go_sem, Nat.reduceBEq, Nat.reduceLeDiff, Nat.reduceEqDiff, Nat.reduceSub, Nat.reduceAdd, Int.reduceEq, Int.reduceLT, Int.reduceLE, Int.reduceAdd], by simp only [go_sem, Nat.reduceBEq, Nat.reduceLeDiff, Nat.reduceEqDiff, Nat.reduceSub, Nat.reduceAdd, Int.reduceEq, Int.reduceLT, Int.reduceLE, Int.reduceAdd],
      by simp only [go_sem, Nat.reduceBEq, Nat.reduceLeDiff, Nat.reduceEqDiff, Nat.reduceSub, Nat.reduceAdd, Int.reduceEq, Int.reduceLT, Int.reduceLE, Int.reduceAdd, List.map_nil], by simp only [go_sem, Nat.reduceBEq, Nat.reduceLeDiff, Nat.reduceEqDiff, Nat.reduceSub, Nat.reduceAdd, Int.reduceEq, Int.reduceLT, Int.reduceLE, Int.reduceAdd], by simp only [go_sem, Nat.reduceBEq, Nat.reduceLeDiff, Nat.reduceEqDiff, Nat.reduceSub, Nat.reduceAdd, Int.reduceEq, Int.reduceLT, Int.reduceLE, Int.reduceAdd], by simp only [go_sem, Nat.reduceBEq, Nat.reduceLeDiff, Nat.reduceEqDiff, Nat.reduceSub, Nat.reduceAdd, Int.reduceEq, Int.reduceLT, Int.reduceLE, Int.reduceAdd], (fun _ _ _ h => by cases h), (fun _ _ _ h => by cases h), (fun _ _ _ h => by cases h)⟩ ?_
  · cases h : isT l s [125] with
    | true => rw [h] at hr; exact .inl ⟨rfl, rfl, hr⟩
    | false => rw [h] at hr; exact .inr ⟨rfl, FN, ms_FN hlen s, hr⟩
  clear hlt hr s
  rintro n ih e H ⟨s, ns, aa, oP, oA, done, rfl, hr, hb, hb4, e1, e2, e3, e4, e5, g0, g1, g2, g4, hnx, hoP, hoA, hne, hlP, hlA⟩
  obtain ⟨m, hm⟩ : ∃ m, H.next = m + 5 := ⟨H.next - 5, by omega⟩
  have tail : ∀ o, ([.lit (.int .i64 4), .lit (.string (ba [])), .lit (.string (ba [])), .lit (.string (ba [])), .sl .sh ((aa ++ [o]).map encOpd), .sl .sh (ns.map encStr), .sl .sh [], .sl .sh []] : List AV) = encStmt (.mk 4 [] [] [] (aa ++ [o]) ns [] []) := fun o => by simp only [encStmt, encStmts]; rfl
  have hapA := fun aa (h : aa.length ≤ l.length + 5) o x H id ho => app_opd hlen (acc := aa) h o x H id ho
  have hapP := fun ns (h : ns.length ≤ l.length + 5) o x H id ho => app_str hlen (acc := ns) h o x H id ho
  have hapA' := hapA aa (by omega)
  cases hok : s.ok with
  | false =>
    have hd : done = false := by
      cases done with
      | false => rfl
      | true =>
        rcases hr with ⟨_, h, _⟩ | ⟨h, _⟩
        · obtain ⟨x, h2, _⟩ := isT_some h
          rw [(tk_some h2).2.1] at hok; cases hok
        · cases h
    subst hd
    rcases hr with ⟨h, _⟩ | ⟨_, k, hk, hr⟩
    · cases h
    rw [listF_bad _ _ hok] at hr
    subst hr
    simp only [go_sem, Nat.reduceBEq, Nat.reduceLeDiff, Nat.reduceEqDiff, Nat.reduceSub, Nat.reduceAdd, Int.reduceEq, Int.reduceLT, Int.reduceLE, Int.reduceAdd, rs, e1, e2, e3, e4, e5, g0, g1, g2, g4, hm, c_rOk, hok, c_rNeed hlen, need_bad hok, c_rOperand hlen, hapA', hoA]
    refine W_draw [(0, 1), (1, 2)] (by kernel_rfl) ?_
    simp only [go_sem, Nat.reduceBEq, Nat.reduceLeDiff, Nat.reduceEqDiff, Nat.reduceSub, Nat.reduceAdd, Int.reduceEq, Int.reduceLT, Int.reduceLE, Int.reduceAdd, rs, e1, e2, e3, e4, g0, g1, g2, hm, protoP, tProto, need_bad hok, tail]
  | true =>
    obtain ⟨hb1, hb2, hb3⟩ := hb hok
    cases done with
    | true =>
      rcases hr with ⟨_, h, hr⟩ | ⟨h, _⟩
      · subst hr
        simp only [go_sem, Nat.reduceBEq, Nat.reduceLeDiff, Nat.reduceEqDiff, Nat.reduceSub, Nat.reduceAdd, Int.reduceEq, Int.reduceLT, Int.reduceLE, Int.reduceAdd, rs, e1, e2, e3, e4, e5, g0, g1, g2, g4, hm, c_rOk, hok, c_rNeed hlen, need_yes h, c_rOperand hlen, hapA', hoA]
        refine W_draw [(0, 1), (1, 2)] (by kernel_rfl) ?_
        simp only [go_sem, Nat.reduceBEq, Nat.reduceLeDiff, Nat.reduceEqDiff, Nat.reduceSub, Nat.reduceAdd, Int.reduceEq, Int.reduceLT, Int.reduceLE, Int.reduceAdd, rs, e1, e2, e3, e4, g0, g1, g2, hm, protoP, tProto, tail]
      · cases h
    | false =>
      rcases hr with ⟨h, _⟩ | ⟨_, k, hk, hr⟩
      · cases h
      have hapP' := hapP ns (by omega)
      have hAo : ∀ (H : Heap), AppOk (appU H (ownUs oP (m + 33))) oA aa.length 67 3 = AppOk H oA aa.length 67 3 := fun H => AppOk_owns' hne (fun k e z hk => by have := hlA k e z hk; omega)
      have hlt := oneProp_lt (l := l) (en := en) s (ns, aa)
      have hbn : (oneProp l en s (ns, aa)).1.ok = true → (oneProp l en s (ns, aa)).2.1.length ≤ (oneProp l en s (ns, aa)).1.at_ ∧ (oneProp l en s (ns, aa)).2.2.length ≤ (oneProp l en s (ns, aa)).1.at_ ∧ (oneProp l en s (ns, aa)).1.at_ ≤ l.length := fun hk' => by
        obtain ⟨_, h1, h2⟩ := hlt hk'
        have h3 : (oneProp l en s (ns, aa)).2.1.length = ns.length + 1 := by simp [oneProp]
        have h4 : (oneProp l en s (ns, aa)).2.2.length = aa.length + 1 := by simp [oneProp]
        omega
      have hba : (oneProp l en s (ns, aa)).2.2.length ≤ l.length + 1 := by simp [oneProp]; omega
      have ho1 : ∀ (k : Nat) (e : TypeId) (z : Nat) (k' : Nat) (e' : TypeId) (z' : Nat), Own.own k e z = .own k' e' z' → k = k' := fun k e z k' e' z' h => by cases h; rfl
      have hPo : ∀ (H : Heap) (n : Nat), AppOk (appU H (ownUs oA (m + 40))) (.own (m + 33) 9 1) n 9 1 = AppOk H (.own (m + 33) 9 1) n 9 1 := fun H n =>
        AppOk_owns' (fun k e z hk k' e' z' hk' => by have := hlA k e z hk; cases hk'; omega) (fun k e z hk => by cases hk; omega)
      cases h : isT l (operand l en (need l en (nameP l en s).1 [58])).1 [125] with
      | true =>
        have hr' := (listF_end (one := oneProp l en) (x := (ns, aa)) hok hk h).symm.trans hr
        simp only [go_sem, Nat.reduceBEq, Nat.reduceLeDiff, Nat.reduceEqDiff, Nat.reduceSub, Nat.reduceAdd, Int.reduceEq, Int.reduceLT, Int.reduceLE, Int.reduceAdd, rs, e1, e2, e3, e4, e5, g0, g1, g2, g4, hm, c_rOk, hok, c_rName2 hlen, c_rNeed hlen, c_rOperand hlen, c_rIs, h, hapP', hoP, hapA', hoA, hAo]
        exact ih 0 (by have := ms_lt hlt hok; simp; omega) _ _ ⟨(oneProp l en s (ns, aa)).1, (oneProp l en s (ns, aa)).2.1, (oneProp l en s (ns, aa)).2.2, _, _, true, rfl, .inl ⟨rfl, h, hr'⟩, hbn, hba, by simp only [go_sem, Nat.reduceBEq, Nat.reduceLeDiff, Nat.reduceEqDiff, Nat.reduceSub, Nat.reduceAdd, Int.reduceEq, Int.reduceLT, Int.reduceLE, Int.reduceAdd, e1], by simp only [go_sem, Nat.reduceBEq, Nat.reduceLeDiff, Nat.reduceEqDiff, Nat.reduceSub, Nat.reduceAdd, Int.reduceEq, Int.reduceLT, Int.reduceLE, Int.reduceAdd, e2], by simp only [go_sem, Nat.reduceBEq, Nat.reduceLeDiff, Nat.reduceEqDiff, Nat.reduceSub, Nat.reduceAdd, Int.reduceEq, Int.reduceLT, Int.reduceLE, Int.reduceAdd, e3], by simp only [go_sem, Nat.reduceBEq, Nat.reduceLeDiff, Nat.reduceEqDiff, Nat.reduceSub, Nat.reduceAdd, Int.reduceEq, Int.reduceLT, Int.reduceLE, Int.reduceAdd, e4],
          by simp only [go_sem, Nat.reduceBEq, Nat.reduceLeDiff, Nat.reduceEqDiff, Nat.reduceSub, Nat.reduceAdd, Int.reduceEq, Int.reduceLT, Int.reduceLE, Int.reduceAdd], by simp only [go_sem, Nat.reduceBEq, Nat.reduceLeDiff, Nat.reduceEqDiff, Nat.reduceSub, Nat.reduceAdd, Int.reduceEq, Int.reduceLT, Int.reduceLE, Int.reduceAdd, oneProp], by simp only [go_sem, Nat.reduceBEq, Nat.reduceLeDiff, Nat.reduceEqDiff, Nat.reduceSub, Nat.reduceAdd, Int.reduceEq, Int.reduceLT, Int.reduceLE, Int.reduceAdd, g1], by simp only [go_sem, Nat.reduceBEq, Nat.reduceLeDiff, Nat.reduceEqDiff, Nat.reduceSub, Nat.reduceAdd, Int.reduceEq, Int.reduceLT, Int.reduceLE, Int.reduceAdd, g2], by simp only [go_sem, Nat.reduceBEq, Nat.reduceLeDiff, Nat.reduceEqDiff, Nat.reduceSub, Nat.reduceAdd, Int.reduceEq, Int.reduceLT, Int.reduceLE, Int.reduceAdd, oneProp] <;> rfl, by simp only [go_sem, Nat.reduceBEq, Nat.reduceLeDiff, Nat.reduceEqDiff, Nat.reduceSub, Nat.reduceAdd, Int.reduceEq, Int.reduceLT, Int.reduceLE, Int.reduceAdd, hm], by simp only [go_sem, Nat.reduceBEq, Nat.reduceLeDiff, Nat.reduceEqDiff, Nat.reduceSub, Nat.reduceAdd, Int.reduceEq, Int.reduceLT, Int.reduceLE, Int.reduceAdd, oneProp, hPo], by simp only [go_sem, Nat.reduceBEq, Nat.reduceLeDiff, Nat.reduceEqDiff, Nat.reduceSub, Nat.reduceAdd, Int.reduceEq, Int.reduceLT, Int.reduceLE, Int.reduceAdd, oneProp],
          (fun k e z h k' e' z' h' => by have := ho1 _ _ _ _ _ _ h; have := ho1 _ _ _ _ _ _ h'; omega), (fun k e z h => by have := ho1 _ _ _ _ _ _ h; simp only [go_sem, Nat.reduceBEq, Nat.reduceLeDiff, Nat.reduceEqDiff, Nat.reduceSub, Nat.reduceAdd, Int.reduceEq, Int.reduceLT, Int.reduceLE, Int.reduceAdd, hm]; omega), (fun k e z h => by have := ho1 _ _ _ _ _ _ h; simp only [go_sem, Nat.reduceBEq, Nat.reduceLeDiff, Nat.reduceEqDiff, Nat.reduceSub, Nat.reduceAdd, Int.reduceEq, Int.reduceLT, Int.reduceLE, Int.reduceAdd, hm]; omega)⟩
      | false =>
        obtain ⟨k, rfl, h2⟩ := listF_more (one := oneProp l en) (x := (ns, aa)) hok hk h
        rw [h2] at hr
        have hlt2 := hlt.trans_le (need_lt (en := en) _ [44]).le
        have hms := ms_lt hlt2 hok
        have hbn2 : (need l en (oneProp l en s (ns, aa)).1 [44]).ok = true → (oneProp l en s (ns, aa)).2.1.length ≤ (need l en (oneProp l en s (ns, aa)).1 [44]).at_ ∧ (oneProp l en s (ns, aa)).2.2.length ≤ (need l en (oneProp l en s (ns, aa)).1 [44]).at_ ∧
            (need l en (oneProp l en s (ns, aa)).1 [44]).at_ ≤ l.length := fun hk' => by
          obtain ⟨q1, q2, q3⟩ := (need_lt (l := l) (en := en) _ [44]) hk'
          obtain ⟨q4, q5, q6⟩ := hbn q1
          omega
        simp only [go_sem, Nat.reduceBEq, Nat.reduceLeDiff, Nat.reduceEqDiff, Nat.reduceSub, Nat.reduceAdd, Int.reduceEq, Int.reduceLT, Int.reduceLE, Int.reduceAdd, rs, e1, e2, e3, e4, e5, g0, g1, g2, g4, hm, c_rOk, hok, c_rName2 hlen, c_rNeed hlen, c_rOperand hlen, c_rIs, h, hapP', hoP, hapA', hoA, hAo]
        exact ih _ hms _ _ ⟨need l en (oneProp l en s (ns, aa)).1 [44], (oneProp l en s (ns, aa)).2.1, (oneProp l en s (ns, aa)).2.2, _, _, false, rfl, .inr ⟨rfl, k, by omega, hr⟩, hbn2, hba, by simp only [go_sem, Nat.reduceBEq, Nat.reduceLeDiff, Nat.reduceEqDiff, Nat.reduceSub, Nat.reduceAdd, Int.reduceEq, Int.reduceLT, Int.reduceLE, Int.reduceAdd, e1], by simp only [go_sem, Nat.reduceBEq, Nat.reduceLeDiff, Nat.reduceEqDiff, Nat.reduceSub, Nat.reduceAdd, Int.reduceEq, Int.reduceLT, Int.reduceLE, Int.reduceAdd, e2], by simp only [go_sem, Nat.reduceBEq, Nat.reduceLeDiff, Nat.reduceEqDiff, Nat.reduceSub, Nat.reduceAdd, Int.reduceEq, Int.reduceLT, Int.reduceLE, Int.reduceAdd, e3], by simp only [go_sem, Nat.reduceBEq, Nat.reduceLeDiff, Nat.reduceEqDiff, Nat.reduceSub, Nat.reduceAdd, Int.reduceEq, Int.reduceLT, Int.reduceLE, Int.reduceAdd, e4],
          by simp only [go_sem, Nat.reduceBEq, Nat.reduceLeDiff, Nat.reduceEqDiff, Nat.reduceSub, Nat.reduceAdd, Int.reduceEq, Int.reduceLT, Int.reduceLE, Int.reduceAdd], by simp only [go_sem, Nat.reduceBEq, Nat.reduceLeDiff, Nat.reduceEqDiff, Nat.reduceSub, Nat.reduceAdd, Int.reduceEq, Int.reduceLT, Int.reduceLE, Int.reduceAdd, oneProp], by simp only [go_sem, Nat.reduceBEq, Nat.reduceLeDiff, Nat.reduceEqDiff, Nat.reduceSub, Nat.reduceAdd, Int.reduceEq, Int.reduceLT, Int.reduceLE, Int.reduceAdd, g1], by simp only [go_sem, Nat.reduceBEq, Nat.reduceLeDiff, Nat.reduceEqDiff, Nat.reduceSub, Nat.reduceAdd, Int.reduceEq, Int.reduceLT, Int.reduceLE, Int.reduceAdd, g2], by simp only [go_sem, Nat.reduceBEq, Nat.reduceLeDiff, Nat.reduceEqDiff, Nat.reduceSub, Nat.reduceAdd, Int.reduceEq, Int.reduceLT, Int.reduceLE, Int.reduceAdd, oneProp] <;> rfl, by simp only [go_sem, Nat.reduceBEq, Nat.reduceLeDiff, Nat.reduceEqDiff, Nat.reduceSub, Nat.reduceAdd, Int.reduceEq, Int.reduceLT, Int.reduceLE, Int.reduceAdd, hm], by simp only [go_sem, Nat.reduceBEq, Nat.reduceLeDiff, Nat.reduceEqDiff, Nat.reduceSub, Nat.reduceAdd, Int.reduceEq, Int.reduceLT, Int.reduceLE, Int.reduceAdd, oneProp, hPo], by simp only [go_sem, Nat.reduceBEq, Nat.reduceLeDiff, Nat.reduceEqDiff, Nat.reduceSub, Nat.reduceAdd, Int.reduceEq, Int.reduceLT, Int.reduceLE, Int.reduceAdd, oneProp],
          (fun k e z h k' e' z' h' => by have := ho1 _ _ _ _ _ _ h; have := ho1 _ _ _ _ _ _ h'; omega), (fun k e z h => by have := ho1 _ _ _ _ _ _ h; simp only [go_sem, Nat.reduceBEq, Nat.reduceLeDiff, Nat.reduceEqDiff, Nat.reduceSub, Nat.reduceAdd, Int.reduceEq, Int.reduceLT, Int.reduceLE, Int.reduceAdd, hm]; omega), (fun k e z h => by have := ho1 _ _ _ _ _ _ h; simp only [go_sem, Nat.reduceBEq, Nat.reduceLeDiff, Nat.reduceEqDiff, Nat.reduceSub, Nat.reduceAdd, Int.reduceEq, Int.reduceLT, Int.reduceLE, Int.reduceAdd, hm]; omega)⟩
end
end Go.Proofs.YtghhkbigmmjanaaDoor.VA

/-! Ci -/
namespace Go.Proofs.YtghhkbigmmjanaaDoor.VA
open Go Go.RowKit

@[go_sem] theorem imp6 : cfg.imp 24 = false := rfl
@[go_sem] theorem imp7 : cfg.imp 12 = false := rfl
@[go_sem] theorem imp10 : cfg.imp 69 = false := rfl
@[go_sem] theorem imp13 : cfg.imp 73 = false := rfl
@[go_sem] theorem imp14 : cfg.imp 44 = false := rfl
@[go_sem] theorem imp15 : cfg.imp 45 = false := rfl
@[go_sem] theorem imp16 : cfg.imp 46 = false := rfl
@[go_sem] theorem imp17 : cfg.imp 47 = false := rfl
@[go_sem] theorem imp18 : cfg.imp 48 = false := rfl
@[go_sem] theorem imp19 : cfg.imp 49 = false := rfl
@[go_sem] theorem imp20 : cfg.imp 25 = false := rfl
@[go_sem] theorem imp21 : cfg.imp 26 = false := rfl
@[go_sem] theorem imp22 : cfg.imp 27 = false := rfl
@[go_sem] theorem imp23 : cfg.imp 28 = false := rfl
@[go_sem] theorem imp24 : cfg.imp 29 = false := rfl
@[go_sem] theorem imp25 : cfg.imp 56 = false := rfl
@[go_sem] theorem imp26 : cfg.imp 3 = false := rfl
@[go_sem] theorem imp27 : cfg.imp 4 = false := rfl
@[go_sem] theorem imp28 : cfg.imp 5 = false := rfl
@[go_sem] theorem imp29 : cfg.imp 6 = false := rfl
@[go_sem] theorem imp32 : cfg.imp 9 = false := rfl
@[go_sem] theorem imp33 : cfg.imp 8 = false := rfl
@[go_sem] theorem imp34 : cfg.imp 10 = false := rfl
@[go_sem] theorem imp36 : cfg.imp 11 = false := rfl
@[go_sem] theorem imp37 : cfg.imp 15 = false := rfl
@[go_sem] theorem imp38 : cfg.imp 16 = false := rfl
@[go_sem] theorem imp39 : cfg.imp 17 = false := rfl
@[go_sem] theorem imp40 : cfg.imp 18 = false := rfl
@[go_sem] theorem imp41 : cfg.imp 19 = false := rfl
@[go_sem] theorem imp42 : cfg.imp 20 = false := rfl
@[go_sem] theorem imp43 : cfg.imp 21 = false := rfl
@[go_sem] theorem imp44 : cfg.imp 22 = false := rfl
@[go_sem] theorem imp45 : cfg.imp 23 = false := rfl
@[go_sem] theorem imp46 : cfg.imp 35 = false := rfl
@[go_sem] theorem imp47 : cfg.imp 36 = false := rfl
@[go_sem] theorem imp48 : cfg.imp 37 = false := rfl
@[go_sem] theorem imp49 : cfg.imp 38 = false := rfl
@[go_sem] theorem imp50 : cfg.imp 40 = false := rfl
@[go_sem] theorem imp51 : cfg.imp 43 = false := rfl
@[go_sem] theorem imp52 : cfg.imp 55 = false := rfl
@[go_sem] theorem imp53 : cfg.imp 57 = false := rfl
@[go_sem] theorem imp54 : cfg.imp 58 = false := rfl
@[go_sem] theorem imp55 : cfg.imp 65 = false := rfl
@[go_sem] theorem imp56 : cfg.imp 66 = false := rfl
@[go_sem] theorem imp57 : cfg.imp 67 = false := rfl
@[go_sem] theorem imp58 : cfg.imp 39 = false := rfl
@[go_sem] theorem imp59 : cfg.imp 41 = false := rfl
@[go_sem] theorem imp60 : cfg.imp 42 = false := rfl
@[go_sem] theorem imp61 : cfg.imp 59 = false := rfl
@[go_sem] theorem imp62 : cfg.imp 14 = true := rfl
@[go_sem] theorem imp63 : cfg.imp 30 = true := rfl
@[go_sem] theorem imp64 : cfg.imp 31 = true := rfl
@[go_sem] theorem imp65 : cfg.imp 32 = true := rfl
@[go_sem] theorem imp66 : cfg.imp 33 = true := rfl
@[go_sem] theorem imp67 : cfg.imp 34 = true := rfl
@[go_sem] theorem imp68 : cfg.imp 50 = true := rfl
@[go_sem] theorem imp69 : cfg.imp 51 = true := rfl
@[go_sem] theorem imp70 : cfg.imp 52 = true := rfl
@[go_sem] theorem imp71 : cfg.imp 53 = true := rfl
@[go_sem] theorem imp72 : cfg.imp 54 = true := rfl
@[go_sem] theorem imp73 : cfg.imp 61 = true := rfl
@[go_sem] theorem imp74 : cfg.imp 62 = true := rfl
@[go_sem] theorem imp75 : cfg.imp 63 = true := rfl
@[go_sem] theorem imp76 : cfg.imp 64 = true := rfl
@[go_sem] theorem imp77 : cfg.imp 71 = true := rfl
@[go_sem] theorem imp78 : cfg.imp 76 = true := rfl
@[go_sem] theorem imp79 : cfg.imp 77 = true := rfl
@[go_sem] theorem imp80 : cfg.imp 83 = true := rfl
@[go_sem] theorem imp81 : cfg.imp 84 = true := rfl
@[go_sem] theorem imp82 : cfg.imp 60 = false := rfl
@[go_sem] theorem imp84 : cfg.imp 70 = false := rfl
@[go_sem] theorem imp85 : cfg.imp 7 = false := rfl
end Go.Proofs.YtghhkbigmmjanaaDoor.VA

/-! Pd6 -/
namespace Go.Proofs.YtghhkbigmmjanaaDoor.VA
open Go Go.RowKit
attribute [local go_sem] Nat.add_eq_left Nat.left_eq_add true_and and_true ite_true if_false Int.cast_ofNat_Int eq_self Nat.add_assoc Option.some.injEq decide_true decide_false Bool.not_true Bool.not_false List.size_toArray List.length_cons List.length_nil
set_option linter.unusedSimpArgs false
set_option maxRecDepth 100000

section
variable {l : List GTok} {en : Int}
theorem signsB : aBuildSlice Tryd.prog 41 5 [(0, .lit (.string (ba [43]))), (1, .lit (.string (ba [45]))), (2, .lit (.string (ba [42]))), (3, .lit (.string (ba [60]))), (4, .lit (.string (ba [61])))] = some (.sl .ex (arith.map encStr)) := by kernel_rfl
theorem bs2_opd (o p : Opd) : aBuildSlice Tryd.prog 63 2 [(0, .agg (encOpd o)), (1, .agg (encOpd p))] = some (.sl .ex [encOpd o, encOpd p]) := by
  simp only [aBuildSlice, el_sOpd, zr_opd]
  simp [aFill, encOpd, chunk, AV.cells, AV.one, Value.oneCell', List.replicate]
theorem signOf_drop {s : PS} : ∀ (ts : List (List UInt8)) (i : Nat), (∀ j, j < i → isT l s (ts.getD j []) = false) → signOf l s (ts.drop i) = signOf l s ts
  | [], i, _ => by simp
  | t :: ts, 0, _ => rfl
  | t :: ts, i + 1, h => by
    rw [List.drop_succ_cons, signOf_drop ts i (fun j hj => h (j + 1) (by omega))]
    have h0 : isT l s t = false := h 0 (by omega)
    simp only [signOf, h0]
set_option maxRecDepth 20000 in
theorem c_rValue (hlen : l.length ≤ LM) (s : PS) (H : Heap) : calls Tryd.prog cfg 58 [.agg (cS l en s)] H =
    some (.ret (.tup [.agg (cS l en (value l en s).1), .agg (encStmt (value l en s).2)]) H) := by
  refine calls_pure (fn := Tryd.f58) rfl rfl rfl rfl rfl ?_ H
  have rs : Tryd.f58.results.toList = [.cell 2 54, .cell 3 65] := rfl
  generalize hr : value l en s = r
  unfold value at hr
  have eM : ∀ (op : Nat) (x y p : List UInt8) (a : List Opd) (ps : List (List UInt8)), encStmt (.mk op x y p a ps [] []) = [.lit (.int .i64 (op : Nat)), .lit (.string (ba x)), .lit (.string (ba y)), .lit (.string (ba p)), .sl .sh (a.map encOpd), .sl .sh (ps.map encStr), .sl .sh [], .sl .sh []] :=
    fun op x y p a ps => by simp only [encStmt, encStmts]
  cases h1 : isT l s [105, 110] with
  | true =>
    rw [show isT l s tIn = true from h1] at hr
    simp only at hr
    subst hr
    simp only [go_sem, Nat.reduceBEq, Nat.reduceLeDiff, Nat.reduceEqDiff, Nat.reduceSub, Nat.reduceAdd, Int.reduceEq, Int.reduceLT, Int.reduceLE, Int.reduceAdd, rs, c_rIs, c_rNeed hlen, h1, need_yes h1, eM, List.map_nil] <;> rfl
  | false =>
  rw [show isT l s tIn = false from h1] at hr
  simp only at hr
  cases h2 : isT l s [99, 97, 108, 108] with
  | true =>
    rw [show isT l s tCall = true from h2] at hr
    simp only at hr
    subst hr
    simp only [go_sem, Nat.reduceBEq, Nat.reduceLeDiff, Nat.reduceEqDiff, Nat.reduceSub, Nat.reduceAdd, Int.reduceEq, Int.reduceLT, Int.reduceLE, Int.reduceAdd, rs, c_rIs, c_rNeed hlen, h1, h2, need_yes h2, c_rName2 hlen, c_rArgs hlen, eM, List.map_nil] <;> rfl
  | false =>
  rw [show isT l s tCall = false from h2] at hr
  simp only at hr
  cases h3 : isT l s [110, 101, 119] with
  | true =>
    rw [show isT l s tNew = true from h3] at hr
    simp only at hr
    subst hr
    simp only [go_sem, Nat.reduceBEq, Nat.reduceLeDiff, Nat.reduceEqDiff, Nat.reduceSub, Nat.reduceAdd, Int.reduceEq, Int.reduceLT, Int.reduceLE, Int.reduceAdd, rs, c_rIs, c_rNeed hlen, h1, h2, h3, need_yes h3, c_rObject hlen] <;> rfl
  | false =>
  rw [show isT l s tNew = false from h3] at hr
  simp only at hr
  simp only [go_sem, Nat.reduceBEq, Nat.reduceLeDiff, Nat.reduceEqDiff, Nat.reduceSub, Nat.reduceAdd, Int.reduceEq, Int.reduceLT, Int.reduceLE, Int.reduceAdd, rs, c_rIs, h1, h2, h3, c_rOperand hlen, signsB]
  generalize (operand l en s).1 = a at hr
  generalize (operand l en s).2 = o at hr
  refine W_loop_ind (fun n e H => ∃ i : Nat, n = 5 - i ∧ i ≤ 5 ∧ (∀ j, j < i → isT l a (arith.getD j []) = false) ∧ gget .bad e 2 = .ptr 1 0 ∧ gget .bad e 3 = .ptr 2 0 ∧ gget .bad e 8 = .ptr 14 0 ∧ gget .bad e 9 = .ptr 15 0 ∧
      gget .bad e 10 = .sl .ex (arith.map encStr) ∧ gget .bad e 11 = .lit (.int .i64 (i : Nat)) ∧ H.get 1 = some [.sl .nil [], .lit (.int .i64 0), .lit (.int .i64 0), .lit (.int .i64 0), .lit (.int .i64 0), .lit (.int .i64 0)] ∧ H.get 2 = some [.lit (.int .i64 0), .lit (.string (ba [])), .lit (.string (ba [])), .lit (.string (ba [])), .sl .nil [], .sl .nil [], .sl .nil [], .sl .nil []] ∧ H.get 14 = some (cS l en a) ∧ H.get 15 = some (encOpd o) ∧ 21 ≤ H.next)
    5 ⟨0, rfl, by omega, (fun j hj => by omega), by simp only [go_sem, Nat.reduceBEq, Nat.reduceLeDiff, Nat.reduceEqDiff, Nat.reduceSub, Nat.reduceAdd, Int.reduceEq, Int.reduceLT, Int.reduceLE, Int.reduceAdd], by simp only [go_sem, Nat.reduceBEq, Nat.reduceLeDiff, Nat.reduceEqDiff, Nat.reduceSub, Nat.reduceAdd, Int.reduceEq, Int.reduceLT, Int.reduceLE, Int.reduceAdd], by simp only [go_sem, Nat.reduceBEq, Nat.reduceLeDiff, Nat.reduceEqDiff, Nat.reduceSub, Nat.reduceAdd, Int.reduceEq, Int.reduceLT, Int.reduceLE, Int.reduceAdd], by simp only [go_sem, Nat.reduceBEq, Nat.reduceLeDiff, Nat.reduceEqDiff, Nat.reduceSub, Nat.reduceAdd, Int.reduceEq, Int.reduceLT, Int.reduceLE, Int.reduceAdd], by simp only [go_sem, Nat.reduceBEq, Nat.reduceLeDiff, Nat.reduceEqDiff, Nat.reduceSub, Nat.reduceAdd, Int.reduceEq, Int.reduceLT, Int.reduceLE, Int.reduceAdd], by simp only [go_sem, Nat.reduceBEq, Nat.reduceLeDiff, Nat.reduceEqDiff, Nat.reduceSub, Nat.reduceAdd, Int.reduceEq, Int.reduceLT, Int.reduceLE, Int.reduceAdd] <;> rfl, by simp only [go_sem, Nat.reduceBEq, Nat.reduceLeDiff, Nat.reduceEqDiff, Nat.reduceSub, Nat.reduceAdd, Int.reduceEq, Int.reduceLT, Int.reduceLE, Int.reduceAdd], by simp only [go_sem, Nat.reduceBEq, Nat.reduceLeDiff, Nat.reduceEqDiff, Nat.reduceSub, Nat.reduceAdd, Int.reduceEq, Int.reduceLT, Int.reduceLE, Int.reduceAdd], by simp only [go_sem, Nat.reduceBEq, Nat.reduceLeDiff, Nat.reduceEqDiff, Nat.reduceSub, Nat.reduceAdd, Int.reduceEq, Int.reduceLT, Int.reduceLE, Int.reduceAdd], by simp only [go_sem, Nat.reduceBEq, Nat.reduceLeDiff, Nat.reduceEqDiff, Nat.reduceSub, Nat.reduceAdd, Int.reduceEq, Int.reduceLT, Int.reduceLE, Int.reduceAdd], by simp only [go_sem, Nat.reduceBEq, Nat.reduceLeDiff, Nat.reduceEqDiff, Nat.reduceSub, Nat.reduceAdd, Int.reduceEq, Int.reduceLT, Int.reduceLE, Int.reduceAdd]⟩ ?_
  rintro n ih e H ⟨i, rfl, hle, hno, e2, e3, e8, e9, e10, e11, g1, g2, g14, g15, hnx⟩
  obtain ⟨m, hm⟩ : ∃ m, H.next = m + 21 := ⟨H.next - 21, by omega⟩
  have hal : arith.length = 5 := rfl
  by_cases hi : i < 5
  · have hi' : decide ((i : Int) < 5) = true := by simp; omega
    have hix := iad_encStr (t := 9) (bs := 16) (o := .ex) (l := arith) (i := i) (by omega)
    have hdr := signOf_drop (l := l) (s := a) arith i hno
    rw [drop_cons' [] (show i < arith.length by omega)] at hdr
    generalize ht : arith.getD i [] = t at hix hdr
    have hw1 := wrap1 (show i + 1 ≤ 9223372036854775807 by omega)
    simp only [go_sem, Nat.reduceBEq, Nat.reduceLeDiff, Nat.reduceEqDiff, Nat.reduceSub, Nat.reduceAdd, Int.reduceEq, Int.reduceLT, Int.reduceLE, Int.reduceAdd, e2, e3, e8, e9, e10, e11, g1, g2, g14, g15, hm, hi']
    refine W_draw [(0, 4)] (by kernel_rfl) ?_
    cases h : isT l a t with
    | true =>
      have hs : signOf l a arith = some t := by rw [← hdr]; simp only [signOf, h]
      simp only [rest, hs] at hr
      subst hr
      simp only [go_sem, Nat.reduceBEq, Nat.reduceLeDiff, Nat.reduceEqDiff, Nat.reduceSub, Nat.reduceAdd, Int.reduceEq, Int.reduceLT, Int.reduceLE, Int.reduceAdd, e2, e3, e8, e9, e10, e11, g1, g2, g14, g15, hm, hix, encStr, c_rIs, h]
      refine W_draw [(0, 4), (0, 10), (4, 10), (5, 10), (6, 10), (0, 11), (4, 11), (5, 11), (6, 11), (10, 11)] (by kernel_rfl) ?_
      simp only [go_sem, Nat.reduceBEq, Nat.reduceLeDiff, Nat.reduceEqDiff, Nat.reduceSub, Nat.reduceAdd, Int.reduceEq, Int.reduceLT, Int.reduceLE, Int.reduceAdd, e2, e3, e8, e9, e10, e11, g1, g2, g14, g15, hm, hix, encStr, c_rNeed hlen, need_yes h, c_rOperand hlen]
      refine W_draw [(0, 4), (0, 5), (4, 5), (0, 6), (4, 6), (5, 6), (4, 9), (5, 9), (6, 9)] (by kernel_rfl) ?_
      simp only [go_sem, Nat.reduceBEq, Nat.reduceLeDiff, Nat.reduceEqDiff, Nat.reduceSub, Nat.reduceAdd, Int.reduceEq, Int.reduceLT, Int.reduceLE, Int.reduceAdd, rs, e2, e3, e8, e9, e10, e11, g1, g2, g14, g15, hm, hix, encStr, bs2_opd, eM, List.map_nil] <;> rfl
    | false =>
      simp only [go_sem, Nat.reduceBEq, Nat.reduceLeDiff, Nat.reduceEqDiff, Nat.reduceSub, Nat.reduceAdd, Int.reduceEq, Int.reduceLT, Int.reduceLE, Int.reduceAdd, e2, e3, e8, e9, e10, e11, g1, g2, g14, g15, hm, hix, encStr, c_rIs, h, hw1]
      exact ih (5 - (i + 1)) (by omega) _ _ ⟨i + 1, rfl, by omega, fun j hj => by
          by_cases hji : j = i
          · subst hji; rw [ht]; exact h
          · exact hno j (by omega),
        by simp only [go_sem, Nat.reduceBEq, Nat.reduceLeDiff, Nat.reduceEqDiff, Nat.reduceSub, Nat.reduceAdd, Int.reduceEq, Int.reduceLT, Int.reduceLE, Int.reduceAdd, e2], by simp only [go_sem, Nat.reduceBEq, Nat.reduceLeDiff, Nat.reduceEqDiff, Nat.reduceSub, Nat.reduceAdd, Int.reduceEq, Int.reduceLT, Int.reduceLE, Int.reduceAdd, e3], by simp only [go_sem, Nat.reduceBEq, Nat.reduceLeDiff, Nat.reduceEqDiff, Nat.reduceSub, Nat.reduceAdd, Int.reduceEq, Int.reduceLT, Int.reduceLE, Int.reduceAdd, e8], by simp only [go_sem, Nat.reduceBEq, Nat.reduceLeDiff, Nat.reduceEqDiff, Nat.reduceSub, Nat.reduceAdd, Int.reduceEq, Int.reduceLT, Int.reduceLE, Int.reduceAdd, e9], by simp only [go_sem, Nat.reduceBEq, Nat.reduceLeDiff, Nat.reduceEqDiff, Nat.reduceSub, Nat.reduceAdd, Int.reduceEq, Int.reduceLT, Int.reduceLE, Int.reduceAdd, e10], by simp only [go_sem, Nat.reduceBEq, Nat.reduceLeDiff, Nat.reduceEqDiff, Nat.reduceSub, Nat.reduceAdd, Int.reduceEq, Int.reduceLT, Int.reduceLE, Int.reduceAdd], by simp only [go_sem, Nat.reduceBEq, Nat.reduceLeDiff, Nat.reduceEqDiff, Nat.reduceSub, Nat.reduceAdd, Int.reduceEq, Int.reduceLT, Int.reduceLE, Int.reduceAdd, g1], by simp only [go_sem, Nat.reduceBEq, Nat.reduceLeDiff, Nat.reduceEqDiff, Nat.reduceSub, Nat.reduceAdd, Int.reduceEq, Int.reduceLT, Int.reduceLE, Int.reduceAdd, g2], by simp only [go_sem, Nat.reduceBEq, Nat.reduceLeDiff, Nat.reduceEqDiff, Nat.reduceSub, Nat.reduceAdd, Int.reduceEq, Int.reduceLT, Int.reduceLE, Int.reduceAdd, g14], by simp only [go_sem, Nat.reduceBEq, Nat.reduceLeDiff, Nat.reduceEqDiff, Nat.reduceSub, Nat.reduceAdd, Int.reduceEq, Int.reduceLT, Int.reduceLE, Int.reduceAdd, g15], by simp only [go_sem, Nat.reduceBEq, Nat.reduceLeDiff, Nat.reduceEqDiff, Nat.reduceSub, Nat.reduceAdd, Int.reduceEq, Int.reduceLT, Int.reduceLE, Int.reduceAdd, hm]⟩
  · have hi' : decide ((i : Int) < 5) = false := by simp; omega
    have hs : signOf l a arith = none := by
      rw [← signOf_drop (l := l) (s := a) arith i hno, List.drop_of_length_le (by omega)]; rfl
    simp only [rest, hs] at hr
    simp only [go_sem, Nat.reduceBEq, Nat.reduceLeDiff, Nat.reduceEqDiff, Nat.reduceSub, Nat.reduceAdd, Int.reduceEq, Int.reduceLT, Int.reduceLE, Int.reduceAdd, e2, e3, e8, e9, e10, e11, g1, g2, g14, g15, hm, hi']
    by_cases hk : o.kind = 4
    · have dk : decide (((o.kind : Nat) : Int) = 4) = true := by simp; omega
      have dk' : decide (o.kind = 4) = true := by simp [hk]
      simp only [dk', Bool.true_and] at hr
      simp only [go_sem, Nat.reduceBEq, Nat.reduceLeDiff, Nat.reduceEqDiff, Nat.reduceSub, Nat.reduceAdd, Int.reduceEq, Int.reduceLT, Int.reduceLE, Int.reduceAdd, e2, e3, e8, e9, g1, g2, g14, g15, hm, dk, c_rIs]
      cases h4 : isT l a [40] with
      | true =>
        rw [h4] at hr
        simp only at hr
        subst hr
        simp only [go_sem, Nat.reduceBEq, Nat.reduceLeDiff, Nat.reduceEqDiff, Nat.reduceSub, Nat.reduceAdd, Int.reduceEq, Int.reduceLT, Int.reduceLE, Int.reduceAdd, e2, e3, e8, e9, g1, g2, g14, g15, hm, c_rArgs hlen]
        refine W_draw [(0, 2), (2, 5)] (by kernel_rfl) ?_
        simp only [go_sem, Nat.reduceBEq, Nat.reduceLeDiff, Nat.reduceEqDiff, Nat.reduceSub, Nat.reduceAdd, Int.reduceEq, Int.reduceLT, Int.reduceLE, Int.reduceAdd, rs, e2, e3, e8, e9, g1, g2, g14, g15, hm, eM, List.map_nil] <;> rfl
      | false =>
        rw [h4] at hr
        simp only at hr
        simp only [go_sem, Nat.reduceBEq, Nat.reduceLeDiff, Nat.reduceEqDiff, Nat.reduceSub, Nat.reduceAdd, Int.reduceEq, Int.reduceLT, Int.reduceLE, Int.reduceAdd, e2, e3, e8, e9, g1, g2, g14, g15, hm, dk, c_rIs]
        cases h5 : isT l a [46] with
        | true =>
          rw [h5] at hr
          simp only at hr
          subst hr
          simp only [go_sem, Nat.reduceBEq, Nat.reduceLeDiff, Nat.reduceEqDiff, Nat.reduceSub, Nat.reduceAdd, Int.reduceEq, Int.reduceLT, Int.reduceLE, Int.reduceAdd, e2, e3, e8, e9, g1, g2, g14, g15, hm, c_rNeed hlen, need_yes h5, c_rName2 hlen]
          refine W_draw [(0, 2), (2, 5)] (by kernel_rfl) ?_
          simp only [go_sem, Nat.reduceBEq, Nat.reduceLeDiff, Nat.reduceEqDiff, Nat.reduceSub, Nat.reduceAdd, Int.reduceEq, Int.reduceLT, Int.reduceLE, Int.reduceAdd, rs, e2, e3, e8, e9, g1, g2, g14, g15, hm, eM, List.map_nil] <;> rfl
        | false =>
          rw [h5] at hr
          simp only at hr
          subst hr
          simp only [go_sem, Nat.reduceBEq, Nat.reduceLeDiff, Nat.reduceEqDiff, Nat.reduceSub, Nat.reduceAdd, Int.reduceEq, Int.reduceLT, Int.reduceLE, Int.reduceAdd]
          refine W_draw [(0, 1), (1, 4)] (by kernel_rfl) ?_
          simp only [go_sem, Nat.reduceBEq, Nat.reduceLeDiff, Nat.reduceEqDiff, Nat.reduceSub, Nat.reduceAdd, Int.reduceEq, Int.reduceLT, Int.reduceLE, Int.reduceAdd, rs, e2, e3, e8, e9, g1, g2, g14, g15, hm, eM, List.map_cons, List.map_nil] <;> rfl
    · have dk : decide (((o.kind : Nat) : Int) = 4) = false := by simp; omega
      have dk' : decide (o.kind = 4) = false := by simp [hk]
      simp only [dk', Bool.false_and] at hr
      subst hr
      simp only [go_sem, Nat.reduceBEq, Nat.reduceLeDiff, Nat.reduceEqDiff, Nat.reduceSub, Nat.reduceAdd, Int.reduceEq, Int.reduceLT, Int.reduceLE, Int.reduceAdd, e2, e3, e8, e9, g1, g2, g14, g15, hm, dk]
      refine W_draw [(0, 1), (1, 4)] (by kernel_rfl) ?_
      simp only [go_sem, Nat.reduceBEq, Nat.reduceLeDiff, Nat.reduceEqDiff, Nat.reduceSub, Nat.reduceAdd, Int.reduceEq, Int.reduceLT, Int.reduceLE, Int.reduceAdd, rs, e2, e3, e8, e9, g1, g2, g14, g15, hm, eM, List.map_cons, List.map_nil] <;> rfl
end
end Go.Proofs.YtghhkbigmmjanaaDoor.VA
