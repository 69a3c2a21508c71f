/- What is proved: the law LexParts, called with two strings, returns true and leaves what is there alone. No condition. -/
import Derived.Test.YtiiaajajhkdemaaLf1
namespace Go.Proofs.Ytiiaajajhkdemaa.VA
open Go Go.RowKit
set_option linter.unusedSimpArgs false

theorem lexF_err : ∀ (n : Nat) (l : List UInt8) (a p : Nat), lexF n l a = .err p → p ≤ a + l.length := by
  intro n
  induction n with
  | zero => intro l a p h; simp [lexF] at h; omega
  | succ n ih =>
    intro l a p h
    have pre : ∀ {x : Tok} {r : LexR}, LexR.pre [x] r = .err p → r = .err p := by
      intro x r h
      cases r with
      | ok l => simp [LexR.pre] at h
      | err a => exact h
    cases l with
    | nil => simp [lexF] at h
    | cons b l =>
      simp only [lexF] at h
      have hle : ∀ q, span q (b :: l) ≤ (b :: l).length := fun q => span_le q _
      split at h
      · have := ih _ _ _ h; simp; omega
      · have := ih _ _ _ h; have := hle notNl; simp only [List.length_drop] at *; omega
      · have := ih _ _ _ (pre h); have := hle inWord; simp only [List.length_drop] at *; omega
      · split at h
        · have := ih _ _ _ (pre h); have := hle isDigit; simp only [List.length_drop] at *; omega
        · simp at h; omega
      · have := ih _ _ _ (pre h); simp; omega
      · simp at h; omega
theorem lexL_err {l : List UInt8} {a p : Nat} (h : lexL l a = .err p) : p ≤ a + l.length := lexF_err _ _ _ _ h
theorem lexL_len {l : List UInt8} {a : Nat} {ts : List Tok} (h : lexL l a = .ok ts) : ts.length ≤ l.length := lexF_len _ _ _ _ h
theorem lexAns_ok {l : List UInt8} {ts : List Tok} (hl : l.length ≤ 65536) (h : lexL l 0 = .ok ts) : lexAns l = (ts, 0, 0) := by
  simp only [lexAns, if_neg (show ¬ 65536 < l.length by omega), h]
theorem lexAns_err {l : List UInt8} {a : Nat} (hl : l.length ≤ 65536) (h : lexL l 0 = .err a) : lexAns l = ([], 10, a) := by
  simp only [lexAns, if_neg (show ¬ 65536 < l.length by omega), h]
theorem append_toks {o o' : Own} (a b : List Tok) (hb : b ≠ []) (hl : a.length + b.length ≤ 1000000) (H : Heap) (id : Nat) (ho : AppOk H o a.length 37 3) :
    aAppend Try.prog 22 (.sl o (a.map encTok)) (.sl o' (b.map encTok)) H id = some (.sl (.own id 37 3) ((a ++ b).map encTok), ownUs o id, ownRs o) := by
  obtain ⟨x, b, rfl⟩ : ∃ x b', b = x :: b' := by cases b with | nil => exact absurd rfl hb | cons x b => exact ⟨x, b, rfl⟩
  have := append_any (P := Try.prog) (t := 22) (o := o) (o' := o') (es := a.map encTok) (xs := b.map encTok) (x := encTok x) el_tok zo_tok (by omega) (by simp at hl ⊢; omega) (by simp at hl ⊢; omega) rfl H id (by simpa using ho)
  rw [List.map_cons, this, sanLL_cons, sanLL_encTok, sanL_encTok]
  simp
theorem append_none {o o' : Own} (es : List (List AV)) (H : Heap) (id : Nat) : aAppend Try.prog 22 (.sl o es) (.sl o' []) H id = some (.sl o es, [], []) := by
  simp only [aAppend, el_tok]
theorem plain_up (d : Nat) (a b : List Tok) : ((a ++ b.map (Tok.up d)).map Tok.g).map plainG = ((a ++ b).map Tok.g).map plainG := by
  simp [Function.comp_def, Tok.up, Tok.g, plainG]
set_option maxRecDepth 20000 in
theorem lex_parts (s t : List UInt8) (H : Heap) : calls Try.prog cfg 6 [.lit (.string (ba s)), .lit (.string (ba t))] H = some (.ret (.lit (.bool true)) H) := by
  refine calls_pure (fn := Try.f6) rfl rfl rfl rfl rfl ?_ H
  have rs : Try.f6.results.toList = [.tmp 4] := rfl
  by_cases h1 : 30000 < s.length
  · have d1 : decide ((30000 : Int) < (s.length : Nat)) = true := by simp; omega
    simp only [go_sem, Nat.reduceBEq, Nat.reduceLeDiff, Nat.reduceEqDiff, true_and, and_true, ite_true, if_false, Int.cast_ofNat_Int, eq_self, Nat.add_assoc, Option.some.injEq, Int.reduceEq, Int.reduceLT, Int.reduceLE, Int.reduceAdd, Nat.reduceSub, Nat.reduceAdd, decide_true, decide_false, Bool.not_true, Bool.not_false, List.size_toArray, List.length_cons, List.length_nil, rs, c_fixed, ba_size, d1]
  have d1 : decide ((30000 : Int) < (s.length : Nat)) = false := by simp; omega
  by_cases h2 : 30000 < t.length
  · have d2 : decide ((30000 : Int) < (t.length : Nat)) = true := by simp; omega
    simp only [go_sem, Nat.reduceBEq, Nat.reduceLeDiff, Nat.reduceEqDiff, true_and, and_true, ite_true, if_false, Int.cast_ofNat_Int, eq_self, Nat.add_assoc, Option.some.injEq, Int.reduceEq, Int.reduceLT, Int.reduceLE, Int.reduceAdd, Nat.reduceSub, Nat.reduceAdd, decide_true, decide_false, Bool.not_true, Bool.not_false, List.size_toArray, List.length_cons, List.length_nil, rs, c_fixed, ba_size, d1, d2]
  have d2 : decide ((30000 : Int) < (t.length : Nat)) = false := by simp; omega
  have ha1 := add_ba s [10] (by simp; omega)
  have ha2 := add_ba (s ++ [10]) t (by simp; omega)
  have hp := parts_lex s t
  have hlen : (s ++ [10] ++ t).length ≤ 65536 := by simp; omega
  cases r1 : lexL s 0 with
  | err a =>
    rw [r1] at hp
    have e1 := lexAns_err (by omega) r1
    have e3 := lexAns_err hlen hp
    simp only [go_sem, Nat.reduceBEq, Nat.reduceLeDiff, Nat.reduceEqDiff, true_and, and_true, ite_true, if_false, Int.cast_ofNat_Int, eq_self, Nat.add_assoc, Option.some.injEq, Int.reduceEq, Int.reduceLT, Int.reduceLE, Int.reduceAdd, Nat.reduceSub, Nat.reduceAdd, decide_true, decide_false, Bool.not_true, Bool.not_false, List.size_toArray, List.length_cons, List.length_nil, rs, c_fixed, ba_size, d1, d2, ha1, ha2, c_lex, e1, e3, encLex, encFault]
  | ok ts1 =>
  have e1 := lexAns_ok (by omega) r1
  have l1 := lexL_len r1
  rw [r1] at hp
  cases r2 : lexL t 0 with
  | err a =>
    rw [r2] at hp
    have e2 := lexAns_err (by omega) r2
    have e3 := lexAns_err hlen hp
    have hle := lexL_err r2
    have hw1 : IntKind.wrap .i64 (((a : Nat) : Int) + (s.length : Nat)) = ((a + s.length : Nat) : Int) := wrapN (by omega)
    have hw2 : IntKind.wrap .i64 (((a + s.length : Nat) : Int) + 1) = ((a + (s.length + 1) : Nat) : Int) := wrap1 (by omega)
    simp only [go_sem, Nat.reduceBEq, Nat.reduceLeDiff, Nat.reduceEqDiff, true_and, and_true, ite_true, if_false, Int.cast_ofNat_Int, eq_self, Nat.add_assoc, Option.some.injEq, Int.reduceEq, Int.reduceLT, Int.reduceLE, Int.reduceAdd, Nat.reduceSub, Nat.reduceAdd, decide_true, decide_false, Bool.not_true, Bool.not_false, List.size_toArray, List.length_cons, List.length_nil, rs, c_fixed, ba_size, d1, d2, ha1, ha2, c_lex, e1, e2, e3, encLex, encFault, hw1, hw2]
  | ok ts2 =>
  have e2 := lexAns_ok (by omega) r2
  have l2 := lexL_len r2
  rw [r2] at hp
  have e3 := lexAns_ok hlen hp
  have hpc := fun H => c_plainT (ts1 ++ ts2.map (Tok.up (s.length + 1))) (by simp; omega) .sh H
  have hpa := fun o H => c_plainT (ts1 ++ ts2) (by simp; omega) o H
  rw [plain_up] at hpc
  have hsm := fun o o' H => c_same (((ts1 ++ ts2).map Tok.g).map plainG) (((ts1 ++ ts2).map Tok.g).map plainG) (by simp; omega) o o' H
  obtain ⟨f1, u1, hap1, hok1⟩ : ∃ (f1 : Nat → Own) (u1 : Nat → List U), (∀ H id, aAppend Try.prog 22 (.sl .ex []) (.sl .sh (ts1.map encTok)) H id = some (.sl (f1 id) (ts1.map encTok), u1 id, [])) ∧
      ∀ H id, AppOk (appU H (u1 id)) (f1 id) ts1.length 37 3 := by
    by_cases n1 : ts1 = []
    · subst n1
      exact ⟨fun _ => .ex, fun _ => [], fun H id => append_none [] H id, fun H id => rfl⟩
    · exact ⟨fun id => .own id 37 3, fun id => ownUs .ex id, fun H id => append_toks [] ts1 n1 (by simp; omega) H id rfl, fun H id => of_eq_true (AppOk_ownUs H .ex id _ _ _)⟩
  obtain ⟨f2, u2, r3, hap2⟩ : ∃ (f2 : Own → Nat → Own) (u2 : Own → Nat → List U) (r3 : Own → Nat → List Nat), ∀ o H id, AppOk H o ts1.length 37 3 →
      aAppend Try.prog 22 (.sl o (ts1.map encTok)) (.sl .sh (ts2.map encTok)) H id = some (.sl (f2 o id) ((ts1 ++ ts2).map encTok), u2 o id, r3 o id) := by
    by_cases n2 : ts2 = []
    · subst n2
      exact ⟨fun o _ => o, fun _ _ => [], fun _ _ => [], fun o H id _ => by rw [List.append_nil]; exact append_none _ H id⟩
    · exact ⟨fun o id => .own id 37 3, fun o id => ownUs o id, fun o _ => ownRs o, fun o H id hk => append_toks ts1 ts2 n2 (by omega) H id hk⟩
  simp only [go_sem, Nat.reduceBEq, Nat.reduceLeDiff, Nat.reduceEqDiff, true_and, and_true, ite_true, if_false, Int.cast_ofNat_Int, eq_self, Nat.add_assoc, Option.some.injEq, Int.reduceEq, Int.reduceLT, Int.reduceLE, Int.reduceAdd, Nat.reduceSub, Nat.reduceAdd, decide_true, decide_false, Bool.not_true, Bool.not_false, List.size_toArray, List.length_cons, List.length_nil, rs, c_fixed, ba_size, d1, d2, ha1, ha2, c_lex, e1, e2, e3, encLex, encFault, hpc, bs0_tok, hap1, hok1, hap2, hpa, hsm]
theorem LexParts_walk (a0 a1 : ByteArray) (w : World) (_ : a0.size ≤ maxLen) (_ : a1.size ≤ maxLen) : Calls Try.prog 6 #[.string a0, .string a1] w fun e w' => e = .returned (.bool true) ∧ Below w.heap.size w w' := by
  refine law_calls cfg_ok (args := [.lit (.string a0), .lit (.string a1)]) ?_ (RelL.cons (.lit _) (RelL.cons (.lit _) (RelL.nil _ _)))
  rw [ba_eta a0, ba_eta a1]
  exact lex_parts _ _ _
end Go.Proofs.Ytiiaajajhkdemaa.VA
