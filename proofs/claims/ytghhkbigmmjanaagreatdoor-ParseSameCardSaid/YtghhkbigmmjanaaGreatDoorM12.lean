/- What is proved: strconv.Atoi answers as the abstract interpreter (VA) is told; the tables that it runs by are the program's. No condition.
What is proved: what the parser answers for bytes, and that the law's fixed calls answer true, in the abstract interpreter (VA). No condition.
What is proved: what the document's parser answers for bytes; the laws ParseTexts and ParseSame answer true, in the abstract interpreter (VA). No condition.
What is proved: the laws ParseTexts and ParseSame return true at any strings. No condition. -/
import Derived.Test.YtghhkbigmmjanaaGreatDoorM11
import Derived.Test.YtghhkbigmmjanaaGreatDoorM10
import Derived.Lib.SmallJoins
import Derived.Test.YtghhkbigmmjanaaGreatDoorM6
import Derived.Test.YtghhkbigmmjanaaGreatDoorM5
import Derived.Test.YtghhkbigmmjanaaGreatDoorM3
/-! Ta2 -/
namespace Go.Proofs.YtghhkbigmmjanaaGreatDoor.VA
open Go Go.RowKit
set_option linter.unusedSimpArgs false
set_option maxRecDepth 100000

theorem dec_num : ∀ (l : List UInt8) (acc : Nat), l.all (fun b => isDigit b.toNat) = true → Lib.decFrom acc l = some (l.foldl (fun n b => 10 * n + (b.toNat - 48)) acc)
  | [], acc, _ => rfl
  | b :: l, acc, h => by
    rw [List.all_cons, Bool.and_eq_true] at h
    obtain ⟨h1, h2⟩ := h
    simp only [isDigit, Bool.and_eq_true, decide_eq_true_eq] at h1
    simp only [Lib.decFrom, Lib.digitVal, if_pos h1, List.foldl_cons]
    rw [dec_num l _ h2, Nat.mul_comm acc 10]
theorem told_atoi : ToldOk Tryz.prog 122 tAtoi := by
  refine ⟨fun vs w => callFunc_enter Tryz.func122 (by kernel_rfl) rfl vs w, ?_⟩
  intro args v h g H w vs hi hr
  unfold tAtoi at h
  split at h
  · rename_i s
    split at h
    · rename_i hc
      obtain ⟨hd, h1, h18⟩ := hc
      simp only [Option.some.injEq] at h
      subst h
      obtain ⟨v0, hvs⟩ : ∃ v0, vs = #[v0] := by
        have hl : vs.size = 1 := by have := hr.1; simpa using this.symm
        refine ⟨vs[0]'(by omega), ?_⟩
        apply Array.ext
        · simp [hl]
        · intro i h1 h2
          have h0 : i = 0 := by omega
          subst h0
          rfl
      subst hvs
      have h0 := hr.head.lit_inv
      subst h0
      cases hL : s.data.toList with
      | nil => rw [hL] at h1; simp at h1
      | cons b0 r =>
        have hb : isDigit b0.toNat = true := by rw [hL, List.all_cons, Bool.and_eq_true] at hd; exact hd.1
        have hdec := dec_num s.data.toList 0 hd
        have hsz : s.size = s.data.toList.length := Lib.size_eq s
        refine (outer_atoi s (numOf s.data.toList) b0 r hL (by rintro rfl; simp [isDigit] at hb) (by rintro rfl; simp [isDigit] at hb) (by omega) hdec w).mono ?_
        rintro en w' ⟨rfl, t, rfl⟩
        obtain ⟨hx, hv⟩ := below_step hi (Go.Joins.below_bytesWorld _ w _ t (Nat.le_refl _))
        refine ⟨_, g, rfl, hx, hv, rfl, rfl, ?_⟩
        rw [← hL]
        exact Rel.mk_tup (RelL.cons (.lit _) (RelL.cons (.lit _) (RelL.nil _ _)))
    · cases h
  · cases h
theorem cfg_ok : CfgOk Tryz.prog cfg := by
  refine ⟨by kernel_rfl, ?_, ?_⟩
  · intro f fn h
    have h' : (if (runs.contains f || writes.contains f) = true then Tryz.prog.funcs[f]? else none) = some fn := h
    split at h'
    · rename_i hm
      have hok := List.all_eq_true.1 runs_ok f (by simpa using hm)
      unfold fnOk at hok
      rw [h'] at hok
      simp only [Bool.and_eq_true, Bool.not_eq_true'] at hok
      refine ⟨h', hok.1, fun code hb => ?_⟩
      have := hok.2
      rw [hb] at this
      exact this
    · cases h'
  · intro f h hh
    simp only [cfg] at hh
    repeat' split at hh
    all_goals first
      | (cases hh; done)
      | (obtain rfl := Option.some.inj hh; subst_vars; exact told_index)
      | (obtain rfl := Option.some.inj hh; subst_vars; exact told_atoi)
      | (obtain rfl := Option.some.inj hh; subst_vars; exact told_join)
theorem cfg2_ok : CfgOk Tryz.prog cfg2 := by
  refine ⟨cfg_ok.mixed, cfg_ok.fn, ?_⟩
  intro f h hh
  have h' : (if f = 27 then some tRead else cfg.told f) = some h := hh
  split at h'
  · rename_i hf
    simp only [Option.some.injEq] at h'
    subst hf; subst h'
    exact read_told cfg_ok
  · exact cfg_ok.told f h h'
theorem cfg_le : CfgLe cfg cfg2 := by
  have hne : ∀ f fn, cfg.fn f = some fn → f ≠ 27 := by
    rintro f fn h rfl
    have h' : (if (runs.contains 27 || writes.contains 27) = true then Tryz.prog.funcs[(27 : Nat)]? else none) = some fn := h
    rw [if_neg (by decide)] at h'
    cases h'
  refine ⟨?_, ?_, rfl⟩
  · intro f h hh
    have hf : f ≠ 27 := by
      rintro rfl
      have h' : cfg.told 27 = none := rfl
      rw [h'] at hh; cases hh
    show (if f = 27 then some tRead else cfg.told f) = some h
    rw [if_neg hf]; exact hh
  · intro f fn h1 h2
    have hf := hne f fn h2
    refine ⟨?_, h2⟩
    show (if f = 27 then some tRead else cfg.told f) = none
    rw [if_neg hf]; exact h1
end Go.Proofs.YtghhkbigmmjanaaGreatDoor.VA

/-! Ph3 -/
namespace Go.Proofs.YtghhkbigmmjanaaGreatDoor.VA
open Go Go.RowKit
attribute [local go_sem] Nat.add_eq_left Nat.left_eq_add true_and and_true ite_true if_false Int.cast_ofNat_Int eq_self Nat.add_assoc Option.some.injEq decide_true decide_false Bool.not_true Bool.not_false List.size_toArray List.length_cons List.length_nil
set_option linter.unusedSimpArgs false
set_option maxRecDepth 100000

theorem up {f : FuncId} {args : List AV} {H : Heap} {r : CR} (h : calls Tryz.prog cfg f args H = some r) : calls Tryz.prog cfg2 f args H = some r := calls_cfg cfg_le h
theorem c_read2 (l : List GTok) (en : Int) (hlen : l.length ≤ LM) (o : Own) (H : Heap) : calls Tryz.prog cfg2 27 [.sl o (l.map encG), .lit (.int .i64 en)] H = some (.ret (encRead (readP l en)) H) := by
  refine calls_told (h := tRead) rfl ?_ H
  simp only [go_sem, tRead, toks_enc, if_pos hlen]
theorem c_rRead2 (l : List GTok) (en : Int) (hlen : l.length ≤ LM) (o : Own) (H : Heap) : calls Tryz.prog cfg2 29 [.sl o (l.map encG), .lit (.int .i64 en)] H = some (.ret (encRead (readP l en)) H) := up (c_rRead hlen o H)
theorem parseP_bad (s : List UInt8) (hne : (lexAns s).2.1 ≠ 0) : parseP s = ([], (lexAns s).2.1, (((lexAns s).2.2 : Nat) : Int)) := by
  unfold parseP
  generalize lexAns s = r at hne
  obtain ⟨ts, c, a⟩ := r
  cases c with
  | zero => exact absurd rfl hne
  | succ c => rfl
theorem parseP_ok (s : List UInt8) (he : (lexAns s).2.1 = 0) : parseP s = readP ((lexAns s).1.map Tok.g) s.length := by
  unfold parseP
  generalize lexAns s = r at he
  obtain ⟨ts, c, a⟩ := r
  simp only at he
  subst he
  rfl
theorem parseP_fit (s : List UInt8) : fitP (parseP s).1 = true := by
  by_cases h : (lexAns s).2.1 = 0
  · rw [parseP_ok s h]; exact readP_fit (by have := lexAns_len s; simp; omega)
  · rw [parseP_bad s h]; rfl
set_option maxRecDepth 20000 in
theorem c_parse2 (s : List UInt8) (H : Heap) : calls Tryz.prog cfg2 11 [.lit (.string (ba s))] H = some (.ret (encRead (parseP s)) H) := by
  refine calls_pure (fn := Tryz.f11) rfl rfl rfl rfl rfl ?_ H
  have rs : Tryz.f11.results.toList = [.cell 2 24, .cell 3 27] := rfl
  have hlen := lexAns_len s
  have hx := fun H => up (c_lex s H)
  have hr := c_read2 ((lexAns s).1.map Tok.g) s.length (by simp; unfold LM; omega)
  by_cases h : (lexAns s).2.1 = 0
  · rw [parseP_ok s h]
    generalize lexAns s = r at *
    obtain ⟨ts, c, a⟩ := r
    simp only at h
    subst h
    generalize readP (ts.map Tok.g) s.length = q at *
    simp only [← enc_g] at hr
    simp only [encLex, encFault, encRead] at hx hr ⊢
    simp only [go_sem, Nat.reduceBEq, Nat.reduceLeDiff, Nat.reduceEqDiff, Nat.reduceSub, Nat.reduceAdd, Int.reduceEq, Int.reduceLT, Int.reduceLE, Int.reduceAdd, rs, hx, hr, ba_size]
  · rw [parseP_bad s h]
    generalize lexAns s = r at *
    obtain ⟨ts, c, a⟩ := r
    have hc : decide ((c : Int) = 0) = false := by simp at h ⊢; omega
    simp only [encLex, encFault] at hx
    simp only [go_sem, Nat.reduceBEq, Nat.reduceLeDiff, Nat.reduceEqDiff, Nat.reduceSub, Nat.reduceAdd, Int.reduceEq, Int.reduceLT, Int.reduceLE, Int.reduceAdd, rs, hx, hc]
    refine W_draw [(1, 2)] (by kernel_rfl) ?_
    simp only [go_sem, Nat.reduceBEq, Nat.reduceLeDiff, Nat.reduceEqDiff, Nat.reduceSub, Nat.reduceAdd, Int.reduceEq, Int.reduceLT, Int.reduceLE, Int.reduceAdd, rs, encRead, List.map_nil] <;> rfl
/-- Only what arguments say counts. -/
theorem calls_of_san {P : Program} {c : Cfg} {f : FuncId} {args args' : List AV} {H : Heap} {r : CR} (hi : c.imp f = false) (ha : sanL args = sanL args') (h : calls P c f args H = some r) : calls P c f args' H = some r := by
  obtain ⟨k, hk⟩ := calls_iff.1 h
  refine calls_iff.2 ⟨k, ?_⟩
  cases k with
  | zero => simp [call] at hk
  | succ k =>
    simp only [call, hi, ← ha] at hk ⊢
    exact hk
def fixW : List GFunc := [⟨[102], [[97]], [.mk 2 [120] [97] [112] [] [] [] [], .mk 11 [] [] [] [⟨4, 0, [120]⟩] [] [] []]⟩]
theorem fixP1 : parseP [102, 117, 110, 32, 102, 40, 97, 41, 32, 123, 32, 120, 32, 61, 32, 97, 46, 112, 59, 32, 114, 101, 116, 117, 114, 110, 32, 120, 59, 32, 125] = (fixW, 0, 0) := by kernel_rfl
theorem fixP2 : parseP [102, 117, 110, 32, 102, 40, 32, 123] = ([], 20, 7) := by kernel_rfl
theorem fixP3 : parseP [102, 117, 110, 32, 102, 40, 41, 32, 123, 32, 120, 32, 61, 32, 49, 59, 32] = ([], 20, 17) := by kernel_rfl
/-- The cells of the law's own statements. -/
def wOpd : List AV := [.lit (.int .i64 4), .lit (.int .i64 0), .lit (.string (ba [120]))]
def wStm1 : List AV := [.lit (.int .i64 2), .lit (.string (ba [120])), .lit (.string (ba [97])), .lit (.string (ba [112])), .sl .nil [], .sl .nil [], .sl .nil [], .sl .nil []]
def wStm2 : List AV := [.lit (.int .i64 11), .lit (.string (ba [])), .lit (.string (ba [])), .lit (.string (ba [])), .sl .ex [wOpd], .sl .nil [], .sl .nil [], .sl .nil []]
def wFun : List AV := [.lit (.string (ba [102])), .sl .ex [encStr [97]], .sl .ex [wStm1, wStm2]]
theorem wb1 : aBuildSlice Tryz.prog 36 1 [(0, .agg wOpd)] = some (.sl .ex [wOpd]) := by kernel_rfl
theorem wb2 : aBuildSlice Tryz.prog 38 2 [(0, .agg wStm1), (1, .agg wStm2)] = some (.sl .ex [wStm1, wStm2]) := by kernel_rfl
theorem wb3 : aBuildSlice Tryz.prog 22 1 [(0, .agg wFun)] = some (.sl .ex [wFun]) := by kernel_rfl
theorem wS : sanL [.agg [.sl .sh (fixW.map encFunc)], .agg [.sl .sh (fixW.map encFunc)]] = sanL [.agg [.sl .sh (fixW.map encFunc)], .agg [.sl .ex [wFun]]] := by kernel_rfl
set_option maxRecDepth 20000 in
theorem c_fixed2 (H : Heap) : calls Tryz.prog cfg2 13 [] H = some (.ret (.lit (.bool true)) H) := by
  refine calls_pure (fn := Tryz.f13) rfl rfl rfl rfl rfl ?_ H
  have rs : Tryz.f13.results.toList = [.tmp 0] := rfl
  have h1 := fun H => c_parse2 [102, 117, 110, 32, 102, 40, 97, 41, 32, 123, 32, 120, 32, 61, 32, 97, 46, 112, 59, 32, 114, 101, 116, 117, 114, 110, 32, 120, 59, 32, 125] H
  have h2 := fun H => c_parse2 [102, 117, 110, 32, 102, 40, 32, 123] H
  have h3 := fun H => c_parse2 [102, 117, 110, 32, 102, 40, 41, 32, 123, 32, 120, 32, 61, 32, 49, 59, 32] H
  have hs1 := fun H => calls_of_san (c := cfg2) (f := 14) rfl wS (up (c_rSame fixW fixW rfl .sh .sh H))
  have hs2 := fun H => calls_of_san (c := cfg2) (f := 17) rfl wS (up (c_pSame fixW fixW rfl .sh .sh H))
  have hs3 := fun H => up (c_pSame fixW [] rfl .sh .nil H)
  have hk1 := fun H => up (c_keyword [112, 114, 111, 116, 111] H)
  have hk2 := fun H => up (c_keyword [120] H)
  rw [eqFs_refl] at hs1 hs2
  rw [show eqFs fixW [] = false from rfl] at hs3
  rw [show keyword [112, 114, 111, 116, 111] = true from rfl] at hk1
  rw [show keyword [120] = false from rfl] at hk2
  rw [fixP1] at h1
  rw [fixP2] at h2
  rw [fixP3] at h3
  have b1 := wb1
  have b2 := wb2
  have b3 := wb3
  simp only [encRead, List.map_nil] at h1 h2 h3
  generalize fixW.map encFunc = fw at *
  simp only [wFun, wStm1, wStm2, wOpd, List.map_nil] at b1 b2 b3 hs1 hs2 hs3
  simp only [go_sem, Nat.reduceBEq, Nat.reduceLeDiff, Nat.reduceEqDiff, Nat.reduceSub, Nat.reduceAdd, Int.reduceEq, Int.reduceLT, Int.reduceLE, Int.reduceAdd, rs, h1, h2, h3, b1, b2, b3, hs1, hs2, hs3, hk1, hk2]
end Go.Proofs.YtghhkbigmmjanaaGreatDoor.VA

/-! Ph6 -/
namespace Go.Proofs.YtghhkbigmmjanaaGreatDoor.VA
open Go Go.RowKit
attribute [local go_sem] Nat.add_eq_left Nat.left_eq_add true_and and_true ite_true if_false Int.cast_ofNat_Int eq_self Nat.add_assoc Option.some.injEq decide_true decide_false Bool.not_true Bool.not_false List.size_toArray List.length_cons List.length_nil
set_option linter.unusedSimpArgs false
set_option maxRecDepth 100000

set_option maxRecDepth 20000 in
theorem c_rParse2 (s : List UInt8) (H : Heap) : calls Tryz.prog cfg2 12 [.lit (.string (ba s))] H = some (.ret (encRead (parseP s)) H) := by
  refine calls_pure (fn := Tryz.f12) rfl rfl rfl rfl rfl ?_ H
  have rs : Tryz.f12.results.toList = [.cell 2 24, .cell 3 27] := rfl
  have hlen := lexAns_len s
  have hx := fun H => up (c_rLex s H)
  have hr := c_rRead2 ((lexAns s).1.map Tok.g) s.length (by simp; unfold LM; omega)
  by_cases h : (lexAns s).2.1 = 0
  · rw [parseP_ok s h]
    generalize lexAns s = r at *
    obtain ⟨ts, c, a⟩ := r
    simp only at h
    subst h
    generalize readP (ts.map Tok.g) s.length = q at *
    simp only [← enc_g] at hr
    simp only [encLex, encFault, encRead] at hx hr ⊢
    simp only [go_sem, Nat.reduceBEq, Nat.reduceLeDiff, Nat.reduceEqDiff, Nat.reduceSub, Nat.reduceAdd, Int.reduceEq, Int.reduceLT, Int.reduceLE, Int.reduceAdd, rs, hx, hr, ba_size]
  · rw [parseP_bad s h]
    generalize lexAns s = r at *
    obtain ⟨ts, c, a⟩ := r
    have hc : decide ((c : Int) = 0) = false := by simp at h ⊢; omega
    simp only [encLex, encFault] at hx
    simp only [go_sem, Nat.reduceBEq, Nat.reduceLeDiff, Nat.reduceEqDiff, Nat.reduceSub, Nat.reduceAdd, Int.reduceEq, Int.reduceLT, Int.reduceLE, Int.reduceAdd, rs, hx, hc]
    refine W_draw [(1, 2)] (by kernel_rfl) ?_
    simp only [go_sem, Nat.reduceBEq, Nat.reduceLeDiff, Nat.reduceEqDiff, Nat.reduceSub, Nat.reduceAdd, Int.reduceEq, Int.reduceLT, Int.reduceLE, Int.reduceAdd, rs, encRead, List.map_nil] <;> rfl
set_option maxRecDepth 20000 in
theorem parse_texts (s : List UInt8) (H : Heap) : calls Tryz.prog cfg2 3 [.lit (.string (ba s))] H = some (.ret (.lit (.bool true)) H) := by
  refine calls_pure (fn := Tryz.f3) rfl rfl rfl rfl rfl ?_ H
  have rs : Tryz.f3.results.toList = [.tmp 2] := rfl
  have h1 := c_parse2 s
  have h2 := c_rParse2 s
  have h3 := fun o o' H => up (c_rSame (parseP s).1 (parseP s).1 (parseP_fit s) o o' H)
  have h4 := fun H => up (c_keyword s H)
  have h5 := fun H => up (c_rKeyword s H)
  rw [eqFs_refl] at h3
  generalize parseP s = q at *
  obtain ⟨fs, c, a⟩ := q
  simp only [encRead] at h1 h2 h3
  simp only [go_sem, Nat.reduceBEq, Nat.reduceLeDiff, Nat.reduceEqDiff, Nat.reduceSub, Nat.reduceAdd, Int.reduceEq, Int.reduceLT, Int.reduceLE, Int.reduceAdd, rs, h1, h2, h3, h4, h5, c_fixed2, beq_self_eq_true]
theorem imp_2 (f : FuncId) : cfg2.imp f = cfg.imp f := rfl
set_option maxRecDepth 20000 in
theorem parse_same (s t : List UInt8) (H : Heap) : calls Tryz.prog cfg2 4 [.lit (.string (ba s)), .lit (.string (ba t))] H = some (.ret (.lit (.bool true)) H) := by
  refine calls_pure (fn := Tryz.f4) rfl rfl rfl rfl rfl ?_ H
  have rs : Tryz.f4.results.toList = [.tmp 4] := rfl
  have h1 := c_rParse2 s
  have h2 := c_rParse2 t
  have h3 := fun o o' H => up (c_rSame (parseP s).1 (parseP t).1 (parseP_fit s) o o' H)
  have h4 := fun o o' H => up (c_pSame (parseP s).1 (parseP t).1 (parseP_fit s) o o' H)
  have h5 := fun o o' H => up (c_pSame (parseP s).1 (parseP s).1 (parseP_fit s) o o' H)
  rw [eqFs_refl] at h5
  generalize parseP s = q at *
  generalize parseP t = q' at *
  obtain ⟨fs, c, a⟩ := q
  obtain ⟨fs', c', a'⟩ := q'
  simp only [encRead] at h1 h2 h3 h4 h5
  simp only [go_sem, Nat.reduceBEq, Nat.reduceLeDiff, Nat.reduceEqDiff, Nat.reduceSub, Nat.reduceAdd, Int.reduceEq, Int.reduceLT, Int.reduceLE, Int.reduceAdd, rs, h1, h2, c_fixed2]
  refine W_draw [(2, 3), (2, 5), (3, 5), (4, 5), (2, 6), (3, 6), (4, 6), (5, 6), (11, 12)] (by kernel_rfl) ?_
  simp only [go_sem, Nat.reduceBEq, Nat.reduceLeDiff, Nat.reduceEqDiff, Nat.reduceSub, Nat.reduceAdd, Int.reduceEq, Int.reduceLT, Int.reduceLE, Int.reduceAdd, rs, h1, h2, h3, h4, h5, c_fixed2, imp_2, beq_self_eq_true]
end Go.Proofs.YtghhkbigmmjanaaGreatDoor.VA

/-! Ph7 -/
namespace Go.Proofs.YtghhkbigmmjanaaGreatDoor.VA
open Go Go.RowKit
theorem ParseTexts_walk (a0 : ByteArray) (w : World) (_ : a0.size ≤ maxLen) : Calls Tryz.prog 3 #[.string a0] w fun e w' => e = .returned (.bool true) ∧ Below w.heap.size w w' := by
  refine law_calls cfg2_ok (args := [.lit (.string a0)]) ?_ (RelL.cons (.lit _) (RelL.nil _ _))
  rw [ba_eta a0]
  exact parse_texts _ _
theorem ParseSame_walk (a0 a1 : ByteArray) (w : World) (_ : a0.size ≤ maxLen) (_ : a1.size ≤ maxLen) : Calls Tryz.prog 4 #[.string a0, .string a1] w fun e w' => e = .returned (.bool true) ∧ Below w.heap.size w w' := by
  refine law_calls cfg2_ok (args := [.lit (.string a0), .lit (.string a1)]) ?_ (RelL.cons (.lit _) (RelL.cons (.lit _) (RelL.nil _ _)))
  rw [ba_eta a0, ba_eta a1]
  exact parse_same _ _ _
end Go.Proofs.YtghhkbigmmjanaaGreatDoor.VA
