/- What is proved: strconv.Atoi answers as the abstract interpreter (VA) is told; the tables that it runs by are the program's. No condition.
What is proved: what the parser answers for bytes, and that the law's fixed calls answer true, in the abstract interpreter (VA). No condition.
What is proved: the law ParseDeep answers true, in the abstract interpreter (VA). No condition.
What is proved: the law ParseDeep returns true at any number. No condition. -/
import Derived.Test.YtghhkbigmmjanaaDoorM10
import Derived.Test.YtghhkbigmmjanaaDoorM9
import Derived.Lib.SmallJoins
import Derived.Test.YtghhkbigmmjanaaDoorM5
import Derived.Test.YtghhkbigmmjanaaDoorM4
import Derived.Test.YtghhkbigmmjanaaDoorM6
/-! Ta2 -/
namespace Go.Proofs.YtghhkbigmmjanaaDoor.VA
open Go Go.RowKit
set_option linter.unusedSimpArgs false
set_option maxRecDepth 100000

theorem dec_num : ∀ (l : List UInt8) (acc : Nat), l.all (fun b => isDigit b.toNat) = true → Lib.decFrom acc l = some (l.foldl (fun n b => 10 * n + (b.toNat - 48)) acc)
  | [], acc, _ => rfl
  | b :: l, acc, h => by
    rw [List.all_cons, Bool.and_eq_true] at h
    obtain ⟨h1, h2⟩ := h
    simp only [isDigit, Bool.and_eq_true, decide_eq_true_eq] at h1
    simp only [Lib.decFrom, Lib.digitVal, if_pos h1, List.foldl_cons]
    rw [dec_num l _ h2, Nat.mul_comm acc 10]
theorem told_atoi : ToldOk Tryd.prog 70 tAtoi := by
  refine ⟨fun vs w => callFunc_enter Tryd.func70 (by kernel_rfl) rfl vs w, ?_⟩
  intro args v h g H w vs hi hr
  unfold tAtoi at h
  split at h
  · rename_i s
    split at h
    · rename_i hc
      obtain ⟨hd, h1, h18⟩ := hc
      simp only [Option.some.injEq] at h
      subst h
      obtain ⟨v0, hvs⟩ : ∃ v0, vs = #[v0] := by
        have hl : vs.size = 1 := by have := hr.1; simpa using this.symm
        refine ⟨vs[0]'(by omega), ?_⟩
        apply Array.ext
        · simp [hl]
        · intro i h1 h2
          have h0 : i = 0 := by omega
          subst h0
          rfl
      subst hvs
      have h0 := hr.head.lit_inv
      subst h0
      cases hL : s.data.toList with
      | nil => rw [hL] at h1; simp at h1
      | cons b0 r =>
        have hb : isDigit b0.toNat = true := by rw [hL, List.all_cons, Bool.and_eq_true] at hd; exact hd.1
        have hdec := dec_num s.data.toList 0 hd
        have hsz : s.size = s.data.toList.length := Lib.size_eq s
        refine (outer_atoi s (numOf s.data.toList) b0 r hL (by rintro rfl; simp [isDigit] at hb) (by rintro rfl; simp [isDigit] at hb) (by omega) hdec w).mono ?_
        rintro en w' ⟨rfl, t, rfl⟩
        obtain ⟨hx, hv⟩ := below_step hi (Go.Joins.below_bytesWorld _ w _ t (Nat.le_refl _))
        refine ⟨_, g, rfl, hx, hv, rfl, rfl, ?_⟩
        rw [← hL]
        exact Rel.mk_tup (RelL.cons (.lit _) (RelL.cons (.lit _) (RelL.nil _ _)))
    · cases h
  · cases h
theorem cfg_ok : CfgOk Tryd.prog cfg := by
  refine ⟨by kernel_rfl, ?_, ?_⟩
  · intro f fn h
    have h' : (if (runs.contains f || writes.contains f) = true then Tryd.prog.funcs[f]? else none) = some fn := h
    split at h'
    · rename_i hm
      have hok := List.all_eq_true.1 runs_ok f (by simpa using hm)
      unfold fnOk at hok
      rw [h'] at hok
      simp only [Bool.and_eq_true, Bool.not_eq_true'] at hok
      refine ⟨h', hok.1, fun code hb => ?_⟩
      have := hok.2
      rw [hb] at this
      exact this
    · cases h'
  · intro f h hh
    have h' : (if f = 60 then some tIndexByte else if f = 70 then some tAtoi else none) = some h := hh
    split at h'
    · rename_i hf
      simp only [Option.some.injEq] at h'
      subst hf; subst h'
      exact told_index
    · split at h'
      · rename_i hf
        simp only [Option.some.injEq] at h'
        subst hf; subst h'
        exact told_atoi
      · cases h'
theorem cfg2_ok : CfgOk Tryd.prog cfg2 := by
  refine ⟨cfg_ok.mixed, cfg_ok.fn, ?_⟩
  intro f h hh
  have h' : (if f = 7 then some tRead else cfg.told f) = some h := hh
  split at h'
  · rename_i hf
    simp only [Option.some.injEq] at h'
    subst hf; subst h'
    exact read_told cfg_ok
  · exact cfg_ok.told f h h'
theorem cfg_le : CfgLe cfg cfg2 := by
  have hne : ∀ f fn, cfg.fn f = some fn → f ≠ 7 := by
    rintro f fn h rfl
    have h' : (if (runs.contains 7 || writes.contains 7) = true then Tryd.prog.funcs[(7 : Nat)]? else none) = some fn := h
    rw [if_neg (by decide)] at h'
    cases h'
  refine ⟨?_, ?_, rfl⟩
  · intro f h hh
    have hf : f ≠ 7 := by
      rintro rfl
      have h' : (if 7 = 60 then some tIndexByte else if 7 = 70 then some tAtoi else none) = some h := hh
      rw [if_neg (by decide), if_neg (by decide)] at h'
      cases h'
    show (if f = 7 then some tRead else cfg.told f) = some h
    rw [if_neg hf]; exact hh
  · intro f fn h1 h2
    have hf := hne f fn h2
    refine ⟨?_, h2⟩
    show (if f = 7 then some tRead else cfg.told f) = none
    rw [if_neg hf]; exact h1
end Go.Proofs.YtghhkbigmmjanaaDoor.VA

/-! Ph3 -/
namespace Go.Proofs.YtghhkbigmmjanaaDoor.VA
open Go Go.RowKit
attribute [local go_sem] Nat.add_eq_left Nat.left_eq_add true_and and_true ite_true if_false Int.cast_ofNat_Int eq_self Nat.add_assoc Option.some.injEq decide_true decide_false Bool.not_true Bool.not_false List.size_toArray List.length_cons List.length_nil
set_option linter.unusedSimpArgs false
set_option maxRecDepth 100000

theorem up {f : FuncId} {args : List AV} {H : Heap} {r : CR} (h : calls Tryd.prog cfg f args H = some r) : calls Tryd.prog cfg2 f args H = some r := calls_cfg cfg_le h
theorem c_read2 (l : List GTok) (en : Int) (hlen : l.length ≤ LM) (o : Own) (H : Heap) : calls Tryd.prog cfg2 7 [.sl o (l.map encG), .lit (.int .i64 en)] H = some (.ret (encRead (readP l en)) H) := by
  refine calls_told (h := tRead) rfl ?_ H
  simp only [go_sem, tRead, toks_enc, if_pos hlen]
theorem c_rRead2 (l : List GTok) (en : Int) (hlen : l.length ≤ LM) (o : Own) (H : Heap) : calls Tryd.prog cfg2 8 [.sl o (l.map encG), .lit (.int .i64 en)] H = some (.ret (encRead (readP l en)) H) := up (c_rRead hlen o H)
theorem parseP_bad (s : List UInt8) (hne : (lexAns s).2.1 ≠ 0) : parseP s = ([], (lexAns s).2.1, (((lexAns s).2.2 : Nat) : Int)) := by
  unfold parseP
  generalize lexAns s = r at hne
  obtain ⟨ts, c, a⟩ := r
  cases c with
  | zero => exact absurd rfl hne
  | succ c => rfl
theorem parseP_ok (s : List UInt8) (he : (lexAns s).2.1 = 0) : parseP s = readP ((lexAns s).1.map Tok.g) s.length := by
  unfold parseP
  generalize lexAns s = r at he
  obtain ⟨ts, c, a⟩ := r
  simp only at he
  subst he
  rfl
theorem parseP_fit (s : List UInt8) : fitP (parseP s).1 = true := by
  by_cases h : (lexAns s).2.1 = 0
  · rw [parseP_ok s h]; exact readP_fit (by have := lexAns_len s; simp; omega)
  · rw [parseP_bad s h]; rfl
set_option maxRecDepth 20000 in
theorem c_parse2 (s : List UInt8) (H : Heap) : calls Tryd.prog cfg2 11 [.lit (.string (ba s))] H = some (.ret (encRead (parseP s)) H) := by
  refine calls_pure (fn := Tryd.f11) rfl rfl rfl rfl rfl ?_ H
  have rs : Tryd.f11.results.toList = [.cell 2 25, .cell 3 28] := rfl
  have hlen := lexAns_len s
  have hx := fun H => up (c_lex s H)
  have hr := c_read2 ((lexAns s).1.map Tok.g) s.length (by simp; unfold LM; omega)
  by_cases h : (lexAns s).2.1 = 0
  · rw [parseP_ok s h]
    generalize lexAns s = r at *
    obtain ⟨ts, c, a⟩ := r
    simp only at h
    subst h
    generalize readP (ts.map Tok.g) s.length = q at *
    simp only [← enc_g] at hr
    simp only [encLex, encFault, encRead] at hx hr ⊢
    simp only [go_sem, Nat.reduceBEq, Nat.reduceLeDiff, Nat.reduceEqDiff, Nat.reduceSub, Nat.reduceAdd, Int.reduceEq, Int.reduceLT, Int.reduceLE, Int.reduceAdd, rs, hx, hr, ba_size]
  · rw [parseP_bad s h]
    generalize lexAns s = r at *
    obtain ⟨ts, c, a⟩ := r
    have hc : decide ((c : Int) = 0) = false := by simp at h ⊢; omega
    simp only [encLex, encFault] at hx
    simp only [go_sem, Nat.reduceBEq, Nat.reduceLeDiff, Nat.reduceEqDiff, Nat.reduceSub, Nat.reduceAdd, Int.reduceEq, Int.reduceLT, Int.reduceLE, Int.reduceAdd, rs, hx, hc]
    refine W_draw [(1, 2)] (by kernel_rfl) ?_
    simp only [go_sem, Nat.reduceBEq, Nat.reduceLeDiff, Nat.reduceEqDiff, Nat.reduceSub, Nat.reduceAdd, Int.reduceEq, Int.reduceLT, Int.reduceLE, Int.reduceAdd, rs, encRead, List.map_nil] <;> rfl
/-- Only what arguments say counts. -/
theorem calls_of_san {P : Program} {c : Cfg} {f : FuncId} {args args' : List AV} {H : Heap} {r : CR} (hi : c.imp f = false) (ha : sanL args = sanL args') (h : calls P c f args H = some r) : calls P c f args' H = some r := by
  obtain ⟨k, hk⟩ := calls_iff.1 h
  refine calls_iff.2 ⟨k, ?_⟩
  cases k with
  | zero => simp [call] at hk
  | succ k =>
    simp only [call, hi, ← ha] at hk ⊢
    exact hk
def fixW : List GFunc := [⟨[102], [[97]], [.mk 2 [120] [97] [112] [] [] [] [], .mk 11 [] [] [] [⟨4, 0, [120]⟩] [] [] []]⟩]
theorem fixP1 : parseP [102, 117, 110, 32, 102, 40, 97, 41, 32, 123, 32, 120, 32, 61, 32, 97, 46, 112, 59, 32, 114, 101, 116, 117, 114, 110, 32, 120, 59, 32, 125] = (fixW, 0, 0) := by kernel_rfl
theorem fixP2 : parseP [102, 117, 110, 32, 102, 40, 32, 123] = ([], 20, 7) := by kernel_rfl
theorem fixP3 : parseP [102, 117, 110, 32, 102, 40, 41, 32, 123, 32, 120, 32, 61, 32, 49, 59, 32] = ([], 20, 17) := by kernel_rfl
/-- The cells of the law's own statements. -/
def wOpd : List AV := [.lit (.int .i64 4), .lit (.int .i64 0), .lit (.string (ba [120]))]
def wStm1 : List AV := [.lit (.int .i64 2), .lit (.string (ba [120])), .lit (.string (ba [97])), .lit (.string (ba [112])), .sl .nil [], .sl .nil [], .sl .nil [], .sl .nil []]
def wStm2 : List AV := [.lit (.int .i64 11), .lit (.string (ba [])), .lit (.string (ba [])), .lit (.string (ba [])), .sl .ex [wOpd], .sl .nil [], .sl .nil [], .sl .nil []]
def wFun : List AV := [.lit (.string (ba [102])), .sl .ex [encStr [97]], .sl .ex [wStm1, wStm2]]
theorem wb1 : aBuildSlice Tryd.prog 63 1 [(0, .agg wOpd)] = some (.sl .ex [wOpd]) := by kernel_rfl
theorem wb2 : aBuildSlice Tryd.prog 42 2 [(0, .agg wStm1), (1, .agg wStm2)] = some (.sl .ex [wStm1, wStm2]) := by kernel_rfl
theorem wb3 : aBuildSlice Tryd.prog 23 1 [(0, .agg wFun)] = some (.sl .ex [wFun]) := by kernel_rfl
theorem wS : sanL [.agg [.sl .sh (fixW.map encFunc)], .agg [.sl .sh (fixW.map encFunc)]] = sanL [.agg [.sl .sh (fixW.map encFunc)], .agg [.sl .ex [wFun]]] := by kernel_rfl
set_option maxRecDepth 20000 in
theorem c_fixed2 (H : Heap) : calls Tryd.prog cfg2 9 [] H = some (.ret (.lit (.bool true)) H) := by
  refine calls_pure (fn := Tryd.f9) rfl rfl rfl rfl rfl ?_ H
  have rs : Tryd.f9.results.toList = [.tmp 0] := rfl
  have h1 := fun H => c_parse2 [102, 117, 110, 32, 102, 40, 97, 41, 32, 123, 32, 120, 32, 61, 32, 97, 46, 112, 59, 32, 114, 101, 116, 117, 114, 110, 32, 120, 59, 32, 125] H
  have h2 := fun H => c_parse2 [102, 117, 110, 32, 102, 40, 32, 123] H
  have h3 := fun H => c_parse2 [102, 117, 110, 32, 102, 40, 41, 32, 123, 32, 120, 32, 61, 32, 49, 59, 32] H
  have hs1 := fun H => calls_of_san (c := cfg2) (f := 10) rfl wS (up (c_rSame fixW fixW rfl .sh .sh H))
  have hs2 := fun H => calls_of_san (c := cfg2) (f := 20) rfl wS (up (c_pSame fixW fixW rfl .sh .sh H))
  have hs3 := fun H => up (c_pSame fixW [] rfl .sh .nil H)
  have hk1 := fun H => up (c_keyword [112, 114, 111, 116, 111] H)
  have hk2 := fun H => up (c_keyword [120] H)
  rw [eqFs_refl] at hs1 hs2
  rw [show eqFs fixW [] = false from rfl] at hs3
  rw [show keyword [112, 114, 111, 116, 111] = true from rfl] at hk1
  rw [show keyword [120] = false from rfl] at hk2
  rw [fixP1] at h1
  rw [fixP2] at h2
  rw [fixP3] at h3
  have b1 := wb1
  have b2 := wb2
  have b3 := wb3
  simp only [encRead, List.map_nil] at h1 h2 h3
  generalize fixW.map encFunc = fw at *
  simp only [wFun, wStm1, wStm2, wOpd, List.map_nil] at b1 b2 b3 hs1 hs2 hs3
  simp only [go_sem, Nat.reduceBEq, Nat.reduceLeDiff, Nat.reduceEqDiff, Nat.reduceSub, Nat.reduceAdd, Int.reduceEq, Int.reduceLT, Int.reduceLE, Int.reduceAdd, rs, h1, h2, h3, b1, b2, b3, hs1, hs2, hs3, hk1, hk2]
end Go.Proofs.YtghhkbigmmjanaaDoor.VA

/-! Pi1 -/
namespace Go.Proofs.YtghhkbigmmjanaaDoor.VA
open Go Go.RowKit
attribute [local go_sem] Nat.add_eq_left Nat.left_eq_add true_and and_true ite_true if_false Int.cast_ofNat_Int eq_self Nat.add_assoc Option.some.injEq decide_true decide_false Bool.not_true Bool.not_false List.size_toArray List.length_cons List.length_nil
set_option linter.unusedSimpArgs false
set_option maxRecDepth 100000

def tLoop : List UInt8 := [119, 104, 105, 108, 101, 32, 120, 32, 123]
def deepS : Nat → List UInt8
  | 0 => [102, 117, 110, 32, 102, 40, 41, 32, 123]
  | n + 1 => deepS n ++ tLoop
def deepE : Nat → List UInt8
  | 0 => []
  | n + 1 => deepE n ++ [125]
theorem deepS_len : ∀ n, (deepS n).length = 9 + 9 * n
  | 0 => rfl
  | n + 1 => by rw [deepS, List.length_append, deepS_len n]; simp [tLoop]; omega
theorem deepE_len : ∀ n, (deepE n).length = n
  | 0 => rfl
  | n + 1 => by rw [deepE, List.length_append, deepE_len n]; rfl
/-- What is asked of so many loops. -/
def deepOk (n : Nat) : Bool :=
  match parseP (deepS n ++ deepE n ++ [125]) with
  | (fs, c, a) => if 31 < n then decide (c = 21) && decide (a = 296) else decide (c = 0) && match fs with | [f] => decide (f.body.length = 1) | _ => false
theorem deep_all : (List.range 61).all (fun n => decide (n = 0) || deepOk n) = true := by kernel_rfl
theorem deep_ok {n : Nat} (h1 : 1 ≤ n) (h2 : n ≤ 60) : deepOk n = true := by
  have := List.all_eq_true.1 deep_all n (List.mem_range.2 (by omega))
  have h0 : decide (n = 0) = false := by simp; omega
  rw [h0, Bool.false_or] at this
  exact this
set_option maxRecDepth 20000 in
theorem parse_deep (n : Int) (H : Heap) : calls Tryd.prog cfg2 6 [.lit (.int .i64 n)] H = some (.ret (.lit (.bool true)) H) := by
  refine calls_pure (fn := Tryd.f6) rfl rfl rfl rfl rfl ?_ H
  have rs : Tryd.f6.results.toList = [.tmp 2] := rfl
  by_cases h1 : n < 1
  · have d1 : decide (n < 1) = true := by simp [h1]
    simp only [go_sem, Nat.reduceBEq, Nat.reduceLeDiff, Nat.reduceEqDiff, Nat.reduceSub, Nat.reduceAdd, Int.reduceEq, Int.reduceLT, Int.reduceLE, Int.reduceAdd, rs, c_fixed2, d1]
  by_cases h2 : 60 < n
  · have d1 : decide (n < 1) = false := by simp [h1]
    have d2 : decide (60 < n) = true := by simp [h2]
    simp only [go_sem, Nat.reduceBEq, Nat.reduceLeDiff, Nat.reduceEqDiff, Nat.reduceSub, Nat.reduceAdd, Int.reduceEq, Int.reduceLT, Int.reduceLE, Int.reduceAdd, rs, c_fixed2, d1, d2]
  obtain ⟨k, rfl⟩ : ∃ k : Nat, n = (k : Nat) := ⟨n.toNat, by omega⟩
  have d1 : decide (((k : Nat) : Int) < 1) = false := by simp; omega
  have d2 : decide (60 < ((k : Nat) : Int)) = false := by simp; omega
  have e0 : (ByteArray.mk #[102, 117, 110, 32, 102, 40, 41, 32, 123]) = ba (deepS 0) := rfl
  have e1 : (ByteArray.mk #[]) = ba (deepE 0) := rfl
  simp only [go_sem, Nat.reduceBEq, Nat.reduceLeDiff, Nat.reduceEqDiff, Nat.reduceSub, Nat.reduceAdd, Int.reduceEq, Int.reduceLT, Int.reduceLE, Int.reduceAdd, rs, c_fixed2, d1, d2]
  refine W_loop_ind (fun x e H => ∃ i : Nat, x = k - i ∧ i ≤ k ∧ gget .bad e 0 = .lit (.int .i64 (k : Nat)) ∧ gget .bad e 3 = .lit (.string (ba (deepS i))) ∧ gget .bad e 4 = .lit (.string (ba (deepE i))) ∧ gget .bad e 5 = .lit (.int .i64 (i : Nat)))
    k ⟨0, rfl, by omega, by simp only [go_sem, Nat.reduceBEq, Nat.reduceLeDiff, Nat.reduceEqDiff, Nat.reduceSub, Nat.reduceAdd, Int.reduceEq, Int.reduceLT, Int.reduceLE, Int.reduceAdd], by simp only [go_sem, Nat.reduceBEq, Nat.reduceLeDiff, Nat.reduceEqDiff, Nat.reduceSub, Nat.reduceAdd, Int.reduceEq, Int.reduceLT, Int.reduceLE, Int.reduceAdd] <;> rfl, by simp only [go_sem, Nat.reduceBEq, Nat.reduceLeDiff, Nat.reduceEqDiff, Nat.reduceSub, Nat.reduceAdd, Int.reduceEq, Int.reduceLT, Int.reduceLE, Int.reduceAdd] <;> rfl, by simp only [go_sem, Nat.reduceBEq, Nat.reduceLeDiff, Nat.reduceEqDiff, Nat.reduceSub, Nat.reduceAdd, Int.reduceEq, Int.reduceLT, Int.reduceLE, Int.reduceAdd] <;> rfl⟩ ?_
  rintro x ih e H ⟨i, rfl, hle, h0, h3, h4, h5⟩
  have l1 := deepS_len i
  have l2 := deepE_len i
  by_cases hlt : i < k
  · have hlt' : decide ((i : Int) < (k : Nat)) = true := by simp; omega
    have hw1 := wrap1 (show i + 1 ≤ 9223372036854775807 by omega)
    have a1 := add_ba (deepS i) tLoop (by simp [l1, tLoop]; omega)
    have a2 := add_ba (deepE i) [125] (by simp [l2]; omega)
    simp only [tLoop] at a1
    simp only [go_sem, Nat.reduceBEq, Nat.reduceLeDiff, Nat.reduceEqDiff, Nat.reduceSub, Nat.reduceAdd, Int.reduceEq, Int.reduceLT, Int.reduceLE, Int.reduceAdd, h0, h3, h4, h5, hlt', a1, a2, hw1]
    exact ih (k - (i + 1)) (by omega) _ _ ⟨i + 1, rfl, by omega, by simp only [go_sem, Nat.reduceBEq, Nat.reduceLeDiff, Nat.reduceEqDiff, Nat.reduceSub, Nat.reduceAdd, Int.reduceEq, Int.reduceLT, Int.reduceLE, Int.reduceAdd, h0], by simp only [go_sem, Nat.reduceBEq, Nat.reduceLeDiff, Nat.reduceEqDiff, Nat.reduceSub, Nat.reduceAdd, Int.reduceEq, Int.reduceLT, Int.reduceLE, Int.reduceAdd] <;> rfl, by simp only [go_sem, Nat.reduceBEq, Nat.reduceLeDiff, Nat.reduceEqDiff, Nat.reduceSub, Nat.reduceAdd, Int.reduceEq, Int.reduceLT, Int.reduceLE, Int.reduceAdd] <;> rfl, by simp only [go_sem, Nat.reduceBEq, Nat.reduceLeDiff, Nat.reduceEqDiff, Nat.reduceSub, Nat.reduceAdd, Int.reduceEq, Int.reduceLT, Int.reduceLE, Int.reduceAdd]⟩
  · have hlt' : decide ((i : Int) < (k : Nat)) = false := by simp; omega
    have hik : i = k := by omega
    subst hik
    have a1 := add_ba (deepS i) (deepE i) (by simp [l1, l2]; omega)
    have a2 := add_ba (deepS i ++ deepE i) [125] (by simp [l1, l2]; omega)
    have hp := c_parse2 (deepS i ++ deepE i ++ [125])
    have hok := deep_ok (n := i) (by omega) (by omega)
    unfold deepOk at hok
    generalize parseP (deepS i ++ deepE i ++ [125]) = r at hp hok
    obtain ⟨fs, c, a⟩ := r
    simp only [encRead] at hp
    simp only at hok
    split at hok
    · rename_i h31
      simp only [Bool.and_eq_true, decide_eq_true_eq] at hok
      obtain ⟨rfl, rfl⟩ := hok
      have d3 : decide (31 < ((i : Nat) : Int)) = true := by simp; omega
      simp only [go_sem, Nat.reduceBEq, Nat.reduceLeDiff, Nat.reduceEqDiff, Nat.reduceSub, Nat.reduceAdd, Int.reduceEq, Int.reduceLT, Int.reduceLE, Int.reduceAdd, rs, h0, h3, h4, h5, hlt', a1, a2, hp, d3] <;> rfl
    · rename_i h31
      simp only [Bool.and_eq_true, decide_eq_true_eq] at hok
      obtain ⟨rfl, hok⟩ := hok
      have d3 : decide (31 < ((i : Nat) : Int)) = false := by simp; omega
      split at hok
      · rename_i f
        simp only [decide_eq_true_eq] at hok
        have e2 : iad (some (44, 3, 64)) (.sl .sh [encFunc f]) (some 0) = some (.ep (encFunc f)) := rfl
        have e3 : decide (((f.body.length : Nat) : Int) = 1) = true := by simp; omega
        simp only [List.map_cons, List.map_nil] at hp
        simp only [encFunc] at hp e2
        simp only [go_sem, Nat.reduceBEq, Nat.reduceLeDiff, Nat.reduceEqDiff, Nat.reduceSub, Nat.reduceAdd, Int.reduceEq, Int.reduceLT, Int.reduceLE, Int.reduceAdd, rs, h0, h3, h4, h5, hlt', a1, a2, hp, d3, e2, e3, List.length_map]
      · cases hok
end Go.Proofs.YtghhkbigmmjanaaDoor.VA

/-! Pi2 -/
namespace Go.Proofs.YtghhkbigmmjanaaDoor.VA
open Go Go.RowKit
theorem ParseDeep_walk (a0 : Int) (w : World) : Calls Tryd.prog 6 #[.int .i64 a0] w fun e w' => e = .returned (.bool true) ∧ Below w.heap.size w w' := by
  refine law_calls cfg2_ok (args := [.lit (.int .i64 a0)]) ?_ (RelL.cons (.lit _) (RelL.nil _ _))
  exact parse_deep a0 _
end Go.Proofs.YtghhkbigmmjanaaDoor.VA
