/- What is proved: strconv.Atoi answers as the abstract interpreter (VA) is told; the tables that it runs by are the program's. No condition.
What is proved: what the parser answers for bytes, and that the law's fixed calls answer true, in the abstract interpreter (VA). No condition.
What is proved: the law ParsePlaces answers true, in the abstract interpreter (VA). No condition.
What is proved: the law ParsePlaces returns true at any string and number. No condition. -/
import Derived.Test.YtghhkbigmmjanaaDoorM10
import Derived.Test.YtghhkbigmmjanaaDoorM9
import Derived.Lib.SmallJoins
import Derived.Test.YtghhkbigmmjanaaDoorM5
import Derived.Test.YtghhkbigmmjanaaDoorM4
import Derived.Test.YtghhkbigmmjanaaDoorM6
/-! Ta2 -/
namespace Go.Proofs.YtghhkbigmmjanaaDoor.VA
open Go Go.RowKit
set_option linter.unusedSimpArgs false
set_option maxRecDepth 100000

theorem dec_num : ∀ (l : List UInt8) (acc : Nat), l.all (fun b => isDigit b.toNat) = true → Lib.decFrom acc l = some (l.foldl (fun n b => 10 * n + (b.toNat - 48)) acc)
  | [], acc, _ => rfl
  | b :: l, acc, h => by
    rw [List.all_cons, Bool.and_eq_true] at h
    obtain ⟨h1, h2⟩ := h
    simp only [isDigit, Bool.and_eq_true, decide_eq_true_eq] at h1
    simp only [Lib.decFrom, Lib.digitVal, if_pos h1, List.foldl_cons]
    rw [dec_num l _ h2, Nat.mul_comm acc 10]
theorem told_atoi : ToldOk Tryd.prog 70 tAtoi := by
  refine ⟨fun vs w => callFunc_enter Tryd.func70 (by kernel_rfl) rfl vs w, ?_⟩
  intro args v h g H w vs hi hr
  unfold tAtoi at h
  split at h
  · rename_i s
    split at h
    · rename_i hc
      obtain ⟨hd, h1, h18⟩ := hc
      simp only [Option.some.injEq] at h
      subst h
      obtain ⟨v0, hvs⟩ : ∃ v0, vs = #[v0] := by
        have hl : vs.size = 1 := by have := hr.1; simpa using this.symm
        refine ⟨vs[0]'(by omega), ?_⟩
        apply Array.ext
        · simp [hl]
        · intro i h1 h2
          have h0 : i = 0 := by omega
          subst h0
          rfl
      subst hvs
      have h0 := hr.head.lit_inv
      subst h0
      cases hL : s.data.toList with
      | nil => rw [hL] at h1; simp at h1
      | cons b0 r =>
        have hb : isDigit b0.toNat = true := by rw [hL, List.all_cons, Bool.and_eq_true] at hd; exact hd.1
        have hdec := dec_num s.data.toList 0 hd
        have hsz : s.size = s.data.toList.length := Lib.size_eq s
        refine (outer_atoi s (numOf s.data.toList) b0 r hL (by rintro rfl; simp [isDigit] at hb) (by rintro rfl; simp [isDigit] at hb) (by omega) hdec w).mono ?_
        rintro en w' ⟨rfl, t, rfl⟩
        obtain ⟨hx, hv⟩ := below_step hi (Go.Joins.below_bytesWorld _ w _ t (Nat.le_refl _))
        refine ⟨_, g, rfl, hx, hv, rfl, rfl, ?_⟩
        rw [← hL]
        exact Rel.mk_tup (RelL.cons (.lit _) (RelL.cons (.lit _) (RelL.nil _ _)))
    · cases h
  · cases h
theorem cfg_ok : CfgOk Tryd.prog cfg := by
  refine ⟨by kernel_rfl, ?_, ?_⟩
  · intro f fn h
    have h' : (if (runs.contains f || writes.contains f) = true then Tryd.prog.funcs[f]? else none) = some fn := h
    split at h'
    · rename_i hm
      have hok := List.all_eq_true.1 runs_ok f (by simpa using hm)
      unfold fnOk at hok
      rw [h'] at hok
      simp only [Bool.and_eq_true, Bool.not_eq_true'] at hok
      refine ⟨h', hok.1, fun code hb => ?_⟩
      have := hok.2
      rw [hb] at this
      exact this
    · cases h'
  · intro f h hh
    have h' : (if f = 60 then some tIndexByte else if f = 70 then some tAtoi else none) = some h := hh
    split at h'
    · rename_i hf
      simp only [Option.some.injEq] at h'
      subst hf; subst h'
      exact told_index
    · split at h'
      · rename_i hf
        simp only [Option.some.injEq] at h'
        subst hf; subst h'
        exact told_atoi
      · cases h'
theorem cfg2_ok : CfgOk Tryd.prog cfg2 := by
  refine ⟨cfg_ok.mixed, cfg_ok.fn, ?_⟩
  intro f h hh
  have h' : (if f = 7 then some tRead else cfg.told f) = some h := hh
  split at h'
  · rename_i hf
    simp only [Option.some.injEq] at h'
    subst hf; subst h'
    exact read_told cfg_ok
  · exact cfg_ok.told f h h'
theorem cfg_le : CfgLe cfg cfg2 := by
  have hne : ∀ f fn, cfg.fn f = some fn → f ≠ 7 := by
    rintro f fn h rfl
    have h' : (if (runs.contains 7 || writes.contains 7) = true then Tryd.prog.funcs[(7 : Nat)]? else none) = some fn := h
    rw [if_neg (by decide)] at h'
    cases h'
  refine ⟨?_, ?_, rfl⟩
  · intro f h hh
    have hf : f ≠ 7 := by
      rintro rfl
      have h' : (if 7 = 60 then some tIndexByte else if 7 = 70 then some tAtoi else none) = some h := hh
      rw [if_neg (by decide), if_neg (by decide)] at h'
      cases h'
    show (if f = 7 then some tRead else cfg.told f) = some h
    rw [if_neg hf]; exact hh
  · intro f fn h1 h2
    have hf := hne f fn h2
    refine ⟨?_, h2⟩
    show (if f = 7 then some tRead else cfg.told f) = none
    rw [if_neg hf]; exact h1
end Go.Proofs.YtghhkbigmmjanaaDoor.VA

/-! Ph3 -/
namespace Go.Proofs.YtghhkbigmmjanaaDoor.VA
open Go Go.RowKit
attribute [local go_sem] Nat.add_eq_left Nat.left_eq_add true_and and_true ite_true if_false Int.cast_ofNat_Int eq_self Nat.add_assoc Option.some.injEq decide_true decide_false Bool.not_true Bool.not_false List.size_toArray List.length_cons List.length_nil
set_option linter.unusedSimpArgs false
set_option maxRecDepth 100000

theorem up {f : FuncId} {args : List AV} {H : Heap} {r : CR} (h : calls Tryd.prog cfg f args H = some r) : calls Tryd.prog cfg2 f args H = some r := calls_cfg cfg_le h
theorem c_read2 (l : List GTok) (en : Int) (hlen : l.length ≤ LM) (o : Own) (H : Heap) : calls Tryd.prog cfg2 7 [.sl o (l.map encG), .lit (.int .i64 en)] H = some (.ret (encRead (readP l en)) H) := by
  refine calls_told (h := tRead) rfl ?_ H
  simp only [go_sem, tRead, toks_enc, if_pos hlen]
theorem c_rRead2 (l : List GTok) (en : Int) (hlen : l.length ≤ LM) (o : Own) (H : Heap) : calls Tryd.prog cfg2 8 [.sl o (l.map encG), .lit (.int .i64 en)] H = some (.ret (encRead (readP l en)) H) := up (c_rRead hlen o H)
theorem parseP_bad (s : List UInt8) (hne : (lexAns s).2.1 ≠ 0) : parseP s = ([], (lexAns s).2.1, (((lexAns s).2.2 : Nat) : Int)) := by
  unfold parseP
  generalize lexAns s = r at hne
  obtain ⟨ts, c, a⟩ := r
  cases c with
  | zero => exact absurd rfl hne
  | succ c => rfl
theorem parseP_ok (s : List UInt8) (he : (lexAns s).2.1 = 0) : parseP s = readP ((lexAns s).1.map Tok.g) s.length := by
  unfold parseP
  generalize lexAns s = r at he
  obtain ⟨ts, c, a⟩ := r
  simp only at he
  subst he
  rfl
theorem parseP_fit (s : List UInt8) : fitP (parseP s).1 = true := by
  by_cases h : (lexAns s).2.1 = 0
  · rw [parseP_ok s h]; exact readP_fit (by have := lexAns_len s; simp; omega)
  · rw [parseP_bad s h]; rfl
set_option maxRecDepth 20000 in
theorem c_parse2 (s : List UInt8) (H : Heap) : calls Tryd.prog cfg2 11 [.lit (.string (ba s))] H = some (.ret (encRead (parseP s)) H) := by
  refine calls_pure (fn := Tryd.f11) rfl rfl rfl rfl rfl ?_ H
  have rs : Tryd.f11.results.toList = [.cell 2 25, .cell 3 28] := rfl
  have hlen := lexAns_len s
  have hx := fun H => up (c_lex s H)
  have hr := c_read2 ((lexAns s).1.map Tok.g) s.length (by simp; unfold LM; omega)
  by_cases h : (lexAns s).2.1 = 0
  · rw [parseP_ok s h]
    generalize lexAns s = r at *
    obtain ⟨ts, c, a⟩ := r
    simp only at h
    subst h
    generalize readP (ts.map Tok.g) s.length = q at *
    simp only [← enc_g] at hr
    simp only [encLex, encFault, encRead] at hx hr ⊢
    simp only [go_sem, Nat.reduceBEq, Nat.reduceLeDiff, Nat.reduceEqDiff, Nat.reduceSub, Nat.reduceAdd, Int.reduceEq, Int.reduceLT, Int.reduceLE, Int.reduceAdd, rs, hx, hr, ba_size]
  · rw [parseP_bad s h]
    generalize lexAns s = r at *
    obtain ⟨ts, c, a⟩ := r
    have hc : decide ((c : Int) = 0) = false := by simp at h ⊢; omega
    simp only [encLex, encFault] at hx
    simp only [go_sem, Nat.reduceBEq, Nat.reduceLeDiff, Nat.reduceEqDiff, Nat.reduceSub, Nat.reduceAdd, Int.reduceEq, Int.reduceLT, Int.reduceLE, Int.reduceAdd, rs, hx, hc]
    refine W_draw [(1, 2)] (by kernel_rfl) ?_
    simp only [go_sem, Nat.reduceBEq, Nat.reduceLeDiff, Nat.reduceEqDiff, Nat.reduceSub, Nat.reduceAdd, Int.reduceEq, Int.reduceLT, Int.reduceLE, Int.reduceAdd, rs, encRead, List.map_nil] <;> rfl
/-- Only what arguments say counts. -/
theorem calls_of_san {P : Program} {c : Cfg} {f : FuncId} {args args' : List AV} {H : Heap} {r : CR} (hi : c.imp f = false) (ha : sanL args = sanL args') (h : calls P c f args H = some r) : calls P c f args' H = some r := by
  obtain ⟨k, hk⟩ := calls_iff.1 h
  refine calls_iff.2 ⟨k, ?_⟩
  cases k with
  | zero => simp [call] at hk
  | succ k =>
    simp only [call, hi, ← ha] at hk ⊢
    exact hk
def fixW : List GFunc := [⟨[102], [[97]], [.mk 2 [120] [97] [112] [] [] [] [], .mk 11 [] [] [] [⟨4, 0, [120]⟩] [] [] []]⟩]
theorem fixP1 : parseP [102, 117, 110, 32, 102, 40, 97, 41, 32, 123, 32, 120, 32, 61, 32, 97, 46, 112, 59, 32, 114, 101, 116, 117, 114, 110, 32, 120, 59, 32, 125] = (fixW, 0, 0) := by kernel_rfl
theorem fixP2 : parseP [102, 117, 110, 32, 102, 40, 32, 123] = ([], 20, 7) := by kernel_rfl
theorem fixP3 : parseP [102, 117, 110, 32, 102, 40, 41, 32, 123, 32, 120, 32, 61, 32, 49, 59, 32] = ([], 20, 17) := by kernel_rfl
/-- The cells of the law's own statements. -/
def wOpd : List AV := [.lit (.int .i64 4), .lit (.int .i64 0), .lit (.string (ba [120]))]
def wStm1 : List AV := [.lit (.int .i64 2), .lit (.string (ba [120])), .lit (.string (ba [97])), .lit (.string (ba [112])), .sl .nil [], .sl .nil [], .sl .nil [], .sl .nil []]
def wStm2 : List AV := [.lit (.int .i64 11), .lit (.string (ba [])), .lit (.string (ba [])), .lit (.string (ba [])), .sl .ex [wOpd], .sl .nil [], .sl .nil [], .sl .nil []]
def wFun : List AV := [.lit (.string (ba [102])), .sl .ex [encStr [97]], .sl .ex [wStm1, wStm2]]
theorem wb1 : aBuildSlice Tryd.prog 63 1 [(0, .agg wOpd)] = some (.sl .ex [wOpd]) := by kernel_rfl
theorem wb2 : aBuildSlice Tryd.prog 42 2 [(0, .agg wStm1), (1, .agg wStm2)] = some (.sl .ex [wStm1, wStm2]) := by kernel_rfl
theorem wb3 : aBuildSlice Tryd.prog 23 1 [(0, .agg wFun)] = some (.sl .ex [wFun]) := by kernel_rfl
theorem wS : sanL [.agg [.sl .sh (fixW.map encFunc)], .agg [.sl .sh (fixW.map encFunc)]] = sanL [.agg [.sl .sh (fixW.map encFunc)], .agg [.sl .ex [wFun]]] := by kernel_rfl
set_option maxRecDepth 20000 in
theorem c_fixed2 (H : Heap) : calls Tryd.prog cfg2 9 [] H = some (.ret (.lit (.bool true)) H) := by
  refine calls_pure (fn := Tryd.f9) rfl rfl rfl rfl rfl ?_ H
  have rs : Tryd.f9.results.toList = [.tmp 0] := rfl
  have h1 := fun H => c_parse2 [102, 117, 110, 32, 102, 40, 97, 41, 32, 123, 32, 120, 32, 61, 32, 97, 46, 112, 59, 32, 114, 101, 116, 117, 114, 110, 32, 120, 59, 32, 125] H
  have h2 := fun H => c_parse2 [102, 117, 110, 32, 102, 40, 32, 123] H
  have h3 := fun H => c_parse2 [102, 117, 110, 32, 102, 40, 41, 32, 123, 32, 120, 32, 61, 32, 49, 59, 32] H
  have hs1 := fun H => calls_of_san (c := cfg2) (f := 10) rfl wS (up (c_rSame fixW fixW rfl .sh .sh H))
  have hs2 := fun H => calls_of_san (c := cfg2) (f := 20) rfl wS (up (c_pSame fixW fixW rfl .sh .sh H))
  have hs3 := fun H => up (c_pSame fixW [] rfl .sh .nil H)
  have hk1 := fun H => up (c_keyword [112, 114, 111, 116, 111] H)
  have hk2 := fun H => up (c_keyword [120] H)
  rw [eqFs_refl] at hs1 hs2
  rw [show eqFs fixW [] = false from rfl] at hs3
  rw [show keyword [112, 114, 111, 116, 111] = true from rfl] at hk1
  rw [show keyword [120] = false from rfl] at hk2
  rw [fixP1] at h1
  rw [fixP2] at h2
  rw [fixP3] at h3
  have b1 := wb1
  have b2 := wb2
  have b3 := wb3
  simp only [encRead, List.map_nil] at h1 h2 h3
  generalize fixW.map encFunc = fw at *
  simp only [wFun, wStm1, wStm2, wOpd, List.map_nil] at b1 b2 b3 hs1 hs2 hs3
  simp only [go_sem, Nat.reduceBEq, Nat.reduceLeDiff, Nat.reduceEqDiff, Nat.reduceSub, Nat.reduceAdd, Int.reduceEq, Int.reduceLT, Int.reduceLE, Int.reduceAdd, rs, h1, h2, h3, b1, b2, b3, hs1, hs2, hs3, hk1, hk2]
end Go.Proofs.YtghhkbigmmjanaaDoor.VA

/-! Pj3 -/
namespace Go.Proofs.YtghhkbigmmjanaaDoor.VA
open Go Go.RowKit
attribute [local go_sem] Nat.add_eq_left Nat.left_eq_add true_and and_true ite_true if_false Int.cast_ofNat_Int eq_self Nat.add_assoc Option.some.injEq decide_true decide_false Bool.not_true Bool.not_false List.size_toArray List.length_cons List.length_nil
set_option linter.unusedSimpArgs false
set_option maxRecDepth 100000

theorem parseP_facts (s : List UInt8) : ((parseP s).2.1 = 0 → (parseP s).2.2 = 0) ∧ ((parseP s).2.1 ≠ 0 → (parseP s).1 = [] ∧ 0 ≤ (parseP s).2.2 ∧ (parseP s).2.2 ≤ s.length) := by
  rcases lexAns_split s with ⟨h1, h2, h3⟩ | ⟨h1, h2, h3⟩
  · rw [parseP_ok s h1]
    refine ⟨readP_zero, fun h => ⟨readP_nil h, ?_⟩⟩
    obtain ⟨hp, _⟩ := lexF_places _ _ _ _ h3
    rcases readP_place h with ⟨x, hx, he⟩ | he
    · obtain ⟨y, hy, rfl⟩ := List.mem_map.1 hx
      have := hp y hy
      rw [he]; simp only [Tok.g]; omega
    · rw [he]; omega
  · rw [parseP_bad s h1]
    exact ⟨fun h => absurd h h1, fun _ => ⟨rfl, by simp, by simp; omega⟩⟩
theorem slice_toks {l : List Tok} {m : Nat} (h : m ≤ l.length) : aSlice Tryd.prog 22 (.sl .sh (l.map encTok)) none (some (.lit (.int .i64 (m : Nat)))) = some (.sl .sh ((l.take m).map encTok)) := by
  simp only [aSlice, el_tok, optNat, aNat_cast, List.length_map]
  rw [if_pos (by omega)]
  by_cases h0 : 0 = m
  · rw [if_pos h0]; subst h0; simp
  · rw [if_neg h0]
    cases l with
    | nil => simp at h; omega
    | cons x l =>
      simp only [List.map_cons, List.getElem?_cons_zero]
      rw [if_pos (by rfl), List.drop_zero, Nat.sub_zero, ← List.map_cons, ← List.map_take]
set_option maxRecDepth 20000 in
theorem parse_places (s : List UInt8) (at_ : Int) (H : Heap) : calls Tryd.prog cfg2 4 [.lit (.string (ba s)), .lit (.int .i64 at_)] H = some (.ret (.lit (.bool true)) H) := by
  refine calls_pure (fn := Tryd.f4) rfl rfl rfl rfl rfl ?_ H
  have rs : Tryd.f4.results.toList = [.tmp 4] := rfl
  obtain ⟨hz, hn⟩ := parseP_facts s
  have hP := c_parse2 s
  have hL := fun H => up (c_rLex s H)
  by_cases hs : 2000 < s.length
  · have d0 : decide ((2000 : Int) < (s.length : Nat)) = true := by simp; omega
    simp only [encRead] at hP
    simp only [go_sem, Nat.reduceBEq, Nat.reduceLeDiff, Nat.reduceEqDiff, Nat.reduceSub, Nat.reduceAdd, Int.reduceEq, Int.reduceLT, Int.reduceLE, Int.reduceAdd, rs, hP, c_fixed2, ba_size, d0]
  have d0 : decide ((2000 : Int) < (s.length : Nat)) = false := by simp; omega
  have hlen := lexAns_len s
  by_cases h0 : (parseP s).2.1 = 0
  · have d1 : decide ((((parseP s).2.1 : Nat) : Int) = 0) = true := by simp [h0]
    have d2 : decide ((parseP s).2.2 = 0) = true := by simp [hz h0]
    generalize parseP s = r at *
    simp only [encRead] at hP
    simp only [go_sem, Nat.reduceBEq, Nat.reduceLeDiff, Nat.reduceEqDiff, Nat.reduceSub, Nat.reduceAdd, Int.reduceEq, Int.reduceLT, Int.reduceLE, Int.reduceAdd, rs, hP, c_fixed2, ba_size, d0, d1, d2]
  obtain ⟨n1, n2, n3⟩ := hn h0
  have d1 : decide ((((parseP s).2.1 : Nat) : Int) = 0) = false := by simp; omega
  have d2 : decide ((parseP s).2.2 < 0) = false := by simp; omega
  have d3 : decide (((s.length : Nat) : Int) < (parseP s).2.2) = false := by simp; omega
  rcases lexAns_split s with ⟨k1, k2, k3⟩ | ⟨k1, k2, k3⟩
  · have hpr : at_.toNat < (lexAns s).1.length → ¬ (((lexAns s).1.getD at_.toNat ⟨0, [], 0⟩).at_ : Int) > (parseP s).2.2 → (readP (((lexAns s).1.map Tok.g).take at_.toNat) s.length).2.1 = 0 ∨ (readP (((lexAns s).1.map Tok.g).take at_.toNat) s.length).2 = (20, (s.length : Int)) := by
      intro q1 q2
      rw [parseP_ok s k1] at h0 q2
      obtain ⟨hp, hw⟩ := lexF_places _ _ _ _ k3
      refine readP_prefix ?_ (by simpa using q1) h0 ?_
      · rw [List.pairwise_map]
        exact hw.imp (fun h => by simp only [Tok.g]; omega)
      · have e1 : (((lexAns s).1.map Tok.g).getD at_.toNat default).at_ = (((lexAns s).1.getD at_.toNat ⟨0, [], 0⟩).at_ : Int) := by
          rw [List.getD_eq_getElem?_getD, List.getD_eq_getElem?_getD, List.getElem?_map, List.getElem?_eq_getElem q1]; rfl
        rw [e1]; omega
    have hR := c_read2 (((lexAns s).1.take at_.toNat).map Tok.g) s.length (by simp; unfold LM; omega)
    rw [← List.map_take] at hpr
    generalize readP (((lexAns s).1.take at_.toNat).map Tok.g) s.length = q at *
    rw [← enc_g] at hR
    have hix : at_.toNat < (lexAns s).1.length → iad (some (38, 3, 32)) (.sl .sh ((lexAns s).1.map encTok)) (some at_.toNat) = some (.ep (encTok ((lexAns s).1.getD at_.toNat ⟨0, [], 0⟩))) := by
      intro q1
      refine iad_some ?_ rfl
      rw [List.getElem?_map, List.getElem?_eq_getElem q1, List.getD_eq_getElem?_getD, List.getElem?_eq_getElem q1]; rfl
    generalize lexAns s = r at *
    obtain ⟨ts, c, a⟩ := r
    simp only at k1 k2 k3 hpr hix hR hlen
    subst k1; subst k2
    generalize hpe : parseP s = u at *
    obtain ⟨fs, uc, ua⟩ := u
    simp only at n1 n2 n3 d1 d2 d3 hpr
    subst n1
    simp only [encRead, List.map_nil] at hP
    simp only [encLex, encFault] at hL
    simp only [encRead] at hR
    by_cases a0 : at_ < 0
    · have d4 : decide (at_ < 0) = true := by simp [a0]
      simp only [go_sem, Nat.reduceBEq, Nat.reduceLeDiff, Nat.reduceEqDiff, Nat.reduceSub, Nat.reduceAdd, Int.reduceEq, Int.reduceLT, Int.reduceLE, Int.reduceAdd, rs, hP, hL, c_fixed2, ba_size, d0, d1, d2, d3]
      refine W_draw [(23, 25)] (by kernel_rfl) ?_
      simp only [go_sem, Nat.reduceBEq, Nat.reduceLeDiff, Nat.reduceEqDiff, Nat.reduceSub, Nat.reduceAdd, Int.reduceEq, Int.reduceLT, Int.reduceLE, Int.reduceAdd, rs, hP, hL, c_fixed2, ba_size, d0, d1, d2, d3, d4]
    obtain ⟨m, rfl⟩ : ∃ m : Nat, at_ = (m : Nat) := ⟨at_.toNat, by omega⟩
    simp only [Int.toNat_natCast] at hpr hix hR
    have d4 : decide (((m : Nat) : Int) < 0) = false := by simp
    by_cases a1 : ts.length < m
    · have d5 : decide (((ts.length : Nat) : Int) < (m : Nat)) = true := by simp; omega
      simp only [go_sem, Nat.reduceBEq, Nat.reduceLeDiff, Nat.reduceEqDiff, Nat.reduceSub, Nat.reduceAdd, Int.reduceEq, Int.reduceLT, Int.reduceLE, Int.reduceAdd, rs, hP, hL, c_fixed2, ba_size, d0, d1, d2, d3]
      refine W_draw [(23, 25)] (by kernel_rfl) ?_
      simp only [go_sem, Nat.reduceBEq, Nat.reduceLeDiff, Nat.reduceEqDiff, Nat.reduceSub, Nat.reduceAdd, Int.reduceEq, Int.reduceLT, Int.reduceLE, Int.reduceAdd, rs, hP, hL, c_fixed2, ba_size, d0, d1, d2, d3, d4, d5, List.length_map]
    have d5 : decide (((ts.length : Nat) : Int) < (m : Nat)) = false := by simp; omega
    have hsl := slice_toks (l := ts) (m := m) (by omega)
    by_cases a2 : m < ts.length
    · have d6 : decide (((m : Nat) : Int) < (ts.length : Nat)) = true := by simp; omega
      have hi := hix a2
      simp only [encTok] at hi
      by_cases a3 : ((ts.getD m ⟨0, [], 0⟩).at_ : Int) > ua
      · have d7 : decide (ua < ((ts.getD m ⟨0, [], 0⟩).at_ : Int)) = true := by rw [decide_eq_true_eq]; exact a3
        simp only [go_sem, Nat.reduceBEq, Nat.reduceLeDiff, Nat.reduceEqDiff, Nat.reduceSub, Nat.reduceAdd, Int.reduceEq, Int.reduceLT, Int.reduceLE, Int.reduceAdd, rs, hP, hL, c_fixed2, ba_size, d0, d1, d2, d3]
        refine W_draw [(23, 25)] (by kernel_rfl) ?_
        simp only [go_sem, Nat.reduceBEq, Nat.reduceLeDiff, Nat.reduceEqDiff, Nat.reduceSub, Nat.reduceAdd, Int.reduceEq, Int.reduceLT, Int.reduceLE, Int.reduceAdd, rs, hP, hL, c_fixed2, ba_size, d0, d1, d2, d3, d4, d5, d6, d7, hi, List.length_map]
      · have d7 : decide (ua < ((ts.getD m ⟨0, [], 0⟩).at_ : Int)) = false := by rw [decide_eq_false_iff_not]; exact a3
        have hq := hpr a2 a3
        obtain ⟨qf, qc, qa⟩ := q
        simp only at hq hR
        simp only [go_sem, Nat.reduceBEq, Nat.reduceLeDiff, Nat.reduceEqDiff, Nat.reduceSub, Nat.reduceAdd, Int.reduceEq, Int.reduceLT, Int.reduceLE, Int.reduceAdd, rs, hP, hL, c_fixed2, ba_size, d0, d1, d2, d3]
        refine W_draw [(23, 25)] (by kernel_rfl) ?_
        simp only [go_sem, Nat.reduceBEq, Nat.reduceLeDiff, Nat.reduceEqDiff, Nat.reduceSub, Nat.reduceAdd, Int.reduceEq, Int.reduceLT, Int.reduceLE, Int.reduceAdd, rs, hP, hL, c_fixed2, ba_size, d0, d1, d2, d3, d4, d5, d6, d7, hi, List.length_map, Option.map_none, Option.map_some, hsl, hR]
        rcases hq with hq | hq
        · have d8 : decide (((qc : Nat) : Int) = 0) = true := by simp [hq]
          simp only [go_sem, Nat.reduceBEq, Nat.reduceLeDiff, Nat.reduceEqDiff, Nat.reduceSub, Nat.reduceAdd, Int.reduceEq, Int.reduceLT, Int.reduceLE, Int.reduceAdd, rs, d8]
        · have hq1 : qc = 20 := (Prod.mk.inj hq).1
          have hq2 : qa = (s.length : Int) := (Prod.mk.inj hq).2
          subst hq1; subst hq2
          have d8 : decide (((s.length : Nat) : Int) = (s.length : Nat)) = true := by simp
          simp only [go_sem, Nat.reduceBEq, Nat.reduceLeDiff, Nat.reduceEqDiff, Nat.reduceSub, Nat.reduceAdd, Int.reduceEq, Int.reduceLT, Int.reduceLE, Int.reduceAdd, rs, d8, ba_size] <;> rfl
    · have d6 : decide (((m : Nat) : Int) < (ts.length : Nat)) = false := by simp; omega
      have d9 : decide (((m : Nat) : Int) = (ts.length : Nat)) = true := by simp; omega
      obtain ⟨qf, qc, qa⟩ := q
      simp only at hR
      simp only [go_sem, Nat.reduceBEq, Nat.reduceLeDiff, Nat.reduceEqDiff, Nat.reduceSub, Nat.reduceAdd, Int.reduceEq, Int.reduceLT, Int.reduceLE, Int.reduceAdd, rs, hP, hL, c_fixed2, ba_size, d0, d1, d2, d3]
      refine W_draw [(23, 25)] (by kernel_rfl) ?_
      simp only [go_sem, Nat.reduceBEq, Nat.reduceLeDiff, Nat.reduceEqDiff, Nat.reduceSub, Nat.reduceAdd, Int.reduceEq, Int.reduceLT, Int.reduceLE, Int.reduceAdd, rs, hP, hL, c_fixed2, ba_size, d0, d1, d2, d3, d4, d5, d6, List.length_map, Option.map_none, Option.map_some, hsl, hR]
      cases d8 : decide (((qc : Nat) : Int) = 0) with
      | true => simp only [go_sem, Nat.reduceBEq, Nat.reduceLeDiff, Nat.reduceEqDiff, Nat.reduceSub, Nat.reduceAdd, Int.reduceEq, Int.reduceLT, Int.reduceLE, Int.reduceAdd, rs, d8]
      | false =>
        simp only [go_sem, Nat.reduceBEq, Nat.reduceLeDiff, Nat.reduceEqDiff, Nat.reduceSub, Nat.reduceAdd, Int.reduceEq, Int.reduceLT, Int.reduceLE, Int.reduceAdd, rs, d8, ba_size]
        cases d10 : (decide (((qc : Nat) : Int) = 20) && decide (qa = ((s.length : Nat) : Int))) with
        | true => simp only [go_sem, Nat.reduceBEq, Nat.reduceLeDiff, Nat.reduceEqDiff, Nat.reduceSub, Nat.reduceAdd, Int.reduceEq, Int.reduceLT, Int.reduceLE, Int.reduceAdd, rs, d10]
        | false => simp only [go_sem, Nat.reduceBEq, Nat.reduceLeDiff, Nat.reduceEqDiff, Nat.reduceSub, Nat.reduceAdd, Int.reduceEq, Int.reduceLT, Int.reduceLE, Int.reduceAdd, rs, d10, d9, List.length_map]
  · have d4 : decide ((((lexAns s).2.1 : Nat) : Int) = 0) = false := by simp; omega
    generalize lexAns s = r at *
    generalize parseP s = u at *
    obtain ⟨fs, uc, ua⟩ := u
    simp only at n1 n2 n3 d1 d2 d3
    subst n1
    simp only [encRead, List.map_nil] at hP
    simp only [encLex, encFault] at hL
    simp only [go_sem, Nat.reduceBEq, Nat.reduceLeDiff, Nat.reduceEqDiff, Nat.reduceSub, Nat.reduceAdd, Int.reduceEq, Int.reduceLT, Int.reduceLE, Int.reduceAdd, rs, hP, hL, c_fixed2, ba_size, d0, d1, d2, d3]
    refine W_draw [(23, 25)] (by kernel_rfl) ?_
    simp only [go_sem, Nat.reduceBEq, Nat.reduceLeDiff, Nat.reduceEqDiff, Nat.reduceSub, Nat.reduceAdd, Int.reduceEq, Int.reduceLT, Int.reduceLE, Int.reduceAdd, rs, hP, hL, c_fixed2, ba_size, d0, d1, d2, d3, d4]
end Go.Proofs.YtghhkbigmmjanaaDoor.VA

/-! Pj4 -/
namespace Go.Proofs.YtghhkbigmmjanaaDoor.VA
open Go Go.RowKit
theorem ParsePlaces_walk (a0 : ByteArray) (a1 : Int) (w : World) (_ : a0.size ≤ maxLen) : Calls Tryd.prog 4 #[.string a0, .int .i64 a1] w fun e w' => e = .returned (.bool true) ∧ Below w.heap.size w w' := by
  refine law_calls cfg2_ok (args := [.lit (.string a0), .lit (.int .i64 a1)]) ?_ (RelL.cons (.lit _) (RelL.cons (.lit _) (RelL.nil _ _)))
  rw [ba_eta a0]
  exact parse_places _ _ _
end Go.Proofs.YtghhkbigmmjanaaDoor.VA
