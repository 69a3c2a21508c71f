/- What is proved: strconv.Atoi answers as the abstract interpreter (VA) is told; the tables that it runs by are the program's. No condition.
What is proved: what the parser answers for bytes, and that the law's fixed calls answer true, in the abstract interpreter (VA). No condition.
What is proved: the law ParseParts answers true, in the abstract interpreter (VA). No condition.
What is proved: the law ParseParts returns true at any two strings. No condition. -/
import Derived.Test.YtghhkbigmmjanaaDoorM10
import Derived.Test.YtghhkbigmmjanaaDoorM9
import Derived.Lib.SmallJoins
import Derived.Test.YtghhkbigmmjanaaDoorM5
import Derived.Test.YtghhkbigmmjanaaDoorM4
import Derived.Test.YtghhkbigmmjanaaDoorM6
/-! Ta2 -/
namespace Go.Proofs.YtghhkbigmmjanaaDoor.VA
open Go Go.RowKit
set_option linter.unusedSimpArgs false
set_option maxRecDepth 100000

theorem dec_num : ∀ (l : List UInt8) (acc : Nat), l.all (fun b => isDigit b.toNat) = true → Lib.decFrom acc l = some (l.foldl (fun n b => 10 * n + (b.toNat - 48)) acc)
  | [], acc, _ => rfl
  | b :: l, acc, h => by
    rw [List.all_cons, Bool.and_eq_true] at h
    obtain ⟨h1, h2⟩ := h
    simp only [isDigit, Bool.and_eq_true, decide_eq_true_eq] at h1
    simp only [Lib.decFrom, Lib.digitVal, if_pos h1, List.foldl_cons]
    rw [dec_num l _ h2, Nat.mul_comm acc 10]
theorem told_atoi : ToldOk Tryd.prog 70 tAtoi := by
  refine ⟨fun vs w => callFunc_enter Tryd.func70 (by kernel_rfl) rfl vs w, ?_⟩
  intro args v h g H w vs hi hr
  unfold tAtoi at h
  split at h
  · rename_i s
    split at h
    · rename_i hc
      obtain ⟨hd, h1, h18⟩ := hc
      simp only [Option.some.injEq] at h
      subst h
      obtain ⟨v0, hvs⟩ : ∃ v0, vs = #[v0] := by
        have hl : vs.size = 1 := by have := hr.1; simpa using this.symm
        refine ⟨vs[0]'(by omega), ?_⟩
        apply Array.ext
        · simp [hl]
        · intro i h1 h2
          have h0 : i = 0 := by omega
          subst h0
          rfl
      subst hvs
      have h0 := hr.head.lit_inv
      subst h0
      cases hL : s.data.toList with
      | nil => rw [hL] at h1; simp at h1
      | cons b0 r =>
        have hb : isDigit b0.toNat = true := by rw [hL, List.all_cons, Bool.and_eq_true] at hd; exact hd.1
        have hdec := dec_num s.data.toList 0 hd
        have hsz : s.size = s.data.toList.length := Lib.size_eq s
        refine (outer_atoi s (numOf s.data.toList) b0 r hL (by rintro rfl; simp [isDigit] at hb) (by rintro rfl; simp [isDigit] at hb) (by omega) hdec w).mono ?_
        rintro en w' ⟨rfl, t, rfl⟩
        obtain ⟨hx, hv⟩ := below_step hi (Go.Joins.below_bytesWorld _ w _ t (Nat.le_refl _))
        refine ⟨_, g, rfl, hx, hv, rfl, rfl, ?_⟩
        rw [← hL]
        exact Rel.mk_tup (RelL.cons (.lit _) (RelL.cons (.lit _) (RelL.nil _ _)))
    · cases h
  · cases h
theorem cfg_ok : CfgOk Tryd.prog cfg := by
  refine ⟨by kernel_rfl, ?_, ?_⟩
  · intro f fn h
    have h' : (if (runs.contains f || writes.contains f) = true then Tryd.prog.funcs[f]? else none) = some fn := h
    split at h'
    · rename_i hm
      have hok := List.all_eq_true.1 runs_ok f (by simpa using hm)
      unfold fnOk at hok
      rw [h'] at hok
      simp only [Bool.and_eq_true, Bool.not_eq_true'] at hok
      refine ⟨h', hok.1, fun code hb => ?_⟩
      have := hok.2
      rw [hb] at this
      exact this
    · cases h'
  · intro f h hh
    have h' : (if f = 60 then some tIndexByte else if f = 70 then some tAtoi else none) = some h := hh
    split at h'
    · rename_i hf
      simp only [Option.some.injEq] at h'
      subst hf; subst h'
      exact told_index
    · split at h'
      · rename_i hf
        simp only [Option.some.injEq] at h'
        subst hf; subst h'
        exact told_atoi
      · cases h'
theorem cfg2_ok : CfgOk Tryd.prog cfg2 := by
  refine ⟨cfg_ok.mixed, cfg_ok.fn, ?_⟩
  intro f h hh
  have h' : (if f = 7 then some tRead else cfg.told f) = some h := hh
  split at h'
  · rename_i hf
    simp only [Option.some.injEq] at h'
    subst hf; subst h'
    exact read_told cfg_ok
  · exact cfg_ok.told f h h'
theorem cfg_le : CfgLe cfg cfg2 := by
  have hne : ∀ f fn, cfg.fn f = some fn → f ≠ 7 := by
    rintro f fn h rfl
    have h' : (if (runs.contains 7 || writes.contains 7) = true then Tryd.prog.funcs[(7 : Nat)]? else none) = some fn := h
    rw [if_neg (by decide)] at h'
    cases h'
  refine ⟨?_, ?_, rfl⟩
  · intro f h hh
    have hf : f ≠ 7 := by
      rintro rfl
      have h' : (if 7 = 60 then some tIndexByte else if 7 = 70 then some tAtoi else none) = some h := hh
      rw [if_neg (by decide), if_neg (by decide)] at h'
      cases h'
    show (if f = 7 then some tRead else cfg.told f) = some h
    rw [if_neg hf]; exact hh
  · intro f fn h1 h2
    have hf := hne f fn h2
    refine ⟨?_, h2⟩
    show (if f = 7 then some tRead else cfg.told f) = none
    rw [if_neg hf]; exact h1
end Go.Proofs.YtghhkbigmmjanaaDoor.VA

/-! Ph3 -/
namespace Go.Proofs.YtghhkbigmmjanaaDoor.VA
open Go Go.RowKit
attribute [local go_sem] Nat.add_eq_left Nat.left_eq_add true_and and_true ite_true if_false Int.cast_ofNat_Int eq_self Nat.add_assoc Option.some.injEq decide_true decide_false Bool.not_true Bool.not_false List.size_toArray List.length_cons List.length_nil
set_option linter.unusedSimpArgs false
set_option maxRecDepth 100000

theorem up {f : FuncId} {args : List AV} {H : Heap} {r : CR} (h : calls Tryd.prog cfg f args H = some r) : calls Tryd.prog cfg2 f args H = some r := calls_cfg cfg_le h
theorem c_read2 (l : List GTok) (en : Int) (hlen : l.length ≤ LM) (o : Own) (H : Heap) : calls Tryd.prog cfg2 7 [.sl o (l.map encG), .lit (.int .i64 en)] H = some (.ret (encRead (readP l en)) H) := by
  refine calls_told (h := tRead) rfl ?_ H
  simp only [go_sem, tRead, toks_enc, if_pos hlen]
theorem c_rRead2 (l : List GTok) (en : Int) (hlen : l.length ≤ LM) (o : Own) (H : Heap) : calls Tryd.prog cfg2 8 [.sl o (l.map encG), .lit (.int .i64 en)] H = some (.ret (encRead (readP l en)) H) := up (c_rRead hlen o H)
theorem parseP_bad (s : List UInt8) (hne : (lexAns s).2.1 ≠ 0) : parseP s = ([], (lexAns s).2.1, (((lexAns s).2.2 : Nat) : Int)) := by
  unfold parseP
  generalize lexAns s = r at hne
  obtain ⟨ts, c, a⟩ := r
  cases c with
  | zero => exact absurd rfl hne
  | succ c => rfl
theorem parseP_ok (s : List UInt8) (he : (lexAns s).2.1 = 0) : parseP s = readP ((lexAns s).1.map Tok.g) s.length := by
  unfold parseP
  generalize lexAns s = r at he
  obtain ⟨ts, c, a⟩ := r
  simp only at he
  subst he
  rfl
theorem parseP_fit (s : List UInt8) : fitP (parseP s).1 = true := by
  by_cases h : (lexAns s).2.1 = 0
  · rw [parseP_ok s h]; exact readP_fit (by have := lexAns_len s; simp; omega)
  · rw [parseP_bad s h]; rfl
set_option maxRecDepth 20000 in
theorem c_parse2 (s : List UInt8) (H : Heap) : calls Tryd.prog cfg2 11 [.lit (.string (ba s))] H = some (.ret (encRead (parseP s)) H) := by
  refine calls_pure (fn := Tryd.f11) rfl rfl rfl rfl rfl ?_ H
  have rs : Tryd.f11.results.toList = [.cell 2 25, .cell 3 28] := rfl
  have hlen := lexAns_len s
  have hx := fun H => up (c_lex s H)
  have hr := c_read2 ((lexAns s).1.map Tok.g) s.length (by simp; unfold LM; omega)
  by_cases h : (lexAns s).2.1 = 0
  · rw [parseP_ok s h]
    generalize lexAns s = r at *
    obtain ⟨ts, c, a⟩ := r
    simp only at h
    subst h
    generalize readP (ts.map Tok.g) s.length = q at *
    simp only [← enc_g] at hr
    simp only [encLex, encFault, encRead] at hx hr ⊢
    simp only [go_sem, Nat.reduceBEq, Nat.reduceLeDiff, Nat.reduceEqDiff, Nat.reduceSub, Nat.reduceAdd, Int.reduceEq, Int.reduceLT, Int.reduceLE, Int.reduceAdd, rs, hx, hr, ba_size]
  · rw [parseP_bad s h]
    generalize lexAns s = r at *
    obtain ⟨ts, c, a⟩ := r
    have hc : decide ((c : Int) = 0) = false := by simp at h ⊢; omega
    simp only [encLex, encFault] at hx
    simp only [go_sem, Nat.reduceBEq, Nat.reduceLeDiff, Nat.reduceEqDiff, Nat.reduceSub, Nat.reduceAdd, Int.reduceEq, Int.reduceLT, Int.reduceLE, Int.reduceAdd, rs, hx, hc]
    refine W_draw [(1, 2)] (by kernel_rfl) ?_
    simp only [go_sem, Nat.reduceBEq, Nat.reduceLeDiff, Nat.reduceEqDiff, Nat.reduceSub, Nat.reduceAdd, Int.reduceEq, Int.reduceLT, Int.reduceLE, Int.reduceAdd, rs, encRead, List.map_nil] <;> rfl
/-- Only what arguments say counts. -/
theorem calls_of_san {P : Program} {c : Cfg} {f : FuncId} {args args' : List AV} {H : Heap} {r : CR} (hi : c.imp f = false) (ha : sanL args = sanL args') (h : calls P c f args H = some r) : calls P c f args' H = some r := by
  obtain ⟨k, hk⟩ := calls_iff.1 h
  refine calls_iff.2 ⟨k, ?_⟩
  cases k with
  | zero => simp [call] at hk
  | succ k =>
    simp only [call, hi, ← ha] at hk ⊢
    exact hk
def fixW : List GFunc := [⟨[102], [[97]], [.mk 2 [120] [97] [112] [] [] [] [], .mk 11 [] [] [] [⟨4, 0, [120]⟩] [] [] []]⟩]
theorem fixP1 : parseP [102, 117, 110, 32, 102, 40, 97, 41, 32, 123, 32, 120, 32, 61, 32, 97, 46, 112, 59, 32, 114, 101, 116, 117, 114, 110, 32, 120, 59, 32, 125] = (fixW, 0, 0) := by kernel_rfl
theorem fixP2 : parseP [102, 117, 110, 32, 102, 40, 32, 123] = ([], 20, 7) := by kernel_rfl
theorem fixP3 : parseP [102, 117, 110, 32, 102, 40, 41, 32, 123, 32, 120, 32, 61, 32, 49, 59, 32] = ([], 20, 17) := by kernel_rfl
/-- The cells of the law's own statements. -/
def wOpd : List AV := [.lit (.int .i64 4), .lit (.int .i64 0), .lit (.string (ba [120]))]
def wStm1 : List AV := [.lit (.int .i64 2), .lit (.string (ba [120])), .lit (.string (ba [97])), .lit (.string (ba [112])), .sl .nil [], .sl .nil [], .sl .nil [], .sl .nil []]
def wStm2 : List AV := [.lit (.int .i64 11), .lit (.string (ba [])), .lit (.string (ba [])), .lit (.string (ba [])), .sl .ex [wOpd], .sl .nil [], .sl .nil [], .sl .nil []]
def wFun : List AV := [.lit (.string (ba [102])), .sl .ex [encStr [97]], .sl .ex [wStm1, wStm2]]
theorem wb1 : aBuildSlice Tryd.prog 63 1 [(0, .agg wOpd)] = some (.sl .ex [wOpd]) := by kernel_rfl
theorem wb2 : aBuildSlice Tryd.prog 42 2 [(0, .agg wStm1), (1, .agg wStm2)] = some (.sl .ex [wStm1, wStm2]) := by kernel_rfl
theorem wb3 : aBuildSlice Tryd.prog 23 1 [(0, .agg wFun)] = some (.sl .ex [wFun]) := by kernel_rfl
theorem wS : sanL [.agg [.sl .sh (fixW.map encFunc)], .agg [.sl .sh (fixW.map encFunc)]] = sanL [.agg [.sl .sh (fixW.map encFunc)], .agg [.sl .ex [wFun]]] := by kernel_rfl
set_option maxRecDepth 20000 in
theorem c_fixed2 (H : Heap) : calls Tryd.prog cfg2 9 [] H = some (.ret (.lit (.bool true)) H) := by
  refine calls_pure (fn := Tryd.f9) rfl rfl rfl rfl rfl ?_ H
  have rs : Tryd.f9.results.toList = [.tmp 0] := rfl
  have h1 := fun H => c_parse2 [102, 117, 110, 32, 102, 40, 97, 41, 32, 123, 32, 120, 32, 61, 32, 97, 46, 112, 59, 32, 114, 101, 116, 117, 114, 110, 32, 120, 59, 32, 125] H
  have h2 := fun H => c_parse2 [102, 117, 110, 32, 102, 40, 32, 123] H
  have h3 := fun H => c_parse2 [102, 117, 110, 32, 102, 40, 41, 32, 123, 32, 120, 32, 61, 32, 49, 59, 32] H
  have hs1 := fun H => calls_of_san (c := cfg2) (f := 10) rfl wS (up (c_rSame fixW fixW rfl .sh .sh H))
  have hs2 := fun H => calls_of_san (c := cfg2) (f := 20) rfl wS (up (c_pSame fixW fixW rfl .sh .sh H))
  have hs3 := fun H => up (c_pSame fixW [] rfl .sh .nil H)
  have hk1 := fun H => up (c_keyword [112, 114, 111, 116, 111] H)
  have hk2 := fun H => up (c_keyword [120] H)
  rw [eqFs_refl] at hs1 hs2
  rw [show eqFs fixW [] = false from rfl] at hs3
  rw [show keyword [112, 114, 111, 116, 111] = true from rfl] at hk1
  rw [show keyword [120] = false from rfl] at hk2
  rw [fixP1] at h1
  rw [fixP2] at h2
  rw [fixP3] at h3
  have b1 := wb1
  have b2 := wb2
  have b3 := wb3
  simp only [encRead, List.map_nil] at h1 h2 h3
  generalize fixW.map encFunc = fw at *
  simp only [wFun, wStm1, wStm2, wOpd, List.map_nil] at b1 b2 b3 hs1 hs2 hs3
  simp only [go_sem, Nat.reduceBEq, Nat.reduceLeDiff, Nat.reduceEqDiff, Nat.reduceSub, Nat.reduceAdd, Int.reduceEq, Int.reduceLT, Int.reduceLE, Int.reduceAdd, rs, h1, h2, h3, b1, b2, b3, hs1, hs2, hs3, hk1, hk2]
end Go.Proofs.YtghhkbigmmjanaaDoor.VA

/-! Pk2 -/
namespace Go.Proofs.YtghhkbigmmjanaaDoor.VA
open Go Go.RowKit
attribute [local go_sem] Nat.add_eq_left Nat.left_eq_add true_and and_true ite_true if_false Int.cast_ofNat_Int eq_self Nat.add_assoc Option.some.injEq decide_true decide_false Bool.not_true Bool.not_false List.size_toArray List.length_cons List.length_nil
set_option linter.unusedSimpArgs false
set_option maxRecDepth 100000

theorem like_up (d : Nat) (l : List Tok) : Like (l.map Tok.g) ((l.map (Tok.up d)).map Tok.g) := by
  refine ⟨by simp, fun i => ?_⟩
  simp only [List.getElem?_map]
  cases l[i]? with
  | none => rfl
  | some x => rfl
/-- Two programs with a byte 10 between. -/
theorem parseP_parts {s t : List UInt8} (hs : s.length ≤ 5000) (ht : t.length ≤ 5000) (h1 : (parseP s).2.1 = 0) (h2 : (parseP t).2.1 = 0) :
    (parseP (s ++ [10] ++ t)).2.1 = 22 ∨ parseP (s ++ [10] ++ t) = ((parseP s).1 ++ (parseP t).1, 0, 0) := by
  have hp := parts_lex s t
  have l1 := lexAns_len s
  have l2 := lexAns_len t
  have e1 : (lexAns s).2.1 = 0 := by
    by_cases h : (lexAns s).2.1 = 0
    · exact h
    · rw [parseP_bad s h] at h1; exact h1
  have e2 : (lexAns t).2.1 = 0 := by
    by_cases h : (lexAns t).2.1 = 0
    · exact h
    · rw [parseP_bad t h] at h2; exact h2
  have a1 : lexAns s = ((lexAns s).1, 0, 0) ∧ lexL s 0 = .ok (lexAns s).1 := by
    revert e1; unfold lexAns
    rw [if_neg (by omega)]
    cases lexL s 0 with
    | ok ts => intro _; exact ⟨rfl, rfl⟩
    | err a => intro h; simp at h
  have a2 : lexAns t = ((lexAns t).1, 0, 0) ∧ lexL t 0 = .ok (lexAns t).1 := by
    revert e2; unfold lexAns
    rw [if_neg (by omega)]
    cases lexL t 0 with
    | ok ts => intro _; exact ⟨rfl, rfl⟩
    | err a => intro h; simp at h
  rw [a1.2, a2.2] at hp
  simp only [LexR.up, LexR.andThen, LexR.pre] at hp
  have a3 : lexAns (s ++ [10] ++ t) = ((lexAns s).1 ++ (lexAns t).1.map (Tok.up (s.length + 1)), 0, 0) := by
    unfold lexAns at hp ⊢
    rw [if_neg (by simp; omega), hp]
  rw [parseP_ok s e1] at h1 ⊢
  rw [parseP_ok t e2] at h2 ⊢
  rw [parseP_ok _ (by rw [a3])]
  rw [a3]
  simp only [List.map_append]
  exact readP_parts (like_up (s.length + 1) _) h1 h2 (by simp; unfold FN; omega)
theorem append_funs {o o' : Own} (a b : List GFunc) (hb : b ≠ []) (hl : a.length + b.length ≤ 1000000) (H : Heap) (id : Nat) (ho : AppOk H o a.length 44 3) :
    aAppend Tryd.prog 23 (.sl o (a.map encFunc)) (.sl o' (b.map encFunc)) H id = some (.sl (.own id 44 3) ((a ++ b).map encFunc), ownUs o id, ownRs o) := by
  obtain ⟨x, b, rfl⟩ : ∃ x b', b = x :: b' := by cases b with | nil => exact absurd rfl hb | cons x b => exact ⟨x, b, rfl⟩
  have := append_any (P := Tryd.prog) (t := 23) (o := o) (o' := o') (es := a.map encFunc) (xs := b.map encFunc) (x := encFunc x) el_sFun zo_sFun (by omega) (by simp at hl ⊢; omega) (by simp at hl ⊢; omega) rfl H id (by simpa using ho)
  rw [List.map_cons, this, sanLL_cons, sanLL_encFunc, sanL_encFunc]
  simp
theorem append_nofuns {o o' : Own} (es : List (List AV)) (H : Heap) (id : Nat) : aAppend Tryd.prog 23 (.sl o es) (.sl o' []) H id = some (.sl o es, [], []) := by
  simp only [aAppend, el_sFun]
theorem bs0_fun : aBuildSlice Tryd.prog 23 0 [] = some (.sl .ex []) := build0 el_sFun zr_fun rfl rfl
theorem readP_len {l : List GTok} {en : Int} (hl : l.length ≤ 549755813888) : (readP l en).1.length ≤ l.length := by
  unfold readP
  cases h : (progF l en FN ⟨0, 0, none⟩ []).1.f with
  | some q => exact Nat.zero_le _
  | none => exact (progF_fit hl FN ⟨0, 0, none⟩ [] (by simp [PS.ok, h]) rfl (by simp) (by simp)).2
theorem parseP_len (s : List UInt8) : (parseP s).1.length ≤ 65536 := by
  have := lexAns_len s
  by_cases h : (lexAns s).2.1 = 0
  · rw [parseP_ok s h]
    refine Nat.le_trans (readP_len (by simp; omega)) (by simpa using this)
  · rw [parseP_bad s h]; simp
set_option maxRecDepth 20000 in
theorem parse_parts (s t : List UInt8) (H : Heap) : calls Tryd.prog cfg2 5 [.lit (.string (ba s)), .lit (.string (ba t))] H = some (.ret (.lit (.bool true)) H) := by
  refine calls_pure (fn := Tryd.f5) rfl rfl rfl rfl rfl ?_ H
  have rs : Tryd.f5.results.toList = [.tmp 4] := rfl
  have hP := c_parse2 s
  have hQ := c_parse2 t
  have hR := c_parse2 (s ++ [10] ++ t)
  have hS := fun o o' H => up (c_rSame (parseP (s ++ [10] ++ t)).1 (parseP (s ++ [10] ++ t)).1 (parseP_fit _) o o' H)
  rw [eqFs_refl] at hS
  have hparts := fun hs ht => parseP_parts (s := s) (t := t) hs ht
  have n1 := parseP_len s
  have n2 := parseP_len t
  generalize parseP s = A at *
  generalize parseP t = B at *
  generalize parseP (s ++ [10] ++ t) = C at *
  obtain ⟨fa, ca, pa⟩ := A
  obtain ⟨fb, cb, pb⟩ := B
  obtain ⟨fc, cc, pc⟩ := C
  simp only at hparts n1 n2
  simp only [encRead] at hP hQ hR hS
  cases k1 : decide (((ca : Nat) : Int) = 0) with
  | false => simp only [go_sem, Nat.reduceBEq, Nat.reduceLeDiff, Nat.reduceEqDiff, Nat.reduceSub, Nat.reduceAdd, Int.reduceEq, Int.reduceLT, Int.reduceLE, Int.reduceAdd, rs, hP, hQ, c_fixed2, ba_size, k1]
  | true =>
  cases k2 : decide (((cb : Nat) : Int) = 0) with
  | false => simp only [go_sem, Nat.reduceBEq, Nat.reduceLeDiff, Nat.reduceEqDiff, Nat.reduceSub, Nat.reduceAdd, Int.reduceEq, Int.reduceLT, Int.reduceLE, Int.reduceAdd, rs, hP, hQ, c_fixed2, ba_size, k1, k2]
  | true =>
  by_cases h1 : 5000 < s.length
  · have d1 : decide ((5000 : Int) < (s.length : Nat)) = true := by simp; omega
    simp only [go_sem, Nat.reduceBEq, Nat.reduceLeDiff, Nat.reduceEqDiff, Nat.reduceSub, Nat.reduceAdd, Int.reduceEq, Int.reduceLT, Int.reduceLE, Int.reduceAdd, rs, hP, hQ, c_fixed2, ba_size, k1, k2, d1]
  have d1 : decide ((5000 : Int) < (s.length : Nat)) = false := by simp; omega
  by_cases h2 : 5000 < t.length
  · have d2 : decide ((5000 : Int) < (t.length : Nat)) = true := by simp; omega
    simp only [go_sem, Nat.reduceBEq, Nat.reduceLeDiff, Nat.reduceEqDiff, Nat.reduceSub, Nat.reduceAdd, Int.reduceEq, Int.reduceLT, Int.reduceLE, Int.reduceAdd, rs, hP, hQ, c_fixed2, ba_size, k1, k2, d1, d2]
  have d2 : decide ((5000 : Int) < (t.length : Nat)) = false := by simp; omega
  have ha1 := add_ba s [10] (by simp; omega)
  have ha2 := add_ba (s ++ [10]) t (by simp; omega)
  have hca : ca = 0 := by simpa using k1
  have hcb : cb = 0 := by simpa using k2
  have hfin := hparts (by omega) (by omega) hca hcb
  clear hparts
  have hvv : ∀ (v v' : AV) (us us' : List U) (rs rs' : List Nat), NoConf (.val v us rs) (.val v' us' rs') = ((∀ u ∈ us, (∀ u' ∈ us', u.key ≠ u'.key) ∧ u.key ∉ rs') ∧ ∀ u' ∈ us', u'.key ∉ rs) := fun _ _ _ _ _ _ => rfl
  have p1 : fa ≠ [] → ∀ H id, aAppend Tryd.prog 23 (.sl .ex []) (.sl .sh (fa.map encFunc)) H id = some (.sl (.own id 44 3) (fa.map encFunc), [.live id true], []) := fun hn H id => append_funs [] fa hn (by simp; omega) H id rfl
  have p2 : fb ≠ [] → ∀ H id, aAppend Tryd.prog 23 (.sl .ex []) (.sl .sh (fb.map encFunc)) H id = some (.sl (.own id 44 3) (fb.map encFunc), [.live id true], []) := fun hn H id => append_funs [] fb hn (by simp; omega) H id rfl
  have p3 : fb ≠ [] → ∀ k H id, AppOk H (.own k 44 3) fa.length 44 3 → aAppend Tryd.prog 23 (.sl (.own k 44 3) (fa.map encFunc)) (.sl .sh (fb.map encFunc)) H id =
      some (.sl (.own id 44 3) ((fa ++ fb).map encFunc), [.live k false, .live id true], [k]) := fun hn k H id ho => append_funs fa fb hn (by omega) H id ho
  have fin : decide (((cc : Nat) : Int) = 22) = true ∨ (decide (((cc : Nat) : Int) = 22) = false ∧ decide (((cc : Nat) : Int) = 0) = true ∧
      ∀ (o : Own) (H : Heap), calls Tryd.prog cfg2 10 [.agg [.sl .sh (fc.map encFunc)], .agg [.sl o ((fa ++ fb).map encFunc)]] H = some (.ret (.lit (.bool true)) H)) := by
    rcases hfin with h | h
    · left; simp [h]
    · right
      have q1 := congrArg Prod.fst h
      have q2 := congrArg (fun x => x.2.1) h
      simp only at q1 q2
      subst q1; subst q2
      exact ⟨by simp, by simp, fun o H => hS .sh o H⟩
  have hao : ∀ (H : Heap) (j n : Nat), AppOk (H.setLive j true) (.own j 44 3) n 44 3 = True := fun H j n => AppOk_ownUs H .ex j _ _ _
  clear hS hfin
  by_cases m1 : fa = []
  · subst m1
    by_cases m2 : fb = []
    · subst m2
      simp only [List.map_nil] at hP hQ
      simp only [go_sem, Nat.reduceBEq, Nat.reduceLeDiff, Nat.reduceEqDiff, Nat.reduceSub, Nat.reduceAdd, Int.reduceEq, Int.reduceLT, Int.reduceLE, Int.reduceAdd, rs, hP, hQ, hR, c_fixed2, ba_size, k1, k2, d1, d2, ha1, ha2]
      refine W_draw [(2, 5), (3, 5), (2, 8), (3, 8), (5, 8), (6, 8)] (by kernel_rfl) ?_
      simp only [go_sem, Nat.reduceBEq, Nat.reduceLeDiff, Nat.reduceEqDiff, Nat.reduceSub, Nat.reduceAdd, Int.reduceEq, Int.reduceLT, Int.reduceLE, Int.reduceAdd, rs, bs0_fun, append_nofuns, hvv, List.mem_cons, List.not_mem_nil, or_false, forall_eq_or_imp, forall_eq, U.key, not_false_eq_true, ne_eq, implies_true, and_self, false_implies, not_true_eq_false, false_or]
      rcases fin with f1 | ⟨f1, f2, f3⟩
      · simp only [go_sem, Nat.reduceBEq, Nat.reduceLeDiff, Nat.reduceEqDiff, Nat.reduceSub, Nat.reduceAdd, Int.reduceEq, Int.reduceLT, Int.reduceLE, Int.reduceAdd, rs, f1]
      · simp only [List.append_nil, List.map_nil] at f3
        simp only [go_sem, Nat.reduceBEq, Nat.reduceLeDiff, Nat.reduceEqDiff, Nat.reduceSub, Nat.reduceAdd, Int.reduceEq, Int.reduceLT, Int.reduceLE, Int.reduceAdd, rs, f1, f2, f3]
    · simp only [List.map_nil] at hP
      have p2' := p2 m2
      simp only [go_sem, Nat.reduceBEq, Nat.reduceLeDiff, Nat.reduceEqDiff, Nat.reduceSub, Nat.reduceAdd, Int.reduceEq, Int.reduceLT, Int.reduceLE, Int.reduceAdd, rs, hP, hQ, hR, c_fixed2, ba_size, k1, k2, d1, d2, ha1, ha2]
      refine W_draw [(2, 5), (3, 5), (2, 8), (3, 8), (5, 8), (6, 8)] (by kernel_rfl) ?_
      simp only [go_sem, Nat.reduceBEq, Nat.reduceLeDiff, Nat.reduceEqDiff, Nat.reduceSub, Nat.reduceAdd, Int.reduceEq, Int.reduceLT, Int.reduceLE, Int.reduceAdd, rs, bs0_fun, append_nofuns, p2', hvv, List.mem_cons, List.not_mem_nil, or_false, forall_eq_or_imp, forall_eq, U.key, not_false_eq_true, ne_eq, implies_true, and_self, false_implies, not_true_eq_false, false_or]
      rcases fin with f1 | ⟨f1, f2, f3⟩
      · simp only [go_sem, Nat.reduceBEq, Nat.reduceLeDiff, Nat.reduceEqDiff, Nat.reduceSub, Nat.reduceAdd, Int.reduceEq, Int.reduceLT, Int.reduceLE, Int.reduceAdd, rs, f1]
      · simp only [List.nil_append] at f3
        simp only [go_sem, Nat.reduceBEq, Nat.reduceLeDiff, Nat.reduceEqDiff, Nat.reduceSub, Nat.reduceAdd, Int.reduceEq, Int.reduceLT, Int.reduceLE, Int.reduceAdd, rs, f1, f2, f3]
  · by_cases m2 : fb = []
    · subst m2
      simp only [List.map_nil] at hQ
      have p1' := p1 m1
      simp only [go_sem, Nat.reduceBEq, Nat.reduceLeDiff, Nat.reduceEqDiff, Nat.reduceSub, Nat.reduceAdd, Int.reduceEq, Int.reduceLT, Int.reduceLE, Int.reduceAdd, rs, hP, hQ, hR, c_fixed2, ba_size, k1, k2, d1, d2, ha1, ha2]
      refine W_draw [(2, 5), (3, 5), (2, 8), (3, 8), (5, 8), (6, 8)] (by kernel_rfl) ?_
      simp only [go_sem, Nat.reduceBEq, Nat.reduceLeDiff, Nat.reduceEqDiff, Nat.reduceSub, Nat.reduceAdd, Int.reduceEq, Int.reduceLT, Int.reduceLE, Int.reduceAdd, rs, bs0_fun, append_nofuns, p1', hvv, List.mem_cons, List.not_mem_nil, or_false, forall_eq_or_imp, forall_eq, U.key, not_false_eq_true, ne_eq, implies_true, and_self, false_implies, not_true_eq_false, false_or]
      rcases fin with f1 | ⟨f1, f2, f3⟩
      · simp only [go_sem, Nat.reduceBEq, Nat.reduceLeDiff, Nat.reduceEqDiff, Nat.reduceSub, Nat.reduceAdd, Int.reduceEq, Int.reduceLT, Int.reduceLE, Int.reduceAdd, rs, f1]
      · simp only [List.append_nil] at f3
        simp only [go_sem, Nat.reduceBEq, Nat.reduceLeDiff, Nat.reduceEqDiff, Nat.reduceSub, Nat.reduceAdd, Int.reduceEq, Int.reduceLT, Int.reduceLE, Int.reduceAdd, rs, f1, f2, f3]
    · have p1' := p1 m1
      have p3' := p3 m2
      simp only [go_sem, Nat.reduceBEq, Nat.reduceLeDiff, Nat.reduceEqDiff, Nat.reduceSub, Nat.reduceAdd, Int.reduceEq, Int.reduceLT, Int.reduceLE, Int.reduceAdd, rs, hP, hQ, hR, c_fixed2, ba_size, k1, k2, d1, d2, ha1, ha2]
      refine W_draw [(2, 5), (3, 5), (2, 8), (3, 8), (5, 8), (6, 8)] (by kernel_rfl) ?_
      simp only [go_sem, Nat.reduceBEq, Nat.reduceLeDiff, Nat.reduceEqDiff, Nat.reduceSub, Nat.reduceAdd, Int.reduceEq, Int.reduceLT, Int.reduceLE, Int.reduceAdd, rs, bs0_fun, append_nofuns, p1', p3', hao, hvv, List.mem_cons, List.not_mem_nil, or_false, forall_eq_or_imp, forall_eq, U.key, not_false_eq_true, ne_eq, implies_true, and_self, false_implies, not_true_eq_false, false_or]
      rcases fin with f1 | ⟨f1, f2, f3⟩
      · simp only [go_sem, Nat.reduceBEq, Nat.reduceLeDiff, Nat.reduceEqDiff, Nat.reduceSub, Nat.reduceAdd, Int.reduceEq, Int.reduceLT, Int.reduceLE, Int.reduceAdd, rs, f1]
      · skip
        simp only [go_sem, Nat.reduceBEq, Nat.reduceLeDiff, Nat.reduceEqDiff, Nat.reduceSub, Nat.reduceAdd, Int.reduceEq, Int.reduceLT, Int.reduceLE, Int.reduceAdd, rs, f1, f2, f3]
end Go.Proofs.YtghhkbigmmjanaaDoor.VA

/-! Pk3 -/
namespace Go.Proofs.YtghhkbigmmjanaaDoor.VA
open Go Go.RowKit
theorem ParseParts_walk (a0 a1 : ByteArray) (w : World) (_ : a0.size ≤ maxLen) (_ : a1.size ≤ maxLen) : Calls Tryd.prog 5 #[.string a0, .string a1] w fun e w' => e = .returned (.bool true) ∧ Below w.heap.size w w' := by
  refine law_calls cfg2_ok (args := [.lit (.string a0), .lit (.string a1)]) ?_ (RelL.cons (.lit _) (RelL.cons (.lit _) (RelL.nil _ _)))
  rw [ba_eta a0, ba_eta a1]
  exact parse_parts _ _ _
end Go.Proofs.YtghhkbigmmjanaaDoor.VA
