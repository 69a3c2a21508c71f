/- What is proved: strconv.Atoi answers as the abstract interpreter (VA) is told; the tables that it runs by are the program's. No condition.
What is proved: what the parser answers for bytes, and that the law's fixed calls answer true, in the abstract interpreter (VA). No condition.
What is proved: rules for what writes to a printer, in the abstract interpreter (VA). No condition.
What is proved: what the printer's operands and lists come to, in the abstract interpreter (VA). Condition: numbers are a machine's.
What is proved: what the printer's lists, arguments and objects come to, in the abstract interpreter (VA). Condition: numbers are a machine's.
What is proved: what the printer's blocks and statements come to, in the abstract interpreter (VA). Condition: numbers and lengths are a machine's.
What is proved: what the printer's functions come to, and the text of a program, in the abstract interpreter (VA). Condition: numbers and lengths are a machine's.
What is proved: what the document's parser answers for bytes; the laws ParseTexts and ParseSame answer true, in the abstract interpreter (VA). No condition.
What is proved: what the printer answers for programs and statements, in the abstract interpreter (VA). Condition: numbers and lengths are a machine's.
What is proved: what the document's answers on operands, statements and counts come to, in the abstract interpreter (VA). Condition: numbers and lengths are a machine's.
What is proved: the print of what the document's parser answers is at most four times as long as what was parsed, in plain Lean, with no program in sight. No condition.
What is proved: a right program's print, line by line; words laid one behind the other; in plain Lean, with no program in sight. No condition.
What is defined and proved: joining strings in the abstract interpreter (VA); what a program comes to in print. No condition.
What is proved: what the document's counts of statements and of blocks come to, in the abstract interpreter (VA). Condition: lengths are a machine's.
What is proved: the law's fixed calls return true; which programs may be printed, in the abstract interpreter (VA). Condition: numbers and lengths are a machine's. -/
import Derived.Test.YtghhkbigmmjanaaGreatDoorM9
import Derived.Test.YtghhkbigmmjanaaGreatDoorM8
import Derived.Lib.SmallJoins
import Derived.Test.YtghhkbigmmjanaaGreatDoorM4
import Derived.Test.YtghhkbigmmjanaaGreatDoorM6
import Derived.Test.YtghhkbigmmjanaaGreatDoorM5
/-! Ta2 -/
namespace Go.Proofs.YtghhkbigmmjanaaGreatDoor.VA
open Go Go.RowKit
set_option linter.unusedSimpArgs false
set_option maxRecDepth 100000

theorem dec_num : ∀ (l : List UInt8) (acc : Nat), l.all (fun b => isDigit b.toNat) = true → Lib.decFrom acc l = some (l.foldl (fun n b => 10 * n + (b.toNat - 48)) acc)
 | [], acc, _ => rfl
 | b :: l, acc, h => by
  rw [List.all_cons, Bool.and_eq_true] at h
  obtain ⟨h1, h2⟩ := h
  simp only [isDigit, Bool.and_eq_true, decide_eq_true_eq] at h1
  simp only [Lib.decFrom, Lib.digitVal, if_pos h1, List.foldl_cons]
  rw [dec_num l _ h2, Nat.mul_comm acc 10]
theorem told_atoi {C : Cond} : ToldOk Tryz.prog C 122 tAtoi := by
 refine ⟨fun vs w => callFunc_enter Tryz.func122 (by kernel_rfl) rfl vs w, ?_⟩
 intro args v h g H w vs hC hi hr
 unfold tAtoi at h
 split at h
 ·rename_i s
  split at h
  ·rename_i hc
   obtain ⟨hd, h1, h18⟩ := hc
   simp only [Option.some.injEq] at h
   subst h
   obtain ⟨v0, hvs⟩ : ∃ v0, vs = #[v0] := by
    have hl : vs.size = 1 := by have := hr.1; simpa using this.symm
    refine ⟨vs[0]'(by omega), ?_⟩
    apply Array.ext
    ·simp [hl]
    ·intro i h1 h2
     have h0 : i = 0 := by omega
     subst h0
     rfl
   subst hvs
   have h0 := hr.head.lit_inv
   subst h0
   cases hL : s.data.toList with
   | nil => rw [hL] at h1; simp at h1
   | cons b0 r =>
    have hb : isDigit b0.toNat = true := by rw [hL, List.all_cons, Bool.and_eq_true] at hd; exact hd.1
    have hdec := dec_num s.data.toList 0 hd
    have hsz : s.size = s.data.toList.length := Lib.size_eq s
    refine (outer_atoi s (numOf s.data.toList) b0 r hL (by rintro rfl; simp [isDigit] at hb) (by rintro rfl; simp [isDigit] at hb) (by omega) hdec w).mono ?_
    rintro en w' ⟨rfl, t, rfl⟩
    obtain ⟨hx, hv⟩ := below_step hi (Go.Joins.below_bytesWorld _ w _ t (Nat.le_refl _))
    refine ⟨_, g, rfl, hx, hv, rfl, rfl, ?_⟩
    rw [← hL]
    exact Rel.mk_tup (RelL.cons (.lit _) (RelL.cons (.lit _) (RelL.nil _ _)))
  ·cases h
 ·cases h
theorem cfg_ok : CfgOk Tryz.prog CC cfg := by
 refine ⟨by kernel_rfl, ?_, ?_⟩
 ·intro f fn h
  have h' : (if (runs.contains f || writes.contains f) = true then Tryz.prog.funcs[f]? else none) = some fn := h
  split at h'
  ·rename_i hm
   have hok := List.all_eq_true.1 runs_ok f (by simpa using hm)
   unfold fnOk at hok
   rw [h'] at hok
   simp only [Bool.and_eq_true, Bool.not_eq_true'] at hok
   refine ⟨h', hok.1, fun code hb => ?_⟩
   have := hok.2
   rw [hb] at this
   exact this
  ·cases h'
 ·intro f h hh
  simp only [cfg] at hh
  repeat' split at hh
  all_goals first
   | (cases hh; done)
   | (obtain rfl := Option.some.inj hh; subst_vars; exact told_index)
   | (obtain rfl := Option.some.inj hh; subst_vars; exact told_atoi)
   | (obtain rfl := Option.some.inj hh; subst_vars; exact told_itoa)
   | (obtain rfl := Option.some.inj hh; subst_vars; exact told_join)
theorem cfg2_ok : CfgOk Tryz.prog CC cfg2 := by
 refine ⟨cfg_ok.mixed, cfg_ok.fn, ?_⟩
 intro f h hh
 have h' : (if f = 27 then some tRead else cfg.told f) = some h := hh
 split at h'
 ·rename_i hf
  simp only [Option.some.injEq] at h'
  subst hf; subst h'
  exact read_told cfg_ok
 ·exact cfg_ok.told f h h'
theorem cfg_le : CfgLe cfg cfg2 := by
 have hne : ∀ f fn, cfg.fn f = some fn → f ≠ 27 := by
  rintro f fn h rfl
  have h' : (if (runs.contains 27 || writes.contains 27) = true then Tryz.prog.funcs[(27 : Nat)]? else none) = some fn := h
  rw [if_neg (by decide)] at h'
  cases h'
 refine ⟨?_, ?_, rfl, rfl⟩
 ·intro f h hh
  have hf : f ≠ 27 := by
   rintro rfl
   have h' : cfg.told 27 = none := rfl
   rw [h'] at hh; cases hh
  show (if f = 27 then some tRead else cfg.told f) = some h
  rw [if_neg hf]; exact hh
 ·intro f fn h1 h2
  have hf := hne f fn h2
  refine ⟨?_, h2⟩
  show (if f = 27 then some tRead else cfg.told f) = none
  rw [if_neg hf]; exact h1
end Go.Proofs.YtghhkbigmmjanaaGreatDoor.VA

/-! Ph3 -/
namespace Go.Proofs.YtghhkbigmmjanaaGreatDoor.VA
open Go Go.RowKit
attribute [local go_sem] Nat.add_eq_left Nat.left_eq_add true_and and_true ite_true if_false Int.cast_ofNat_Int eq_self Nat.add_assoc Option.some.injEq decide_true decide_false Bool.not_true Bool.not_false List.size_toArray List.length_cons List.length_nil
set_option linter.unusedSimpArgs false
set_option maxRecDepth 100000

theorem up {f : FuncId} {args : List AV} {H : Heap} {r : CR} (h : calls Tryz.prog cfg f args H = some r) : calls Tryz.prog cfg2 f args H = some r := calls_cfg cfg_le h
theorem c_read2 (l : List GTok) (en : Int) (hlen : l.length ≤ LM) (o : Own) (H : Heap) : calls Tryz.prog cfg2 27 [.sl o (l.map encG), .lit (.int .i64 en)] H = some (.ret (encRead (readP l en)) H) := by
 refine calls_told (h := tRead) rfl ?_ H
 simp only [go_sem, tRead, toks_enc, if_pos hlen]
theorem c_rRead2 (l : List GTok) (en : Int) (hlen : l.length ≤ LM) (o : Own) (H : Heap) : calls Tryz.prog cfg2 29 [.sl o (l.map encG), .lit (.int .i64 en)] H = some (.ret (encRead (readP l en)) H) := up (c_rRead hlen o H)
theorem parseP_bad (s : List UInt8) (hne : (lexAns s).2.1 ≠ 0) : parseP s = ([], (lexAns s).2.1, (((lexAns s).2.2 : Nat) : Int)) := by
 unfold parseP
 generalize lexAns s = r at hne
 obtain ⟨ts, c, a⟩ := r
 cases c with
 | zero => exact absurd rfl hne
 | succ c => rfl
theorem parseP_ok (s : List UInt8) (he : (lexAns s).2.1 = 0) : parseP s = readP ((lexAns s).1.map Tok.g) s.length := by
 unfold parseP
 generalize lexAns s = r at he
 obtain ⟨ts, c, a⟩ := r
 simp only at he
 subst he
 rfl
theorem parseP_fit (s : List UInt8) : fitP (parseP s).1 = true := by
 by_cases h : (lexAns s).2.1 = 0
 ·rw [parseP_ok s h]; exact readP_fit (by have := lexAns_len s; simp; omega)
 ·rw [parseP_bad s h]; rfl
set_option maxRecDepth 20000 in
theorem c_parse2 (s : List UInt8) (H : Heap) : calls Tryz.prog cfg2 11 [.lit (.string (ba s))] H = some (.ret (encRead (parseP s)) H) := by
 refine calls_pure (fn := Tryz.f11) rfl rfl rfl rfl rfl ?_ H
 have rs : Tryz.f11.results.toList = [.cell 2 24, .cell 3 27] := rfl
 have hlen := lexAns_len s
 have hx := fun H => up (c_lex s H)
 have hr := c_read2 ((lexAns s).1.map Tok.g) s.length (by simp; unfold LM; omega)
 by_cases h : (lexAns s).2.1 = 0
 ·rw [parseP_ok s h]
  generalize lexAns s = r at *
  obtain ⟨ts, c, a⟩ := r
  simp only at h
  subst h
  generalize readP (ts.map Tok.g) s.length = q at *
  simp only [← enc_g] at hr
  simp only [encLex, encFault, encRead] at hx hr ⊢
  simp only [go_sem, simprocAttr, rs, hx, hr, ba_size]
 ·rw [parseP_bad s h]
  generalize lexAns s = r at *
  obtain ⟨ts, c, a⟩ := r
  have hc : decide ((c : Int) = 0) = false := by simp at h ⊢; omega
  simp only [encLex, encFault] at hx
  simp only [go_sem, simprocAttr, rs, hx, hc]
  refine W_draw [(1, 2)] (by kernel_rfl) ?_
  simp only [go_sem, simprocAttr, rs, encRead, List.map_nil] <;> rfl
/-- Only what arguments say counts. -/
theorem calls_of_san {P : Program} {c : Cfg} {f : FuncId} {args args' : List AV} {H : Heap} {r : CR} (hi : c.imp f = false) (ha : sanL args = sanL args') (h : calls P c f args H = some r) : calls P c f args' H = some r := by
 obtain ⟨k, hk⟩ := calls_iff.1 h
 refine calls_iff.2 ⟨k, ?_⟩
 cases k with
 | zero => simp [call] at hk
 | succ k =>
  simp only [call, hi, ← ha] at hk ⊢
  exact hk
def fixW : List GFunc := [⟨[102], [[97]], [.mk 2 [120] [97] [112] [] [] [] [], .mk 11 [] [] [] [⟨4, 0, [120]⟩] [] [] []]⟩]
theorem fixP1 : parseP [102, 117, 110, 32, 102, 40, 97, 41, 32, 123, 32, 120, 32, 61, 32, 97, 46, 112, 59, 32, 114, 101, 116, 117, 114, 110, 32, 120, 59, 32, 125] = (fixW, 0, 0) := by kernel_rfl
theorem fixP2 : parseP [102, 117, 110, 32, 102, 40, 32, 123] = ([], 20, 7) := by kernel_rfl
theorem fixP3 : parseP [102, 117, 110, 32, 102, 40, 41, 32, 123, 32, 120, 32, 61, 32, 49, 59, 32] = ([], 20, 17) := by kernel_rfl
/-- The cells of the law's own statements. -/
def vOpd : List AV := [.lit (.int .i64 4), .lit (.int .i64 0), .lit (.string (ba [120]))]
def vStm1 : List AV := [.lit (.int .i64 2), .lit (.string (ba [120])), .lit (.string (ba [97])), .lit (.string (ba [112])), .sl .nil [], .sl .nil [], .sl .nil [], .sl .nil []]
def vStm2 : List AV := [.lit (.int .i64 11), .lit (.string (ba [])), .lit (.string (ba [])), .lit (.string (ba [])), .sl .ex [vOpd], .sl .nil [], .sl .nil [], .sl .nil []]
def vFun : List AV := [.lit (.string (ba [102])), .sl .ex [encStr [97]], .sl .ex [vStm1, vStm2]]
theorem wb1 : aBuildSlice Tryz.prog 36 1 [(0, .agg vOpd)] = some (.sl .ex [vOpd]) := by kernel_rfl
theorem wb2 : aBuildSlice Tryz.prog 38 2 [(0, .agg vStm1), (1, .agg vStm2)] = some (.sl .ex [vStm1, vStm2]) := by kernel_rfl
theorem wb3 : aBuildSlice Tryz.prog 22 1 [(0, .agg vFun)] = some (.sl .ex [vFun]) := by kernel_rfl
theorem wS : sanL [.agg [.sl .sh (fixW.map encFunc)], .agg [.sl .sh (fixW.map encFunc)]] = sanL [.agg [.sl .sh (fixW.map encFunc)], .agg [.sl .ex [vFun]]] := by kernel_rfl
set_option maxRecDepth 20000 in
theorem c_fixed2 (H : Heap) : calls Tryz.prog cfg2 13 [] H = some (.ret (.lit (.bool true)) H) := by
 refine calls_pure (fn := Tryz.f13) rfl rfl rfl rfl rfl ?_ H
 have rs : Tryz.f13.results.toList = [.tmp 0] := rfl
 have h1 := fun H => c_parse2 [102, 117, 110, 32, 102, 40, 97, 41, 32, 123, 32, 120, 32, 61, 32, 97, 46, 112, 59, 32, 114, 101, 116, 117, 114, 110, 32, 120, 59, 32, 125] H
 have h2 := fun H => c_parse2 [102, 117, 110, 32, 102, 40, 32, 123] H
 have h3 := fun H => c_parse2 [102, 117, 110, 32, 102, 40, 41, 32, 123, 32, 120, 32, 61, 32, 49, 59, 32] H
 have hs1 := fun H => calls_of_san (c := cfg2) (f := 14) rfl wS (up (c_rSame fixW fixW rfl .sh .sh H))
 have hs2 := fun H => calls_of_san (c := cfg2) (f := 17) rfl wS (up (c_pSame fixW fixW rfl .sh .sh H))
 have hs3 := fun H => up (c_pSame fixW [] rfl .sh .nil H)
 have hk1 := fun H => up (c_keyword [112, 114, 111, 116, 111] H)
 have hk2 := fun H => up (c_keyword [120] H)
 rw [eqFs_refl] at hs1 hs2
 rw [show eqFs fixW [] = false from rfl] at hs3
 rw [show keyword [112, 114, 111, 116, 111] = true from rfl] at hk1
 rw [show keyword [120] = false from rfl] at hk2
 rw [fixP1] at h1
 rw [fixP2] at h2
 rw [fixP3] at h3
 have b1 := wb1
 have b2 := wb2
 have b3 := wb3
 simp only [encRead, List.map_nil] at h1 h2 h3
 generalize fixW.map encFunc = fw at *
 simp only [vFun, vStm1, vStm2, vOpd, List.map_nil] at b1 b2 b3 hs1 hs2 hs3
 simp only [go_sem, simprocAttr, rs, h1, h2, h3, b1, b2, b3, hs1, hs2, hs3, hk1, hk2]
end Go.Proofs.YtghhkbigmmjanaaGreatDoor.VA

/-! Qb1 -/
namespace Go.Proofs.YtghhkbigmmjanaaGreatDoor.VA
open Go Go.RowKit
attribute [local go_sem] Nat.add_eq_left Nat.left_eq_add true_and and_true ite_true if_false Int.cast_ofNat_Int eq_self Nat.add_assoc Option.some.injEq decide_true decide_false Bool.not_true Bool.not_false List.size_toArray List.length_cons List.length_nil
set_option linter.unusedSimpArgs false
set_option maxRecDepth 100000

@[go_sem] theorem fl_pri0 : tField Tryz.prog 62 0 = some (0, 1, false) := by kernel_rfl
@[go_sem] theorem bl_pri : tBuild Tryz.prog 62 = some ([(0, 1)], [.sl .nil []]) := by kernel_rfl
@[go_sem] theorem zr_pri : tZero Tryz.prog 62 = some [.sl .nil []] := by kernel_rfl
@[go_sem] theorem sz_pri : tSize Tryz.prog 62 = some 1 := by kernel_rfl
@[go_sem] theorem ag_pri : tAgg Tryz.prog 62 = some true := by kernel_rfl
def LW : Nat := 1099511627776
/-- A printer in a box: its words; and what was there before stays. -/
structure St (H0 : Heap) (r : Nat) (H : Heap) (o : Own) (acc : List Wd) : Prop where
 get : H.get r = some [.sl o (acc.map encStr)]
 own : OwnB H o 9 1 0
 nx : H0.next ≤ H.next
 keep : ∀ k, k < H0.next → k ≠ r → H.ho k = H0.ho k
 rl : r < H0.next
section
variable {H0 H H' : Heap} {r : Nat} {o o' : Own} {acc acc' : List Wd}
theorem St.start (g : H.get r = some [.sl o (acc.map encStr)]) (h : OwnB H o 9 1 0) (hr : r < H.next) : St H r H o acc := ⟨g, h, Nat.le_refl _, fun _ _ _ => rfl, hr⟩
theorem St.up (h : St H0 r H o acc) (n : Nat) : St H0 r (H.up n) o acc := ⟨h.get, h.own.up n, Nat.le_trans h.nx (Nat.le_add_right _ _), h.keep, h.rl⟩
theorem St.put (h : St H0 r H o acc) {b : Nat} (cs : List AV) (hb : H0.next ≤ b) : St H0 r (H.put b cs) o acc :=
 ⟨by rw [Heap.get_put, if_neg (by have := h.rl; omega)]; exact h.get, h.own.put _ _, h.nx, fun k hk hr => by rw [ho_put_ne _ _ (by omega)]; exact h.keep k hk hr, h.rl⟩
theorem OwnB.putM {H : Heap} {o : Own} {e : TypeId} {sz lo : Nat} (h : OwnB H o e sz lo) (b : Nat) (ks vs : List AV) : OwnB (H.putM b ks vs) o e sz lo := by
 cases o with
 | own s e' z => exact h
 | _ => exact h
theorem St.putM (h : St H0 r H o acc) {b : Nat} (ks vs : List AV) (hb : H0.next ≤ b) : St H0 r (H.putM b ks vs) o acc := by
 refine ⟨?_, h.own.putM _ _ _, h.nx, fun k hk hr => ?_, h.rl⟩
 ·rw [Heap.get_putM, if_neg (by have := h.rl; omega)]; exact h.get
 ·simp only [Heap.putM, Heap.ho_set]; rw [if_neg (by omega)]; exact h.keep k hk hr
theorem St.self (h : St H0 r H o acc) : St H r H o acc := ⟨h.get, h.own, Nat.le_refl _, fun _ _ _ => rfl, Nat.lt_of_lt_of_le h.rl h.nx⟩
theorem St.trans (h : St H0 r H o acc) (k : St H r H' o' acc') : St H0 r H' o' acc' :=
 ⟨k.get, k.own, Nat.le_trans h.nx k.nx, fun x hx hr => (k.keep x (Nat.lt_of_lt_of_le hx h.nx) hr).trans (h.keep x hx hr), h.rl⟩
theorem St.old (k : St H r H' o' acc') {b : Nat} (hb : b < H.next) (hr : b ≠ r) : H'.get b = H.get b := by rw [Heap.get, Heap.get, k.keep b hb hr]
end
/-- A memory with more in it. -/
def Upd (H0 Hb H : Heap) : Prop := ∀ r o acc, St H0 r Hb o acc → St H0 r H o acc
theorem Upd.refl (H0 H : Heap) : Upd H0 H H := fun _ _ _ h => h
theorem Upd.up {H0 Hb H : Heap} (h : Upd H0 Hb H) (n : Nat) : Upd H0 Hb (H.up n) := fun _ _ _ k => (h _ _ _ k).up n
theorem Upd.put {H0 Hb H : Heap} (h : Upd H0 Hb H) {b : Nat} (cs : List AV) (hb : H0.next ≤ b) : Upd H0 Hb (H.put b cs) := fun _ _ _ k => (h _ _ _ k).put cs hb
theorem Upd.putM {H0 Hb H : Heap} (h : Upd H0 Hb H) {b : Nat} (ks vs : List AV) (hb : H0.next ≤ b) : Upd H0 Hb (H.putM b ks vs) := fun _ _ _ k => (h _ _ _ k).putM ks vs hb
theorem St.to {H0 Hb H : Heap} {r : Nat} {o : Own} {acc : List Wd} (h : St H0 r Hb o acc) (u : Upd H0 Hb H) : St H0 r H o acc := u _ _ _ h
/-- A call that lays words. -/
def Adds (P : Program) (c : Cfg) (f : FuncId) (args : List AV) (r : Nat) (ws : List Wd) (H : Heap) : Prop :=
 ∀ o acc, acc.length + ws.length ≤ LW → St H r H o acc → ∃ H' o', calls P c f args H = some (.ret (.tup []) H') ∧ St H r H' o' (acc ++ ws)
def AQ (P : Program) (rs : List ResultVar) (H0 : Heap) (r : Nat) (acc : List Wd) : Post := fun x e H => match x with
 | .nrm | .ret => (aResults P e H rs).map (fun vs => san (oneOr vs)) = some (.tup []) ∧ ∃ o, St H0 r H o acc
 | _ => False
section
variable {P : Program} {c : Cfg} {r : Nat} {rs : List ResultVar} {H0 H : Heap} {e : List AV} {acc ws : List Wd} {o : Own}
@[go_sem] theorem AQ_nrm : AQ P rs H0 r acc .nrm e H = ((aResults P e H rs).map (fun vs => san (oneOr vs)) = some (.tup []) ∧ ∃ o, St H0 r H o acc) := rfl
@[go_sem] theorem AQ_ret : AQ P rs H0 r acc .ret e H = ((aResults P e H rs).map (fun vs => san (oneOr vs)) = some (.tup []) ∧ ∃ o, St H0 r H o acc) := rfl
theorem Adds_of {f : FuncId} {fn : Func} {code : Code} {args : List AV} (ht : c.told f = none) (hf : c.fn f = some fn) (hi : c.imp f = true) (hb : fn.body = some code) (hn : Nat.ble args.length fn.ntmps = true)
  (h : ∀ o acc, acc.length + ws.length ≤ LW → St H r H o acc → W P c code [] args H (AQ P fn.results.toList H r (acc ++ ws))) (htr : c.trim f = none := by rfl) : Adds P c f args r ws H := by
 intro o acc hl hs
 obtain ⟨v, H', h1, h2, h3⟩ := calls_imp ht hf hi hb hn (R := fun v H' => v = .tup [] ∧ ∃ o', St H r H' o' (acc ++ ws)) (by
  obtain ⟨x, e1, H1, hx, hq⟩ := h o acc hl hs
  refine ⟨x, e1, H1, hx, ?_⟩
  rw [Fin_nil] at hq ⊢
  have conv : (aResults P e1 H1 fn.results.toList).map (fun vs => san (oneOr vs)) = some (.tup []) → ∃ vs, aResults P e1 H1 fn.results.toList = some vs ∧ san (oneOr vs) = .tup [] := by
   intro h
   cases hv : aResults P e1 H1 fn.results.toList with
   | none => rw [hv] at h; cases h
   | some vs => rw [hv] at h; exact ⟨vs, rfl, by simpa using h⟩
  cases x with
  | nrm => obtain ⟨vs, k1, k2⟩ := conv hq.1; exact ⟨vs, k1, k2, hq.2⟩
  | ret => obtain ⟨vs, k1, k2⟩ := conv hq.1; exact ⟨vs, k1, k2, hq.2⟩
  | pan u => exact hq.elim
  | exit j => exact hq.elim) htr
 subst h2
 obtain ⟨o', h3⟩ := h3
 exact ⟨H', o', h1, h3⟩
variable {st : List Fr} {Q : Post} {ds : List (Option Tmp)} {base : Nat} {dst : Option Tmp} {os : List Oper} {i : Nat} {f : FuncId} {args : List AV} {un : List (Nat × Nat)} {dd : List (List Nat)} {tr : List Tr}
theorem goC_A {Hb : Heap} (h : Adds P c f args r ws H) (sb : St H0 r Hb o acc) (u : Upd H0 Hb H) (hl : acc.length + ws.length ≤ LW) (k : ∀ H' o', St H0 r H' o' (acc ++ ws) → H.next ≤ H'.next → (∀ b, b < H.next → b ≠ r → H'.get b = H.get b) → WO P c ds base os i st (aput e dst (.tup [])) H' Q) :
  goC P c (calls P c f args H) ds base dst os i st e Q := by
 have s := sb.to u
 obtain ⟨H', o', h1, h2⟩ := h o acc hl s.self
 rw [h1]; exact k H' o' (s.trans h2) h2.nx (fun b h k => h2.old h k)
theorem eK_A {Hb : Heap} (h : Adds P c f args r ws H) (sb : St H0 r Hb o acc) (u : Upd H0 Hb H) (hl : acc.length + ws.length ≤ LW)
  (k : ∀ H' o', St H0 r H' o' (acc ++ ws) → H.next ≤ H'.next → (∀ b, b < H.next → b ≠ r → H'.get b = H.get b) → WE P c un ds dd base st Q os (i + 1) (tr ++ [.call (.tup []) H H']) (aput e dst (.tup [])) H') :
  eK P c (calls P c f args H) true un ds dd base st Q dst os i tr e H := by
 have s := sb.to u
 obtain ⟨H', o', h1, h2⟩ := h o acc hl s.self
 rw [h1]; exact k H' o' (s.trans h2) h2.nx (fun b h k => h2.old h k)
theorem St.tu {H0 Hb H : Heap} {r : Nat} {o : Own} {acc : List Wd} (h : St H0 r Hb o acc) (u : Upd H0 Hb H := by (repeat (first | exact Upd.refl _ _ | refine Upd.up ?_ _ | refine Upd.put ?_ _ (by first | omega | (simp only [go_sem]; omega)) | refine Upd.putM ?_ _ _ (by first | omega | (simp only [go_sem]; omega))))) : St H0 r H o acc := h.to u
theorem goC_S {Hb : Heap} (h : Adds P c f args r ws H) (sb : St H0 r Hb o acc) (k : ∀ H' o', St H0 r H' o' (acc ++ ws) → H.next ≤ H'.next → (∀ b, b < H.next → b ≠ r → H'.get b = H.get b) → WO P c ds base os i st (aput e dst (.tup [])) H' Q)
  (u : Upd H0 Hb H := by (repeat (first | exact Upd.refl _ _ | refine Upd.up ?_ _ | refine Upd.put ?_ _ (by first | omega | (simp only [go_sem]; omega)) | refine Upd.putM ?_ _ _ (by first | omega | (simp only [go_sem]; omega))))) (hl : acc.length + ws.length ≤ LW := by (simp only [List.length_append, List.length_cons, List.length_nil]; omega)) :
  goC P c (calls P c f args H) ds base dst os i st e Q := goC_A h sb u hl k
end
theorem bsS1 (t : Wd) : aBuildSlice Tryz.prog 37 1 [(0, .lit (.string (ba t)))] = some (.sl .ex ([t].map encStr)) := bs1_str t
theorem bsS2 (t u : Wd) : aBuildSlice Tryz.prog 37 2 [(0, .lit (.string (ba t))), (1, .lit (.string (ba u)))] = some (.sl .ex ([t, u].map encStr)) := by kernel_rfl
theorem bsS3 (t u v : Wd) : aBuildSlice Tryz.prog 37 3 [(0, .lit (.string (ba t))), (1, .lit (.string (ba u))), (2, .lit (.string (ba v)))] = some (.sl .ex ([t, u, v].map encStr)) := by kernel_rfl
theorem bsS4 (t u v x : Wd) : aBuildSlice Tryz.prog 37 4 [(0, .lit (.string (ba t))), (1, .lit (.string (ba u))), (2, .lit (.string (ba v))), (3, .lit (.string (ba x)))] = some (.sl .ex ([t, u, v, x].map encStr)) := by kernel_rfl
theorem ownUs_ho (H : Heap) (o : Own) (id r : Nat) : (appU H (ownUs o id)).ho r = H.ho r := by cases o <;> rfl
section
variable {r : Nat} {H : Heap}
set_option maxRecDepth 20000 in
theorem c_add (ws : List Wd) (hw : ws ≠ []) (o2 : Own) : Adds Tryz.prog cfg 70 [.ptr r 0, .sl o2 (ws.map encStr)] r ws H := by
 refine Adds_of (fn := Tryz.f70) rfl rfl rfl rfl rfl ?_
 intro o acc hl hs
 have rs : Tryz.f70.results.toList = [] := rfl
 have hg := hs.get
 have hap : ∀ (H' : Heap) (id : Nat), AppOk H' o acc.length 9 1 → aAppend Tryz.prog 37 (.sl o (acc.map encStr)) (.sl o2 (ws.map encStr)) H' id = some (.sl (.own id 9 1) ((acc ++ ws).map encStr), ownUs o id, ownRs o) := by
  intro H' id ho
  obtain ⟨w, wl, rfl⟩ : ∃ w wl, ws = w :: wl := by cases ws with | nil => exact absurd rfl hw | cons w wl => exact ⟨w, wl, rfl⟩
  have := append_any (o' := o2) (x := encStr w) (xs := wl.map encStr) (es := acc.map encStr) el_str zo_str (by decide) (by simp at hl ⊢; unfold LW at hl; omega) (by simp at hl ⊢; unfold LW at hl; omega) rfl H' id (by simpa using ho)
  rw [List.map_cons, this]
  simp [sanLL, sanL_encStr, sanLL_encStr]
 have hok : AppOk H o acc.length 9 1 := hs.own.appOk _
 simp only [go_sem, simprocAttr, hg, hap, hok, rs]
 exact ⟨_, by rw [Heap.get_put, if_pos rfl], (OwnB.app (H.up 10) o _ _ _ _ (Nat.zero_le _) (by simp only [go_sem, simprocAttr]; omega)).put _ _, by simp only [go_sem, simprocAttr]; omega, fun k hk hr => by rw [ho_put_ne _ _ (Ne.symm hr), ownUs_ho, up_ho], hs.rl⟩
end
end Go.Proofs.YtghhkbigmmjanaaGreatDoor.VA

/-! Qb2 -/
namespace Go.Proofs.YtghhkbigmmjanaaGreatDoor.VA
open Go Go.RowKit
attribute [local go_sem] Nat.add_eq_left Nat.left_eq_add true_and and_true ite_true if_false Int.cast_ofNat_Int eq_self Nat.add_assoc Option.some.injEq decide_true decide_false Bool.not_true Bool.not_false List.size_toArray List.length_cons List.length_nil
set_option linter.unusedSimpArgs false
set_option maxRecDepth 100000

/-! ### numbers are a machine's -/
def okO (o : Opd) : Bool := decide (-9223372036854775808 ≤ o.n) && decide (o.n ≤ 9223372036854775807)
mutual
def okS : GStmt → Bool
 | .mk _ _ _ _ a _ th el => a.all okO && (okSs th && okSs el)
def okSs : List GStmt → Bool
 | [] => true
 | s :: l => okS s && okSs l
end
def okF (f : GFunc) : Bool := okSs f.body
def okP (fs : List GFunc) : Bool := fs.all okF
theorem c_fmtBool0 (b : Bool) (H : Heap) : calls Tryz.prog cfg 119 [.lit (.bool b)] H = some (.ret (.lit (.string (ba (wBool b)))) H) := by
 refine calls_pure (fn := Tryz.f119) rfl rfl rfl rfl rfl ?_ H
 have rs : Tryz.f119.results.toList = [.tmp 2] := rfl
 cases b with
 | true => simp only [go_sem, simprocAttr, rs, wBool, tTrue, if_true] <;> rfl
 | false => simp only [go_sem, simprocAttr, rs, wBool, tFalse] <;> rfl
theorem c_fmtBool (b : Bool) (H : Heap) : calls Tryz.prog cfg 107 [.lit (.bool b)] H = some (.ret (.lit (.string (ba (wBool b)))) H) := by
 refine calls_pure (fn := Tryz.f107) rfl rfl rfl rfl rfl ?_ H
 have rs : Tryz.f107.results.toList = [.tmp 2] := rfl
 have h := fun H => c_fmtBool0 b H
 generalize wBool b = x at *
 simp only [go_sem, simprocAttr, rs, h]
theorem c_itoa (n : Int) (h1 : -9223372036854775808 ≤ n) (h2 : n ≤ 9223372036854775807) (H : Heap) : calls Tryz.prog cfg 108 [.lit (.int .i64 n)] H = some (.ret (.lit (.string (ba (Lib.itoa n)))) H) := by
 refine calls_told (h := tItoa) rfl ?_ H
 simp only [go_sem, tItoa, if_pos (And.intro h1 h2)]
theorem app_nil' (acc : List Wd) : acc ++ [] = acc := List.append_nil acc
section
variable {r : Nat} {H : Heap}
theorem c_add1 (a : Wd) (o2 : Own) : Adds Tryz.prog cfg 70 [.ptr r 0, .sl o2 [encStr a]] r [a] H := c_add [a] (by simp) o2
theorem c_add2 (a b : Wd) (o2 : Own) : Adds Tryz.prog cfg 70 [.ptr r 0, .sl o2 [encStr a, encStr b]] r [a, b] H := c_add [a, b] (by simp) o2
theorem c_add3 (a b c : Wd) (o2 : Own) : Adds Tryz.prog cfg 70 [.ptr r 0, .sl o2 [encStr a, encStr b, encStr c]] r [a, b, c] H := c_add [a, b, c] (by simp) o2
theorem c_add4 (a b c d : Wd) (o2 : Own) : Adds Tryz.prog cfg 70 [.ptr r 0, .sl o2 [encStr a, encStr b, encStr c, encStr d]] r [a, b, c, d] H := c_add [a, b, c, d] (by simp) o2
set_option maxRecDepth 20000 in
theorem c_opd (x : Opd) (hx : okO x = true) : Adds Tryz.prog cfg 93 [.ptr r 0, .agg (encOpd x)] r (wOpd x) H := by
 refine Adds_of (fn := Tryz.f93) rfl rfl rfl rfl rfl ?_
 intro o acc hl hs
 have rs : Tryz.f93.results.toList = [] := rfl
 simp only [okO, Bool.and_eq_true, decide_eq_true_eq] at hx
 obtain ⟨k, n, nm⟩ := x
 simp only at hx
 have hit := fun H => c_itoa n hx.1 hx.2 H
 have hfb := fun H => c_fmtBool (!decide (n = 0)) H
 have hnx := hs.nx
 have b1 := bsS1
 simp only [List.map_cons, List.map_nil] at b1
 simp only [wOpd] at hl ⊢
 by_cases h0 : k = 0
 ·subst h0
  rw [if_pos rfl] at hl ⊢
  simp only [List.length_cons, List.length_nil] at hl ⊢
  simp only [go_sem, simprocAttr, encOpd, rs, b1]
  refine goC_S (c_add1 _ _) hs ?_
  intro H1 o1 s1 n1 k1
  simp only [go_sem, simprocAttr, rs]
  exact ⟨_, s1⟩
 have d0 : decide (k = 0) = false := by simp [h0]
 by_cases h1 : k = 1
 ·subst h1
  rw [if_neg h0, if_pos rfl] at hl ⊢
  simp only [List.length_cons, List.length_nil] at hl ⊢
  generalize wBool (!decide (n = 0)) = x at *
  simp only [go_sem, simprocAttr, encOpd, rs, b1, hfb]
  refine goC_S (c_add1 _ _) hs ?_
  intro H1 o1 s1 n1 k1
  simp only [go_sem, simprocAttr, rs]
  exact ⟨_, s1⟩
 have d1 : decide (k = 1) = false := by simp [h1]
 by_cases h2 : k = 2
 ·subst h2
  rw [if_neg h0, if_neg h1, if_pos rfl] at hl ⊢
  simp only [List.length_cons, List.length_nil] at hl ⊢
  simp only [go_sem, simprocAttr, encOpd, rs, b1, hit]
  refine goC_S (c_add1 _ _) hs ?_
  intro H1 o1 s1 n1 k1
  simp only [go_sem, simprocAttr, rs]
  exact ⟨_, s1⟩
 have d2 : decide (k = 2) = false := by simp [h2]
 by_cases h3 : k = 3
 ·subst h3
  rw [if_neg h0, if_neg h1, if_neg h2, if_pos rfl] at hl ⊢
  simp only [List.length_cons, List.length_nil] at hl ⊢
  simp only [go_sem, simprocAttr, encOpd, rs, b1]
  refine goC_S (c_add1 _ _) hs ?_
  intro H1 o1 s1 n1 k1
  have g1 := k1 H.next (by simp only [go_sem, simprocAttr]; omega) (by have := hs.rl; omega)
  simp only [go_sem, simprocAttr, Nat.add_zero] at g1 n1
  simp only [go_sem, simprocAttr, rs, g1, b1, Nat.add_zero]
  refine goC_S (c_add1 _ _) s1 ?_
  intro H2 o2 s2 n2 k2
  simp only [go_sem, simprocAttr, rs]
  exact ⟨_, by simpa only [List.append_assoc, List.cons_append, List.nil_append] using s2⟩
 have d3 : decide (k = 3) = false := by simp [h3]
 by_cases h4 : k = 4
 ·subst h4
  rw [if_neg h0, if_neg h1, if_neg h2, if_neg h3, if_pos rfl] at hl ⊢
  simp only [List.length_cons, List.length_nil] at hl ⊢
  simp only [go_sem, simprocAttr, encOpd, rs, b1]
  refine goC_S (c_add1 _ _) hs ?_
  intro H1 o1 s1 n1 k1
  simp only [go_sem, simprocAttr, rs]
  exact ⟨_, s1⟩
 have d4 : decide (k = 4) = false := by simp [h4]
 rw [if_neg h0, if_neg h1, if_neg h2, if_neg h3, if_neg h4, app_nil']
 simp only [go_sem, simprocAttr, encOpd, rs, d0, d1, d2, d3, d4]
 exact ⟨_, hs.tu⟩
end
end Go.Proofs.YtghhkbigmmjanaaGreatDoor.VA

/-! Qb3 -/
namespace Go.Proofs.YtghhkbigmmjanaaGreatDoor.VA
open Go Go.RowKit
attribute [local go_sem] Nat.add_eq_left Nat.left_eq_add true_and and_true ite_true if_false Int.cast_ofNat_Int eq_self Nat.add_assoc Option.some.injEq decide_true decide_false Bool.not_true Bool.not_false List.size_toArray List.length_cons List.length_nil
set_option linter.unusedSimpArgs false
set_option maxRecDepth 100000

@[go_sem] theorem sz_ppr : tSize Tryz.prog 60 = some 1 := by kernel_rfl
@[go_sem] theorem ag_ppr : tAgg Tryz.prog 60 = some false := by kernel_rfl
theorem wList_len (one : Nat → List Wd) : ∀ n, n ≤ (wList one n).length + 1
 | 0 => Nat.zero_le _
 | 1 => by omega
 | n + 2 => by
  have := wList_len one (n + 1)
  simp only [wList, List.length_append, if_pos (Nat.succ_pos n), List.length_cons] at this ⊢
  omega
theorem wList_mono (one : Nat → List Wd) (n : Nat) : ∀ k, (wList one n).length ≤ (wList one (n + k)).length
 | 0 => Nat.le_refl _
 | k + 1 => by
  refine Nat.le_trans (wList_mono one n k) ?_
  rw [← Nat.add_assoc]
  simp only [wList, List.length_append]
  omega
theorem slice_takeO {l : List Opd} {m : Nat} (h : m ≤ l.length) (ow : Own) : aSlice Tryz.prog 36 (.sl ow (l.map encOpd)) none (some (.lit (.int .i64 (m : Nat)))) = some (.sl .sh ((l.take m).map encOpd)) := by
 simp only [aSlice, el_sOpd, optNat, aNat_cast, List.length_map]
 rw [if_pos ⟨Nat.zero_le _, h⟩]
 by_cases h0 : 0 = m
 ·subst h0; rw [if_pos rfl]; simp
 ·rw [if_neg h0]
  cases l with
  | nil => simp at h; omega
  | cons x l => simp [List.map_take, encOpd]
theorem slice_dropO {l : List Opd} {m : Nat} (h : m ≤ l.length) (ow : Own) : aSlice Tryz.prog 36 (.sl ow (l.map encOpd)) (some (.lit (.int .i64 (m : Nat)))) none = some (.sl .sh ((l.drop m).map encOpd)) := by
 simp only [aSlice, el_sOpd, optNat, aNat_cast, List.length_map]
 rw [if_pos ⟨h, Nat.le_refl _⟩]
 by_cases h0 : m = l.length
 ·subst h0; rw [if_pos rfl]; simp
 ·rw [if_neg h0]
  have hm : m < l.length := by omega
  rw [List.getElem?_map, List.getElem?_eq_getElem hm]
  simp only [Option.map_some, encOpd, List.length_cons, List.length_nil, if_pos, List.map_drop]
  rw [List.take_of_length_le (by simp)]
section
variable {r : Nat} {H : Heap}
set_option maxRecDepth 20000 in
theorem c_first (l : List Opd) (hx : l.all okO = true) (hlen : l.length ≤ BIG) (ow : Own) : Adds Tryz.prog cfg 71 [.ptr r 0, .sl ow (l.map encOpd)] r (wFirst l) H := by
 refine Adds_of (fn := Tryz.f71) rfl rfl rfl rfl rfl ?_
 intro o acc hl hs
 have rs : Tryz.f71.results.toList = [] := rfl
 have hnx := hs.nx
 unfold BIG at hlen
 rcases (show l = [] ∨ ∃ x t, l = x :: t by cases l with | nil => exact .inl rfl | cons x t => exact .inr ⟨x, t, rfl⟩) with hL | ⟨x, t, hL⟩
 ·have hs0 : aSlice Tryz.prog 36 (.sl ow (l.map encOpd)) none (some (.lit (.int .i64 0))) = some (.sl .sh ((l.take 0).map encOpd)) := slice_takeO (l := l) (m := 0) (Nat.zero_le _) ow
  have hm0 : (if (1 : Int) < (l.length : Nat) then 1 else ((l.length : Nat) : Int)) = ((0 : Nat) : Int) := by rw [hL]; rfl
  have hw : wFirst l = [] := by rw [hL]; rfl
  rw [hw] at hl ⊢
  simp only [app_nil', List.take_zero, List.map_nil] at hl ⊢ hs0
  clear hL hw
  simp only [go_sem, simprocAttr, rs, List.length_map, hm0, Option.map_none, Option.map_some, hs0]
  rw [W_loop]
  simp only [go_sem, simprocAttr, rs]
  exact ⟨_, hs.tu⟩
 ·have hs0 : aSlice Tryz.prog 36 (.sl ow (l.map encOpd)) none (some (.lit (.int .i64 1))) = some (.sl .sh ((l.take 1).map encOpd)) := slice_takeO (l := l) (m := 1) (by rw [hL]; simp) ow
  have hm0 : (if (1 : Int) < (l.length : Nat) then 1 else ((l.length : Nat) : Int)) = ((1 : Nat) : Int) := by rw [hL]; simp only [List.length_cons]; split <;> omega
  rw [show l.take 1 = [x] by rw [hL]; rfl] at hs0
  have hxx : okO x = true := by rw [hL, List.all_cons, Bool.and_eq_true] at hx; exact hx.1
  have hw : wFirst l = wOpd x := by rw [hL]; rfl
  rw [hw] at hl ⊢
  simp only [List.map_cons, List.map_nil] at hs0
  clear hL hw
  simp only [go_sem, simprocAttr, rs, List.length_map, hm0, Option.map_none, Option.map_some, hs0]
  rw [W_loop]
  simp only [go_sem, simprocAttr, rs]
  refine goC_S (c_opd x hxx) hs ?_ (hl := hl)
  intro H1 o1 s1 n1 k1
  have hw1 : IntKind.wrap .i64 (1 : Int) = 1 := by kernel_rfl
  have d1 : decide ((1 : Int) < 1) = false := rfl
  simp only [go_sem, simprocAttr, rs, hw1]
  rw [W_loop]
  simp only [go_sem, simprocAttr, rs, hw1, d1]
  exact ⟨_, s1.tu⟩
set_option maxRecDepth 20000 in
theorem c_plist (n : Nat) (g : FuncId) (caps : List AV) (one : Nat → List Wd)
  (hone : ∀ i, i < n → ∀ H', H.next ≤ H'.next → (∀ b, b < H.next → b ≠ r → H'.get b = H.get b) → Adds Tryz.prog cfg g (.lit (.int .i64 (i : Nat)) :: caps) r (one i) H') :
  Adds Tryz.prog cfg 90 [.ptr r 0, .lit (.int .i64 (n : Nat)), .fn g caps] r (wList one n) H := by
 refine Adds_of (fn := Tryz.f90) rfl rfl rfl rfl rfl ?_
 intro o acc hl hs
 have rs : Tryz.f90.results.toList = [] := rfl
 have hn := wList_len one n
 have b1 := bsS1
 simp only [List.map_cons, List.map_nil] at b1
 have hnl : n ≤ 1099511627777 := by unfold LW at hl; omega
 simp only [go_sem, simprocAttr]
 refine W_loop_ind (fun k e H' => ∃ (i : Nat) (o' : Own), k = n - i ∧ i ≤ n ∧ St H r H' o' (acc ++ wList one i) ∧ gget .bad e 0 = .ptr r 0 ∧ gget .bad e 2 = .fn g caps ∧ gget .bad e 7 = .lit (.int .i64 (n : Nat)) ∧ gget .bad e 8 = .lit (.int .i64 (i : Nat)))
  n ⟨0, o, rfl, Nat.zero_le _, by simp only [wList, app_nil']; exact hs.tu, by simp only [go_sem, simprocAttr], by simp only [go_sem, simprocAttr], by simp only [go_sem, simprocAttr], by simp only [go_sem, simprocAttr] <;> rfl⟩ ?_
 rintro k ihk e H1 ⟨i, o1, rfl, hle, s1, h0, h2, h7, h8⟩
 have nx1 := s1.nx
 have hr1 := s1.rl
 by_cases hlt : i < n
 ·have d1 : decide ((i : Int) < (n : Nat)) = true := by simp; omega
  have hw1 := wrap1 (show i + 1 ≤ 9223372036854775807 by omega)
  have hmo := wList_mono one (i + 1) (n - (i + 1))
  rw [show i + 1 + (n - (i + 1)) = n by omega] at hmo
  simp only [wList, List.length_append] at hmo
  by_cases hi : 0 < i
  ·have d2 : decide (0 < (i : Int)) = true := by simp; omega
   rw [if_pos hi] at hmo
   simp only [List.length_cons, List.length_nil] at hmo
   simp only [go_sem, simprocAttr, h0, h2, h7, h8, d1, d2, b1]
   refine goC_S (c_add1 [44] _) s1 ?_
   intro H2 o2 s2 n2 k2
   simp only [go_sem, simprocAttr, h0, h2, h7, h8, d1, d2, b1]
   refine goC_S (hone i hlt _ (by have := s2.nx; simp only [go_sem, simprocAttr]; omega) (fun b hb hr => by simp only [go_sem, simprocAttr]; exact s2.old hb hr)) s2 ?_
   intro H3 o3 s3 n3 k3
   simp only [go_sem, simprocAttr, h0, h2, h7, h8, d1, d2, hw1]
   refine ihk (n - (i + 1)) (by omega) _ _ ⟨i + 1, o3, rfl, by omega, ?_, by simp only [go_sem, simprocAttr, h0], by simp only [go_sem, simprocAttr, h2], by simp only [go_sem, simprocAttr, h7], by simp only [go_sem, simprocAttr]⟩
   have : wList one (i + 1) = wList one i ++ ([[44]] ++ one i) := by simp only [wList, if_pos hi]
   rw [this]
   simpa only [go_sem, simprocAttr, List.append_assoc] using s3.tu
  ·have d2 : decide (0 < (i : Int)) = false := by simp; omega
   rw [if_neg hi] at hmo
   simp only [List.length_nil] at hmo
   simp only [go_sem, simprocAttr, h0, h2, h7, h8, d1, d2, b1]
   refine goC_S (hone i hlt _ (by simp only [go_sem, simprocAttr]; omega) (fun b hb hr => by simp only [go_sem, simprocAttr]; exact s1.old hb hr)) s1 ?_
   intro H3 o3 s3 n3 k3
   simp only [go_sem, simprocAttr, h0, h2, h7, h8, d1, d2, hw1]
   refine ihk (n - (i + 1)) (by omega) _ _ ⟨i + 1, o3, rfl, by omega, ?_, by simp only [go_sem, simprocAttr, h0], by simp only [go_sem, simprocAttr, h2], by simp only [go_sem, simprocAttr, h7], by simp only [go_sem, simprocAttr]⟩
   have : wList one (i + 1) = wList one i ++ one i := by simp only [wList, if_neg hi, List.nil_append]
   rw [this]
   simpa only [go_sem, simprocAttr, List.append_assoc] using s3.tu
 ·obtain rfl : i = n := by omega
  have d1 : decide ((i : Int) < (i : Nat)) = false := by simp
  simp only [go_sem, simprocAttr, h0, h2, h7, h8, d1, rs]
  exact ⟨_, s1.tu⟩
theorem getD_all {p : Opd → Bool} {l : List Opd} (h : l.all p = true) {i : Nat} (hi : i < l.length) : p (l.getD i ⟨0, 0, []⟩) = true := by
 rw [List.all_eq_true] at h
 apply h
 rw [List.getD_eq_getElem?_getD, List.getElem?_eq_getElem hi]
 exact List.getElem_mem hi
set_option maxRecDepth 20000 in
theorem c_pargs1 (a : List Opd) (hx : a.all okO = true) (o' : Own) {bp bl : Nat} (gp : H.get bp = some [.ptr r 0]) (gl : H.get bl = some [.sl o' (a.map encOpd)]) (i : Nat) (hi : i < a.length) :
  Adds Tryz.prog cfg 95 [.lit (.int .i64 (i : Nat)), .ptr bp 0, .ptr bl 0] r (wArg a i) H := by
 refine Adds_of (fn := Tryz.f95) rfl rfl rfl rfl rfl ?_
 intro o acc hl hs
 have rs : Tryz.f95.results.toList = [] := rfl
 have ha := iad_encOpd (t := 50) (bs := 32) (o := o') hi
 have hxx := getD_all hx hi
 have hnx := hs.nx
 unfold wArg at hl ⊢
 generalize a.getD i ⟨0, 0, []⟩ = x at *
 refine W_drawE [(0, 1), (0, 4)] [[5], [3, 4, 5], [3, 4, 5], [4, 5], [5], []] (by kernel_rfl) ?_
 simp only [go_sem, simprocAttr, gp, gl, ha]
 refine eK_A (c_opd x hxx) hs (by (repeat (first | exact Upd.refl _ _ | refine Upd.up ?_ _ | refine Upd.put ?_ _ (by first | omega | (simp only [go_sem]; omega)) | refine Upd.putM ?_ _ _ (by first | omega | (simp only [go_sem]; omega))))) hl ?_
 intro H1 o1 s1 n1 k1
 simp only [go_sem, simprocAttr, rs]
 exact ⟨_, s1⟩
set_option maxRecDepth 20000 in
theorem c_pargs (a : List Opd) (hx : a.all okO = true) (o' : Own) : Adds Tryz.prog cfg 74 [.ptr r 0, .sl o' (a.map encOpd)] r (wArgs a) H := by
 refine Adds_of (fn := Tryz.f74) rfl rfl rfl rfl rfl ?_
 intro o acc hl hs
 have rs : Tryz.f74.results.toList = [] := rfl
 have b1 := bsS1
 simp only [List.map_cons, List.map_nil] at b1
 simp only [wArgs, List.length_append, List.length_cons, List.length_nil] at hl
 have hr := hs.rl
 have hnx := hs.nx
 simp only [go_sem, simprocAttr, rs, b1, Nat.add_zero]
 refine goC_S (c_add1 [40] _) hs ?_
 intro H1 o1 s1 n1 k1
 have gp := k1 H.next (by simp only [go_sem, simprocAttr]; omega) (by omega)
 have gl := k1 (H.next + 1) (by simp only [go_sem, simprocAttr]; omega) (by omega)
 simp only [go_sem, simprocAttr, Nat.add_zero] at gp gl n1
 simp only [go_sem, simprocAttr, rs, b1, gp, gl, List.length_map]
 refine goC_S (c_plist a.length _ [.ptr H.next 0, .ptr (H.next + 1) 0] (wArg a) (fun i hi H' hn hk => c_pargs1 a hx o' ((hk _ (by simp only [go_sem, simprocAttr]; omega) (by omega)).trans (by simp only [go_sem, simprocAttr, gp])) ((hk _ (by simp only [go_sem, simprocAttr]; omega) (by omega)).trans (by simp only [go_sem, simprocAttr, gl])) i hi)) s1 ?_
 intro H2 o2 s2 n2 k2
 have gp2 := k2 H.next (by simp only [go_sem, simprocAttr]; omega) (by omega)
 simp only [go_sem, simprocAttr, gp] at gp2 n2
 simp only [go_sem, simprocAttr, rs, b1, gp2]
 refine goC_S (c_add1 [41] _) s2 ?_
 intro H3 o3 s3 n3 k3
 simp only [go_sem, simprocAttr, rs]
 exact ⟨_, by have q := s3; simp only [List.append_assoc] at q; exact q⟩
/-- The cells of a statement. -/
abbrev cS8 (op : Int) (x y p : Wd) (a : List Opd) (ps : List Wd) (th el : List GStmt) : List AV :=
 [.lit (.int .i64 op), .lit (.string (ba x)), .lit (.string (ba y)), .lit (.string (ba p)), .sl .sh (a.map encOpd), .sl .sh (ps.map encStr), .sl .sh (th.map encStmt), .sl .sh (el.map encStmt)]
set_option maxRecDepth 20000 in
theorem c_pobj1 (op : Int) (x y p : Wd) (a : List Opd) (ps : List Wd) (th el : List GStmt) (hx : a.all okO = true) {bp bs : Nat} (gp : H.get bp = some [.ptr r 0]) (gs : H.get bs = some (cS8 op x y p a ps th el)) (hpr : bp < H.next) (hsr : bs < H.next) (hbr : bp ≠ r) (hsn : bs ≠ r)
  (i : Nat) (hi : i < min ps.length a.length) : Adds Tryz.prog cfg 94 [.lit (.int .i64 (i : Nat)), .ptr bp 0, .ptr bs 0] r (wProp ps a i) H := by
 refine Adds_of (fn := Tryz.f94) rfl rfl rfl rfl rfl ?_
 intro o acc hl hs
 have rs : Tryz.f94.results.toList = [] := rfl
 have ha := iad_encOpd (t := 50) (bs := 32) (o := .sh) (show i < a.length by omega)
 have hp := iad_encStr (t := 9) (bs := 16) (o := .sh) (show i < ps.length by omega)
 have hxx := getD_all hx (show i < a.length by omega)
 have b2 := bsS2
 simp only [List.map_cons, List.map_nil] at b2
 have hnx := hs.nx
 unfold wProp wArg at hl ⊢
 generalize a.getD i ⟨0, 0, []⟩ = q at *
 generalize ps.getD i [] = nm at *
 simp only [List.length_append, List.length_cons, List.length_nil] at hl
 simp only [encStr] at hp
 simp only [go_sem, simprocAttr]
 refine W_drawE [(0, 2), (0, 5)] [[7], [2, 4, 5, 6, 7], [4, 5, 6, 7], [4, 5, 6, 7], [5, 6, 7], [6, 7], [7], []] (by kernel_rfl) ?_
 simp only [go_sem, simprocAttr, gp, gs, hp, b2]
 refine eK_A (c_add2 nm [58] _) hs (by (repeat (first | exact Upd.refl _ _ | refine Upd.up ?_ _ | refine Upd.put ?_ _ (by first | omega | (simp only [go_sem]; omega)) | refine Upd.putM ?_ _ _ (by first | omega | (simp only [go_sem]; omega))))) (by (simp only [List.length_append, List.length_cons, List.length_nil]; omega)) ?_
 intro H1 o1 s1 n1 k1
 have gp1 := (k1 bp (by simp only [go_sem, simprocAttr]; omega) hbr).trans gp
 have gs1 := (k1 bs (by simp only [go_sem, simprocAttr]; omega) hsn).trans gs
 simp only [go_sem, simprocAttr, rs]
 refine W_drawE [(0, 2), (0, 5)] [[6], [2, 4, 5, 6], [4, 5, 6], [4, 5, 6], [5, 6], [6], []] (by kernel_rfl) ?_
 simp only [go_sem, simprocAttr, gp1, gs1, ha]
 refine eK_A (c_opd q hxx) s1 (by (repeat (first | exact Upd.refl _ _ | refine Upd.up ?_ _ | refine Upd.put ?_ _ (by first | omega | (simp only [go_sem]; omega)) | refine Upd.putM ?_ _ _ (by first | omega | (simp only [go_sem]; omega))))) (by (simp only [List.length_append, List.length_cons, List.length_nil]; omega)) ?_
 intro H2 o2 s2 n2 k2
 simp only [go_sem, simprocAttr, rs]
 exact ⟨_, by have q := s2; simp only [List.append_assoc] at q; exact q⟩
set_option maxRecDepth 20000 in
theorem c_pobj (op : Int) (x y p : Wd) (a : List Opd) (ps : List Wd) (th el : List GStmt) (hx : a.all okO = true) (hlen : a.length ≤ BIG) :
  Adds Tryz.prog cfg 73 [.ptr r 0, .agg (cS8 op x y p a ps th el)] r (wObj ps a) H := by
 refine Adds_of (fn := Tryz.f73) rfl rfl rfl rfl rfl ?_
 intro o acc hl hs
 have rs : Tryz.f73.results.toList = [] := rfl
 have b2 := bsS2
 simp only [List.map_cons, List.map_nil] at b2
 simp only [wObj, List.length_append, List.length_cons, List.length_nil] at hl
 have hr := hs.rl
 have hnx := hs.nx
 have hm0 : (if ((a.length : Nat) : Int) < (ps.length : Nat) then ((a.length : Nat) : Int) else ((ps.length : Nat) : Int)) = ((min ps.length a.length : Nat) : Int) := by split <;> omega
 have hdr := slice_dropO (l := a) (m := min ps.length a.length) (Nat.min_le_right _ _) .sh
 have hxd : (a.drop (min ps.length a.length)).all okO = true := by
  rw [List.all_eq_true] at hx ⊢
  exact fun y hy => hx y (List.mem_of_mem_drop hy)
 simp only [go_sem, simprocAttr, rs, b2, Nat.add_zero]
 refine goC_S (c_add2 tNew [123] _) hs ?_
 intro H1 o1 s1 n1 k1
 have gp := k1 H.next (by simp only [go_sem, simprocAttr]; omega) (by omega)
 have gs := k1 (H.next + 1) (by simp only [go_sem, simprocAttr]; omega) (by omega)
 simp only [go_sem, simprocAttr, Nat.add_zero] at gp gs n1
 simp only [go_sem, simprocAttr, rs, b2, gp, gs, List.length_map, hm0]
 generalize hN : min ps.length a.length = N at *
 refine goC_S (c_plist N _ [.ptr H.next 0, .ptr (H.next + 1) 0] (wProp ps a) (fun i hi H' hn hk => c_pobj1 op x y p a ps th el hx ((hk _ (by simp only [go_sem, simprocAttr]; omega) (by omega)).trans (by simp only [go_sem, simprocAttr, gp])) ((hk _ (by simp only [go_sem, simprocAttr]; omega) (by omega)).trans (by simp only [go_sem, simprocAttr, gs])) (by simp only [go_sem, simprocAttr] at hn; omega) (by simp only [go_sem, simprocAttr] at hn; omega) (by omega) (by omega) i (by omega))) s1 ?_
 intro H2 o2 s2 n2 k2
 have gp2 := k2 H.next (by simp only [go_sem, simprocAttr]; omega) (by omega)
 have gs2 := k2 (H.next + 1) (by simp only [go_sem, simprocAttr]; omega) (by omega)
 simp only [go_sem, simprocAttr, gp, gs] at gp2 gs2 n2
 simp only [go_sem, simprocAttr, rs, b2, gp2, gs2]
 refine goC_S (c_add2 [125] tProto _) s2 ?_
 intro H3 o3 s3 n3 k3
 have gp3 := k3 H.next (by simp only [go_sem, simprocAttr]; omega) (by omega)
 have gs3 := k3 (H.next + 1) (by simp only [go_sem, simprocAttr]; omega) (by omega)
 simp only [go_sem, simprocAttr, gp2, gs2] at gp3 gs3 n3
 simp only [go_sem, simprocAttr, rs]
 refine W_drawE [(0, 2)] [[5], [2, 4, 5], [4, 5], [4, 5], [5], []] (by kernel_rfl) ?_
 simp only [go_sem, simprocAttr, gp3, gs3, Option.map_none, Option.map_some, hdr]
 refine eK_A (c_first _ hxd (by simp; omega) _) s3 (by (repeat (first | exact Upd.refl _ _ | refine Upd.up ?_ _ | refine Upd.put ?_ _ (by first | omega | (simp only [go_sem]; omega)) | refine Upd.putM ?_ _ _ (by first | omega | (simp only [go_sem]; omega))))) (by (simp only [List.length_append, List.length_cons, List.length_nil]; omega)) ?_
 intro H4 o4 s4 n4 k4
 simp only [go_sem, simprocAttr, rs]
 exact ⟨_, by have q := s4; simp only [List.append_assoc] at q; subst hN; exact q⟩
end
end Go.Proofs.YtghhkbigmmjanaaGreatDoor.VA

/-! Qb4 -/
namespace Go.Proofs.YtghhkbigmmjanaaGreatDoor.VA
open Go Go.RowKit
attribute [local go_sem] Nat.add_eq_left Nat.left_eq_add true_and and_true ite_true if_false Int.cast_ofNat_Int eq_self Nat.add_assoc Option.some.injEq decide_true decide_false Bool.not_true Bool.not_false List.size_toArray List.length_cons List.length_nil
set_option linter.unusedSimpArgs false
set_option maxRecDepth 100000

@[go_sem] theorem key_mis : tKey Tryz.prog 95 = some (.int .i64, 9) := by kernel_rfl
@[go_sem] theorem z1_str : tZ1 Tryz.prog 9 = some (.lit (.string ⟨#[]⟩)) := by kernel_rfl
@[go_sem] theorem putM_next (H : Heap) (r : Nat) (ks vs : List AV) : (H.putM r ks vs).next = H.next := rfl
def mpS (d : TypeDesc) (k v : AV) (r : Nat) : Option (List AV × List AV) → Option (List U)
 | some (ks, vs) => mst (kFind d k ks) ks vs k v r
 | none => none
@[go_sem] theorem mpS_some (d : TypeDesc) (k v : AV) (r : Nat) (ks vs : List AV) : mpS d k v r (some (ks, vs)) = mst (kFind d k ks) ks vs k v r := rfl
def mpL (P : Program) (d : TypeDesc) (e : TypeId) (k : AV) (ok : Bool) (r : Nat) : Option (List AV × List AV) → Option (AV × List Nat)
 | some (ks, vs) => lkp (kFind d k ks) vs (tZ1 P e) ok r
 | none => none
@[go_sem] theorem mpL_some (P : Program) (d : TypeDesc) (e : TypeId) (k : AV) (ok : Bool) (r : Nat) (ks vs : List AV) : mpL P d e k ok r (some (ks, vs)) = lkp (kFind d k ks) vs (tZ1 P e) ok r := rfl
theorem mapSet_int {P : Program} {t e : TypeId} (ht : tKey P t = some (.int .i64, e)) (r : Nat) (a : Int) (v : AV) (H : Heap) : aMapSet P t (.mp r) (.lit (.int .i64 a)) v H = mpS (.int .i64) (.lit (.int .i64 a)) v r (H.getM r) := by
 cases h : H.getM r with
 | none => simp only [aMapSet, ht, h, mpS]
 | some q => obtain ⟨ks, vs⟩ := q; exact mapSet_mp ht h (by simp [kEq])
theorem lookup_int {P : Program} {t e : TypeId} (ht : tKey P t = some (.int .i64, e)) (r : Nat) (a : Int) (ok : Bool) (H : Heap) : aLookup P t (.mp r) (.lit (.int .i64 a)) ok H = mpL P (.int .i64) e (.lit (.int .i64 a)) ok r (H.getM r) := by
 cases h : H.getM r with
 | none => simp only [aLookup, ht, h, mpL]
 | some q => obtain ⟨ks, vs⟩ := q; exact lookup_mp ok ht h (by simp [kEq])
attribute [go_sem] Heap.getM_put Heap.getM_putM Heap.get_putM
theorem take_succ' {X : Type} {l : List X} {i : Nat} (d : X) (h : i < l.length) : l.take (i + 1) = l.take i ++ [l.getD i d] := by
 rw [List.take_add_one, List.getD_eq_getElem?_getD, List.getElem?_eq_getElem h]
 rfl
section
variable {r : Nat}
def StmA (r : Nat) (s : GStmt) : Prop := ∀ H, Adds Tryz.prog cfg 43 [.ptr r 0, .agg (encStmt s)] r (wStmt s) H
def BlkA (r : Nat) (l : List GStmt) : Prop := ∀ H, Adds Tryz.prog cfg 72 [.ptr r 0, .sl .sh (l.map encStmt)] r (wBlk l) H
set_option maxRecDepth 20000 in
theorem blk_of (l : List GStmt) (hlen : l.length ≤ BIG) (hall : ∀ s ∈ l, StmA r s) : BlkA r l := by
 intro H
 refine Adds_of (fn := Tryz.f72) rfl rfl rfl rfl rfl ?_
 intro o acc hl hs
 have rs : Tryz.f72.results.toList = [] := rfl
 have b1 := bsS1
 simp only [List.map_cons, List.map_nil] at b1
 simp only [wBlk, List.length_append, List.length_cons, List.length_nil] at hl
 have hnx := hs.nx
 have hr := hs.rl
 unfold BIG at hlen
 simp only [go_sem, simprocAttr, rs, b1]
 refine goC_S (c_add1 [123] _) hs ?_
 intro H1 o1 s1 n1 k1
 simp only [go_sem, simprocAttr, rs, b1, List.length_map]
 refine W_loop_ind (fun k e H' => ∃ (i : Nat) (o' : Own), k = l.length - i ∧ i ≤ l.length ∧ St H r H' o' (acc ++ [[123]] ++ wStmts (l.take i)) ∧ gget .bad e 0 = .ptr r 0 ∧ gget .bad e 9 = .sl .sh (l.map encStmt) ∧ gget .bad e 10 = .lit (.int .i64 (l.length : Nat)) ∧ gget .bad e 11 = .lit (.int .i64 (i : Nat)))
  l.length ⟨0, o1, rfl, Nat.zero_le _, by simp only [List.take_zero, wStmts, app_nil']; exact s1.tu, by simp only [go_sem, simprocAttr], by simp only [go_sem, simprocAttr], by simp only [go_sem, simprocAttr], by simp only [go_sem, simprocAttr] <;> rfl⟩ ?_
 clear s1 n1 k1
 rintro k ihk e H1 ⟨i, o1, rfl, hle, s1, h0, h9, h10, h11⟩
 have nx1 := s1.nx
 by_cases hlt : i < l.length
 ·have d1 : decide ((i : Int) < (l.length : Nat)) = true := by simp; omega
  have hw1 := wrap1 (show i + 1 ≤ 9223372036854775807 by omega)
  have ha := iad_encStmt (t := 40) (bs := 152) (o := .sh) hlt
  have hx : l.getD i noStmt ∈ l := by rw [List.getD_eq_getElem?_getD, List.getElem?_eq_getElem hlt]; exact List.getElem_mem hlt
  have hin := hall _ hx
  have htk := take_succ' noStmt hlt
  have hmo : (wStmts (l.take (i + 1))).length ≤ (wStmts l).length := by
   have := congrArg (fun x => (wStmts x).length) (List.take_append_drop (i + 1) l)
   simp only [wStmts_app, List.length_append] at this
   omega
  rw [htk, wStmts_app] at hmo
  generalize l.getD i noStmt = x at *
  simp only [wStmts, List.append_nil, List.length_append] at hmo
  simp only [go_sem, simprocAttr, h0, h9, h10, h11, d1, ha]
  refine goC_S (hin _) s1 ?_
  intro H2 o2 s2 n2 k2
  simp only [go_sem, simprocAttr, h0, h9, h10, h11, hw1]
  refine ihk (l.length - (i + 1)) (by omega) _ _ ⟨i + 1, o2, rfl, by omega, ?_, by simp only [go_sem, simprocAttr, h0], by simp only [go_sem, simprocAttr, h9], by simp only [go_sem, simprocAttr, h10], by simp only [go_sem, simprocAttr]⟩
  rw [htk, wStmts_app]
  simp only [wStmts, List.append_nil]
  have q := s2.to (show Upd H H2 (H2.up 2) by (repeat (first | exact Upd.refl _ _ | refine Upd.up ?_ _ | refine Upd.put ?_ _ (by first | omega | (simp only [go_sem]; omega)) | refine Upd.putM ?_ _ _ (by first | omega | (simp only [go_sem]; omega)))))
  simp only [List.append_assoc] at q ⊢
  exact q
 ·obtain rfl : i = l.length := by omega
  have d1 : decide (((l.length : Nat) : Int) < (l.length : Nat)) = false := by simp
  rw [List.take_length] at s1
  simp only [go_sem, simprocAttr, h0, h9, h10, h11, d1, rs, b1]
  refine goC_S (c_add1 [125] _) s1 ?_
  intro H3 o3 s3 n3 k3
  simp only [go_sem, simprocAttr, rs]
  exact ⟨_, by have q := s3; simp only [List.append_assoc] at q; exact q⟩
set_option maxRecDepth 20000 in
theorem stm_of (op : Int) (x y p : Wd) (a : List Opd) (ps : List Wd) (th el : List GStmt) (hx : a.all okO = true) (hlen : a.length ≤ BIG) (hth : BlkA r th) (hel : BlkA r el) : StmA r (.mk op x y p a ps th el) := by
 intro H
 refine Adds_of (fn := Tryz.f43) rfl rfl rfl rfl rfl ?_
 intro o acc hl hs
 have rs : Tryz.f43.results.toList = [] := rfl
 have b1 := bsS1
 have b2 := bsS2
 have b3 := bsS3
 have b4 := bsS4
 simp only [List.map_cons, List.map_nil] at b1 b2 b3 b4
 have hr := hs.rl
 have hnx := hs.nx
 have mS := fun (r : Nat) (a : Int) (v : AV) (H : Heap) => mapSet_int key_mis r a v H
 have mL := fun (r : Nat) (a : Int) (ok : Bool) (H : Heap) => lookup_int key_mis r a ok H
 generalize hT : acc ++ wStmt (.mk op x y p a ps th el) = T
 rw [encStmt_mk]
 by_cases h9 : op = 9
 ·subst h9
  simp only [wStmt_if, List.length_append, List.length_cons, List.length_nil] at hl
  cases hE : el with
  | nil =>
   have hE2 : (el.map encStmt) = [] := by rw [hE]; rfl
   have hE3 : wElse el = [] := by rw [hE]; rfl
   rw [hE3] at hl
   simp only [List.length_nil] at hl
   rw [← hE, hE2]
   simp only [go_sem, simprocAttr, rs, b1, b2, b3, b4, mS, mL, Nat.add_zero, List.nil_append, List.cons_append]
   refine goC_S (c_add1 tIf _) hs ?_
   intro H1 o1 s1 n1 k1
   have g1 := k1 H.next (by first | omega | (simp only [go_sem, simprocAttr]; omega)) (by omega)
   simp only [go_sem, simprocAttr, Nat.add_zero] at g1 n1
   simp only [go_sem, simprocAttr, rs, b1, b2, b3, b4, mS, mL, Nat.add_zero, List.nil_append, List.cons_append, g1]
   refine goC_S (c_first a hx hlen _) s1 ?_
   intro H2 o2 s2 n2 k2
   have g2 := k2 H.next (by first | omega | (simp only [go_sem, simprocAttr]; omega)) (by omega)
   simp only [g1, go_sem, simprocAttr, Nat.add_zero] at g2 n2
   simp only [go_sem, simprocAttr, rs, b1, b2, b3, b4, mS, mL, Nat.add_zero, List.nil_append, List.cons_append, g2]
   refine goC_S (hth _) s2 ?_
   intro H3 o3 s3 n3 k3
   have g3 := k3 H.next (by first | omega | (simp only [go_sem, simprocAttr]; omega)) (by omega)
   simp only [g2, go_sem, simprocAttr, Nat.add_zero] at g3 n3
   simp only [go_sem, simprocAttr, rs, b1, b2, b3, b4, mS, mL, Nat.add_zero, List.nil_append, List.cons_append, g3]
   exact ⟨_, by rw [← hT, wStmt_if, hE3]; have q := s3.to (show Upd H H3 (H3.up 9) by (repeat (first | exact Upd.refl _ _ | refine Upd.up ?_ _ | refine Upd.put ?_ _ (by first | omega | (simp only [go_sem]; omega)) | refine Upd.putM ?_ _ _ (by first | omega | (simp only [go_sem]; omega))))); simp only [List.append_assoc, app_nil'] at q ⊢; exact q⟩
  | cons e l =>
   have hE3 : wElse el = [tElse] ++ wBlk el := by rw [hE]; rfl
   have hdE : decide ((0 : Int) < (el.length : Nat)) = true := by rw [hE]; simp
   rw [hE3] at hl
   simp only [List.length_append, List.length_cons, List.length_nil] at hl
   rw [← hE]
   clear hE
   simp only [go_sem, simprocAttr, rs, b1, b2, b3, b4, mS, mL, Nat.add_zero, List.nil_append, List.cons_append]
   refine goC_S (c_add1 tIf _) hs ?_
   intro H1 o1 s1 n1 k1
   have g1 := k1 H.next (by first | omega | (simp only [go_sem, simprocAttr]; omega)) (by omega)
   simp only [go_sem, simprocAttr, Nat.add_zero] at g1 n1
   simp only [go_sem, simprocAttr, rs, b1, b2, b3, b4, mS, mL, Nat.add_zero, List.nil_append, List.cons_append, g1]
   refine goC_S (c_first a hx hlen _) s1 ?_
   intro H2 o2 s2 n2 k2
   have g2 := k2 H.next (by first | omega | (simp only [go_sem, simprocAttr]; omega)) (by omega)
   simp only [g1, go_sem, simprocAttr, Nat.add_zero] at g2 n2
   simp only [go_sem, simprocAttr, rs, b1, b2, b3, b4, mS, mL, Nat.add_zero, List.nil_append, List.cons_append, g2]
   refine goC_S (hth _) s2 ?_
   intro H3 o3 s3 n3 k3
   have g3 := k3 H.next (by first | omega | (simp only [go_sem, simprocAttr]; omega)) (by omega)
   simp only [g2, go_sem, simprocAttr, Nat.add_zero] at g3 n3
   simp only [go_sem, simprocAttr, rs, b1, b2, b3, b4, mS, mL, Nat.add_zero, List.nil_append, List.cons_append, g3, List.length_map, hdE]
   refine goC_S (c_add1 tElse _) s3 ?_
   intro H4 o4 s4 n4 k4
   have g4 := k4 H.next (by first | omega | (simp only [go_sem, simprocAttr]; omega)) (by omega)
   simp only [g3, go_sem, simprocAttr, Nat.add_zero] at g4 n4
   simp only [go_sem, simprocAttr, rs, b1, b2, b3, b4, mS, mL, Nat.add_zero, List.nil_append, List.cons_append, g4]
   refine goC_S (hel _) s4 ?_
   intro H5 o5 s5 n5 k5
   have g5 := k5 H.next (by first | omega | (simp only [go_sem, simprocAttr]; omega)) (by omega)
   simp only [g4, go_sem, simprocAttr, Nat.add_zero] at g5 n5
   simp only [go_sem, simprocAttr, rs, b1, b2, b3, b4, mS, mL, Nat.add_zero, List.nil_append, List.cons_append, g5]
   exact ⟨_, by rw [← hT, wStmt_if, hE3]; have q := s5; simp only [List.append_assoc] at q ⊢; exact q⟩
 have d9 : decide (op = 9) = false := by simp [h9]
 by_cases h10 : op = 10
 ·subst h10
  simp only [wStmt_while, List.length_append, List.length_cons, List.length_nil] at hl
  simp only [go_sem, simprocAttr, rs, b1, b2, b3, b4, mS, mL, Nat.add_zero, List.nil_append, List.cons_append]
  refine goC_S (c_add1 tWhile _) hs ?_
  intro H1 o1 s1 n1 k1
  have g1 := k1 H.next (by first | omega | (simp only [go_sem, simprocAttr]; omega)) (by omega)
  simp only [go_sem, simprocAttr, Nat.add_zero] at g1 n1
  simp only [go_sem, simprocAttr, rs, b1, b2, b3, b4, mS, mL, Nat.add_zero, List.nil_append, List.cons_append, g1]
  refine goC_S (c_first a hx hlen _) s1 ?_
  intro H2 o2 s2 n2 k2
  have g2 := k2 H.next (by first | omega | (simp only [go_sem, simprocAttr]; omega)) (by omega)
  simp only [g1, go_sem, simprocAttr, Nat.add_zero] at g2 n2
  simp only [go_sem, simprocAttr, rs, b1, b2, b3, b4, mS, mL, Nat.add_zero, List.nil_append, List.cons_append, g2]
  refine goC_S (hth _) s2 ?_
  intro H3 o3 s3 n3 k3
  have g3 := k3 H.next (by first | omega | (simp only [go_sem, simprocAttr]; omega)) (by omega)
  simp only [g2, go_sem, simprocAttr, Nat.add_zero] at g3 n3
  simp only [go_sem, simprocAttr, rs, b1, b2, b3, b4, mS, mL, Nat.add_zero, List.nil_append, List.cons_append, g3]
  exact ⟨o3, by rw [← hT, wStmt_while]; have q := s3; simp only [List.append_assoc] at q; exact q.tu⟩
 have d10 : decide (op = 10) = false := by simp [h10]
 by_cases h8 : op = 8
 ·subst h8
  simp only [wStmt_out, List.length_append, List.length_cons, List.length_nil] at hl
  simp only [go_sem, simprocAttr, rs, b1, b2, b3, b4, mS, mL, Nat.add_zero, List.nil_append, List.cons_append]
  refine goC_S (c_add1 tOut _) hs ?_
  intro H1 o1 s1 n1 k1
  have g1 := k1 H.next (by first | omega | (simp only [go_sem, simprocAttr]; omega)) (by omega)
  simp only [go_sem, simprocAttr, Nat.add_zero] at g1 n1
  simp only [go_sem, simprocAttr, rs, b1, b2, b3, b4, mS, mL, Nat.add_zero, List.nil_append, List.cons_append, g1]
  refine goC_S (c_first a hx hlen _) s1 ?_
  intro H2 o2 s2 n2 k2
  have g2 := k2 H.next (by first | omega | (simp only [go_sem, simprocAttr]; omega)) (by omega)
  simp only [g1, go_sem, simprocAttr, Nat.add_zero] at g2 n2
  simp only [go_sem, simprocAttr, rs, b1, b2, b3, b4, mS, mL, Nat.add_zero, List.nil_append, List.cons_append, g2]
  refine goC_S (c_add1 [59] _) s2 ?_
  intro H3 o3 s3 n3 k3
  have g3 := k3 H.next (by first | omega | (simp only [go_sem, simprocAttr]; omega)) (by omega)
  simp only [g2, go_sem, simprocAttr, Nat.add_zero] at g3 n3
  simp only [go_sem, simprocAttr, rs, b1, b2, b3, b4, mS, mL, Nat.add_zero, List.nil_append, List.cons_append, g3]
  exact ⟨o3, by rw [← hT, wStmt_out]; have q := s3; simp only [List.append_assoc] at q; exact q.tu⟩
 have d8 : decide (op = 8) = false := by simp [h8]
 by_cases h11 : op = 11
 ·subst h11
  simp only [wStmt_ret, List.length_append, List.length_cons, List.length_nil] at hl
  simp only [go_sem, simprocAttr, rs, b1, b2, b3, b4, mS, mL, Nat.add_zero, List.nil_append, List.cons_append]
  refine goC_S (c_add1 tReturn _) hs ?_
  intro H1 o1 s1 n1 k1
  have g1 := k1 H.next (by first | omega | (simp only [go_sem, simprocAttr]; omega)) (by omega)
  simp only [go_sem, simprocAttr, Nat.add_zero] at g1 n1
  simp only [go_sem, simprocAttr, rs, b1, b2, b3, b4, mS, mL, Nat.add_zero, List.nil_append, List.cons_append, g1]
  refine goC_S (c_first a hx hlen _) s1 ?_
  intro H2 o2 s2 n2 k2
  have g2 := k2 H.next (by first | omega | (simp only [go_sem, simprocAttr]; omega)) (by omega)
  simp only [g1, go_sem, simprocAttr, Nat.add_zero] at g2 n2
  simp only [go_sem, simprocAttr, rs, b1, b2, b3, b4, mS, mL, Nat.add_zero, List.nil_append, List.cons_append, g2]
  refine goC_S (c_add1 [59] _) s2 ?_
  intro H3 o3 s3 n3 k3
  have g3 := k3 H.next (by first | omega | (simp only [go_sem, simprocAttr]; omega)) (by omega)
  simp only [g2, go_sem, simprocAttr, Nat.add_zero] at g3 n3
  simp only [go_sem, simprocAttr, rs, b1, b2, b3, b4, mS, mL, Nat.add_zero, List.nil_append, List.cons_append, g3]
  exact ⟨o3, by rw [← hT, wStmt_ret]; have q := s3; simp only [List.append_assoc] at q; exact q.tu⟩
 have d11 : decide (op = 11) = false := by simp [h11]
 by_cases h3 : op = 3
 ·subst h3
  simp only [wStmt_set, List.length_append, List.length_cons, List.length_nil] at hl
  simp only [go_sem, simprocAttr, rs, b1, b2, b3, b4, mS, mL, Nat.add_zero, List.nil_append, List.cons_append]
  refine goC_S (c_add4 x [46] p [61] _) hs ?_
  intro H1 o1 s1 n1 k1
  have g1 := k1 H.next (by first | omega | (simp only [go_sem, simprocAttr]; omega)) (by omega)
  simp only [go_sem, simprocAttr, Nat.add_zero] at g1 n1
  simp only [go_sem, simprocAttr, rs, b1, b2, b3, b4, mS, mL, Nat.add_zero, List.nil_append, List.cons_append, g1]
  refine goC_S (c_first a hx hlen _) s1 ?_
  intro H2 o2 s2 n2 k2
  have g2 := k2 H.next (by first | omega | (simp only [go_sem, simprocAttr]; omega)) (by omega)
  simp only [g1, go_sem, simprocAttr, Nat.add_zero] at g2 n2
  simp only [go_sem, simprocAttr, rs, b1, b2, b3, b4, mS, mL, Nat.add_zero, List.nil_append, List.cons_append, g2]
  refine goC_S (c_add1 [59] _) s2 ?_
  intro H3 o3 s3 n3 k3
  have g3 := k3 H.next (by first | omega | (simp only [go_sem, simprocAttr]; omega)) (by omega)
  simp only [g2, go_sem, simprocAttr, Nat.add_zero] at g3 n3
  simp only [go_sem, simprocAttr, rs, b1, b2, b3, b4, mS, mL, Nat.add_zero, List.nil_append, List.cons_append, g3]
  exact ⟨o3, by rw [← hT, wStmt_set]; have q := s3; simp only [List.append_assoc] at q; exact q.tu⟩
 have d3 : decide (op = 3) = false := by simp [h3]
 have hW := wStmt_val x y p a ps th el h9 h10 h8 h11 h3
 rw [hW] at hT
 rw [hW] at hl
 clear hW
 by_cases h0 : op = 0
 ·subst h0
  have hV : wVal 0 y p a ps = wFirst a := rfl
  rw [hV] at hT hl
  simp only [List.length_append, List.length_cons, List.length_nil] at hl
  simp only [go_sem, simprocAttr, rs, b1, b2, b3, b4, mS, mL, Nat.add_zero, List.nil_append, List.cons_append]
  refine goC_S (c_add2 x [61] _) hs ?_
  intro H1 o1 s1 n1 k1
  have g1 := k1 H.next (by first | omega | (simp only [go_sem, simprocAttr]; omega)) (by omega)
  simp only [go_sem, simprocAttr, Nat.add_zero] at g1 n1
  simp only [go_sem, simprocAttr, rs, b1, b2, b3, b4, mS, mL, Nat.add_zero, List.nil_append, List.cons_append, g1]
  refine goC_S (c_first a hx hlen _) s1 ?_
  intro H2 o2 s2 n2 k2
  have g2 := k2 H.next (by first | omega | (simp only [go_sem, simprocAttr]; omega)) (by omega)
  simp only [g1, go_sem, simprocAttr, Nat.add_zero] at g2 n2
  simp only [go_sem, simprocAttr, rs, b1, b2, b3, b4, mS, mL, Nat.add_zero, List.nil_append, List.cons_append, g2]
  refine goC_S (c_add1 [59] _) s2 ?_
  intro H3 o3 s3 n3 k3
  have g3 := k3 H.next (by first | omega | (simp only [go_sem, simprocAttr]; omega)) (by omega)
  simp only [g2, go_sem, simprocAttr, Nat.add_zero] at g3 n3
  simp only [go_sem, simprocAttr, rs, b1, b2, b3, b4, mS, mL, Nat.add_zero, List.nil_append, List.cons_append, g3]
  exact ⟨_, by rw [← hT]; have q := s3; simp only [List.append_assoc] at q ⊢; exact q⟩
 have d0 : decide (op = 0) = false := by simp [h0]
 by_cases h1 : op = 1
 ·subst h1
  have hV : wVal 1 y p a ps = wFirst a ++ ([p] ++ wFirst (a.drop (min a.length 1))) := rfl
  rw [hV] at hT hl
  simp only [List.length_append, List.length_cons, List.length_nil] at hl
  have hm0 : (if (1 : Int) < (a.length : Nat) then 1 else ((a.length : Nat) : Int)) = ((min a.length 1 : Nat) : Int) := by split <;> omega
  have hdr := slice_dropO (l := a) (m := min a.length 1) (Nat.min_le_left _ _) .sh
  have hxd : (a.drop (min a.length 1)).all okO = true := by
   rw [List.all_eq_true] at hx ⊢
   exact fun y hy => hx y (List.mem_of_mem_drop hy)
  have hld : (a.drop (min a.length 1)).length ≤ BIG := by simp; omega
  generalize a.drop (min a.length 1) = ad at *
  generalize min a.length 1 = am at *
  simp only [go_sem, simprocAttr, rs, b1, b2, b3, b4, mS, mL, Nat.add_zero, List.nil_append, List.cons_append]
  refine goC_S (c_add2 x [61] _) hs ?_
  intro H1 o1 s1 n1 k1
  have g1 := k1 H.next (by first | omega | (simp only [go_sem, simprocAttr]; omega)) (by omega)
  simp only [go_sem, simprocAttr, Nat.add_zero] at g1 n1
  simp only [go_sem, simprocAttr, rs, b1, b2, b3, b4, mS, mL, Nat.add_zero, List.nil_append, List.cons_append, g1]
  refine goC_S (c_first a hx hlen _) s1 ?_
  intro H2 o2 s2 n2 k2
  have g2 := k2 H.next (by first | omega | (simp only [go_sem, simprocAttr]; omega)) (by omega)
  simp only [g1, go_sem, simprocAttr, Nat.add_zero] at g2 n2
  simp only [go_sem, simprocAttr, rs, b1, b2, b3, b4, mS, mL, Nat.add_zero, List.nil_append, List.cons_append, g2]
  refine goC_S (c_add1 p _) s2 ?_
  intro H3 o3 s3 n3 k3
  have g3 := k3 H.next (by first | omega | (simp only [go_sem, simprocAttr]; omega)) (by omega)
  simp only [g2, go_sem, simprocAttr, Nat.add_zero] at g3 n3
  simp only [go_sem, simprocAttr, rs, b1, b2, b3, b4, mS, mL, Nat.add_zero, List.nil_append, List.cons_append, g3, List.length_map, hm0, Option.map_none, Option.map_some, hdr]
  refine goC_S (c_first _ hxd hld _) s3 ?_
  intro H4 o4 s4 n4 k4
  have g4 := k4 H.next (by first | omega | (simp only [go_sem, simprocAttr]; omega)) (by omega)
  simp only [g3, go_sem, simprocAttr, Nat.add_zero] at g4 n4
  simp only [go_sem, simprocAttr, rs, b1, b2, b3, b4, mS, mL, Nat.add_zero, List.nil_append, List.cons_append, g4]
  refine goC_S (c_add1 [59] _) s4 ?_
  intro H5 o5 s5 n5 k5
  have g5 := k5 H.next (by first | omega | (simp only [go_sem, simprocAttr]; omega)) (by omega)
  simp only [g4, go_sem, simprocAttr, Nat.add_zero] at g5 n5
  simp only [go_sem, simprocAttr, rs, b1, b2, b3, b4, mS, mL, Nat.add_zero, List.nil_append, List.cons_append, g5]
  exact ⟨_, by rw [← hT]; have q := s5; simp only [List.append_assoc] at q ⊢; exact q⟩
 have d1 : decide (op = 1) = false := by simp [h1]
 by_cases h2 : op = 2
 ·subst h2
  have hV : wVal 2 y p a ps = [y, [46], p] := rfl
  rw [hV] at hT hl
  simp only [List.length_append, List.length_cons, List.length_nil] at hl
  simp only [go_sem, simprocAttr, rs, b1, b2, b3, b4, mS, mL, Nat.add_zero, List.nil_append, List.cons_append]
  refine goC_S (c_add2 x [61] _) hs ?_
  intro H1 o1 s1 n1 k1
  have g1 := k1 H.next (by first | omega | (simp only [go_sem, simprocAttr]; omega)) (by omega)
  simp only [go_sem, simprocAttr, Nat.add_zero] at g1 n1
  simp only [go_sem, simprocAttr, rs, b1, b2, b3, b4, mS, mL, Nat.add_zero, List.nil_append, List.cons_append, g1]
  refine goC_S (c_add3 y [46] p _) s1 ?_
  intro H2 o2 s2 n2 k2
  have g2 := k2 H.next (by first | omega | (simp only [go_sem, simprocAttr]; omega)) (by omega)
  simp only [g1, go_sem, simprocAttr, Nat.add_zero] at g2 n2
  simp only [go_sem, simprocAttr, rs, b1, b2, b3, b4, mS, mL, Nat.add_zero, List.nil_append, List.cons_append, g2]
  refine goC_S (c_add1 [59] _) s2 ?_
  intro H3 o3 s3 n3 k3
  have g3 := k3 H.next (by first | omega | (simp only [go_sem, simprocAttr]; omega)) (by omega)
  simp only [g2, go_sem, simprocAttr, Nat.add_zero] at g3 n3
  simp only [go_sem, simprocAttr, rs, b1, b2, b3, b4, mS, mL, Nat.add_zero, List.nil_append, List.cons_append, g3]
  exact ⟨_, by rw [← hT]; have q := s3; simp only [List.append_assoc] at q ⊢; exact q⟩
 have d2 : decide (op = 2) = false := by simp [h2]
 by_cases h4 : op = 4
 ·subst h4
  have hV : wVal 4 y p a ps = wObj ps a := rfl
  rw [hV] at hT hl
  simp only [List.length_append, List.length_cons, List.length_nil] at hl
  simp only [go_sem, simprocAttr, rs, b1, b2, b3, b4, mS, mL, Nat.add_zero, List.nil_append, List.cons_append]
  refine goC_S (c_add2 x [61] _) hs ?_
  intro H1 o1 s1 n1 k1
  have g1 := k1 H.next (by first | omega | (simp only [go_sem, simprocAttr]; omega)) (by omega)
  simp only [go_sem, simprocAttr, Nat.add_zero] at g1 n1
  simp only [go_sem, simprocAttr, rs, b1, b2, b3, b4, mS, mL, Nat.add_zero, List.nil_append, List.cons_append, g1]
  refine goC_S (c_pobj 4 x y p a ps th el hx hlen) s1 ?_
  intro H2 o2 s2 n2 k2
  have g2 := k2 H.next (by first | omega | (simp only [go_sem, simprocAttr]; omega)) (by omega)
  simp only [g1, go_sem, simprocAttr, Nat.add_zero] at g2 n2
  simp only [go_sem, simprocAttr, rs, b1, b2, b3, b4, mS, mL, Nat.add_zero, List.nil_append, List.cons_append, g2]
  refine goC_S (c_add1 [59] _) s2 ?_
  intro H3 o3 s3 n3 k3
  have g3 := k3 H.next (by first | omega | (simp only [go_sem, simprocAttr]; omega)) (by omega)
  simp only [g2, go_sem, simprocAttr, Nat.add_zero] at g3 n3
  simp only [go_sem, simprocAttr, rs, b1, b2, b3, b4, mS, mL, Nat.add_zero, List.nil_append, List.cons_append, g3]
  exact ⟨_, by rw [← hT]; have q := s3; simp only [List.append_assoc] at q ⊢; exact q⟩
 have d4 : decide (op = 4) = false := by simp [h4]
 by_cases h5 : op = 5
 ·subst h5
  have hV : wVal 5 y p a ps = [tCall, p] ++ wArgs a := rfl
  rw [hV] at hT hl
  simp only [List.length_append, List.length_cons, List.length_nil] at hl
  simp only [go_sem, simprocAttr, rs, b1, b2, b3, b4, mS, mL, Nat.add_zero, List.nil_append, List.cons_append]
  refine goC_S (c_add2 x [61] _) hs ?_
  intro H1 o1 s1 n1 k1
  have g1 := k1 H.next (by first | omega | (simp only [go_sem, simprocAttr]; omega)) (by omega)
  simp only [go_sem, simprocAttr, Nat.add_zero] at g1 n1
  simp only [go_sem, simprocAttr, rs, b1, b2, b3, b4, mS, mL, Nat.add_zero, List.nil_append, List.cons_append, g1]
  refine goC_S (c_add2 tCall p _) s1 ?_
  intro H2 o2 s2 n2 k2
  have g2 := k2 H.next (by first | omega | (simp only [go_sem, simprocAttr]; omega)) (by omega)
  simp only [g1, go_sem, simprocAttr, Nat.add_zero] at g2 n2
  simp only [go_sem, simprocAttr, rs, b1, b2, b3, b4, mS, mL, Nat.add_zero, List.nil_append, List.cons_append, g2]
  refine goC_S (c_pargs a hx _) s2 ?_
  intro H3 o3 s3 n3 k3
  have g3 := k3 H.next (by first | omega | (simp only [go_sem, simprocAttr]; omega)) (by omega)
  simp only [g2, go_sem, simprocAttr, Nat.add_zero] at g3 n3
  simp only [go_sem, simprocAttr, rs, b1, b2, b3, b4, mS, mL, Nat.add_zero, List.nil_append, List.cons_append, g3]
  refine goC_S (c_add1 [59] _) s3 ?_
  intro H4 o4 s4 n4 k4
  have g4 := k4 H.next (by first | omega | (simp only [go_sem, simprocAttr]; omega)) (by omega)
  simp only [g3, go_sem, simprocAttr, Nat.add_zero] at g4 n4
  simp only [go_sem, simprocAttr, rs, b1, b2, b3, b4, mS, mL, Nat.add_zero, List.nil_append, List.cons_append, g4]
  exact ⟨_, by rw [← hT]; have q := s4; simp only [List.append_assoc] at q ⊢; exact q⟩
 have d5 : decide (op = 5) = false := by simp [h5]
 by_cases h6 : op = 6
 ·subst h6
  have hV : wVal 6 y p a ps = [y] ++ wArgs a := rfl
  rw [hV] at hT hl
  simp only [List.length_append, List.length_cons, List.length_nil] at hl
  simp only [go_sem, simprocAttr, rs, b1, b2, b3, b4, mS, mL, Nat.add_zero, List.nil_append, List.cons_append]
  refine goC_S (c_add2 x [61] _) hs ?_
  intro H1 o1 s1 n1 k1
  have g1 := k1 H.next (by first | omega | (simp only [go_sem, simprocAttr]; omega)) (by omega)
  simp only [go_sem, simprocAttr, Nat.add_zero] at g1 n1
  simp only [go_sem, simprocAttr, rs, b1, b2, b3, b4, mS, mL, Nat.add_zero, List.nil_append, List.cons_append, g1]
  refine goC_S (c_add1 y _) s1 ?_
  intro H2 o2 s2 n2 k2
  have g2 := k2 H.next (by first | omega | (simp only [go_sem, simprocAttr]; omega)) (by omega)
  simp only [g1, go_sem, simprocAttr, Nat.add_zero] at g2 n2
  simp only [go_sem, simprocAttr, rs, b1, b2, b3, b4, mS, mL, Nat.add_zero, List.nil_append, List.cons_append, g2]
  refine goC_S (c_pargs a hx _) s2 ?_
  intro H3 o3 s3 n3 k3
  have g3 := k3 H.next (by first | omega | (simp only [go_sem, simprocAttr]; omega)) (by omega)
  simp only [g2, go_sem, simprocAttr, Nat.add_zero] at g3 n3
  simp only [go_sem, simprocAttr, rs, b1, b2, b3, b4, mS, mL, Nat.add_zero, List.nil_append, List.cons_append, g3]
  refine goC_S (c_add1 [59] _) s3 ?_
  intro H4 o4 s4 n4 k4
  have g4 := k4 H.next (by first | omega | (simp only [go_sem, simprocAttr]; omega)) (by omega)
  simp only [g3, go_sem, simprocAttr, Nat.add_zero] at g4 n4
  simp only [go_sem, simprocAttr, rs, b1, b2, b3, b4, mS, mL, Nat.add_zero, List.nil_append, List.cons_append, g4]
  exact ⟨_, by rw [← hT]; have q := s4; simp only [List.append_assoc] at q ⊢; exact q⟩
 have d6 : decide (op = 6) = false := by simp [h6]
 by_cases h7 : op = 7
 ·subst h7
  have hV : wVal 7 y p a ps = [tIn] := rfl
  rw [hV] at hT hl
  simp only [List.length_append, List.length_cons, List.length_nil] at hl
  simp only [go_sem, simprocAttr, rs, b1, b2, b3, b4, mS, mL, Nat.add_zero, List.nil_append, List.cons_append]
  refine goC_S (c_add2 x [61] _) hs ?_
  intro H1 o1 s1 n1 k1
  have g1 := k1 H.next (by first | omega | (simp only [go_sem, simprocAttr]; omega)) (by omega)
  simp only [go_sem, simprocAttr, Nat.add_zero] at g1 n1
  simp only [go_sem, simprocAttr, rs, b1, b2, b3, b4, mS, mL, Nat.add_zero, List.nil_append, List.cons_append, g1]
  refine goC_S (c_add1 tIn _) s1 ?_
  intro H2 o2 s2 n2 k2
  have g2 := k2 H.next (by first | omega | (simp only [go_sem, simprocAttr]; omega)) (by omega)
  simp only [g1, go_sem, simprocAttr, Nat.add_zero] at g2 n2
  simp only [go_sem, simprocAttr, rs, b1, b2, b3, b4, mS, mL, Nat.add_zero, List.nil_append, List.cons_append, g2]
  refine goC_S (c_add1 [59] _) s2 ?_
  intro H3 o3 s3 n3 k3
  have g3 := k3 H.next (by first | omega | (simp only [go_sem, simprocAttr]; omega)) (by omega)
  simp only [g2, go_sem, simprocAttr, Nat.add_zero] at g3 n3
  simp only [go_sem, simprocAttr, rs, b1, b2, b3, b4, mS, mL, Nat.add_zero, List.nil_append, List.cons_append, g3]
  exact ⟨_, by rw [← hT]; have q := s3; simp only [List.append_assoc] at q ⊢; exact q⟩
 have d7 : decide (op = 7) = false := by simp [h7]
 have hV : wVal op y p a ps = [] := by simp only [wVal, if_neg h0, if_neg h1, if_neg h2, if_neg h4, if_neg h5, if_neg h6, if_neg h7]
 rw [hV] at hT hl
 simp only [List.length_append, List.length_cons, List.length_nil] at hl
 simp only [go_sem, simprocAttr, rs, b1, b2, b3, b4, mS, mL, Nat.add_zero, List.nil_append, List.cons_append, d9, d10, d8, d11, d3, d0, d1, d2, d4, d5, d6, d7]
 refine goC_S (c_add2 x [61] _) hs ?_
 intro H1 o1 s1 n1 k1
 have g1 := k1 H.next (by first | omega | (simp only [go_sem, simprocAttr]; omega)) (by omega)
 simp only [go_sem, simprocAttr, Nat.add_zero] at g1 n1
 simp only [go_sem, simprocAttr, rs, b1, b2, b3, b4, mS, mL, Nat.add_zero, List.nil_append, List.cons_append, g1, d9, d10, d8, d11, d3, d0, d1, d2, d4, d5, d6, d7]
 refine goC_S (c_add1 [59] _) s1 ?_
 intro H2 o2 s2 n2 k2
 have g2 := k2 H.next (by first | omega | (simp only [go_sem, simprocAttr]; omega)) (by omega)
 simp only [g1, go_sem, simprocAttr, Nat.add_zero] at g2 n2
 simp only [go_sem, simprocAttr, rs, b1, b2, b3, b4, mS, mL, Nat.add_zero, List.nil_append, List.cons_append, g2, d9, d10, d8, d11, d3, d0, d1, d2, d4, d5, d6, d7]
 exact ⟨_, by rw [← hT]; have q := s2; simp only [List.append_assoc, List.nil_append] at q ⊢; exact q⟩
mutual
theorem c_pstmt : ∀ (s : GStmt), okS s = true → fitS s = true → StmA r s
 | .mk op x y p a ps th el, h, k => by
  simp only [okS, Bool.and_eq_true] at h
  simp only [fitS, Bool.and_eq_true, decide_eq_true_eq] at k
  exact stm_of op x y p a ps th el h.1 k.1 (blk_of th k.2.2.1 (c_pall th h.2.1 k.2.2.2.2.1)) (blk_of el k.2.2.2.1 (c_pall el h.2.2 k.2.2.2.2.2))
theorem c_pall : ∀ (l : List GStmt), okSs l = true → fitSs l = true → ∀ s ∈ l, StmA r s
 | [], _, _, s, hs => by cases hs
 | x :: l, h, k, s, hs => by
  simp only [okSs, Bool.and_eq_true] at h
  simp only [fitSs, Bool.and_eq_true] at k
  rcases List.mem_cons.1 hs with h1 | hs
  ·rw [h1]; exact c_pstmt x h.1 k.1
  ·exact c_pall l h.2 k.2 s hs
end
theorem c_pblock (l : List GStmt) (hlen : l.length ≤ BIG) (h : okSs l = true) (k : fitSs l = true) : BlkA r l := blk_of l hlen (c_pall l h k)
end
end Go.Proofs.YtghhkbigmmjanaaGreatDoor.VA

/-! Qb5 -/
namespace Go.Proofs.YtghhkbigmmjanaaGreatDoor.VA
open Go Go.RowKit
attribute [local go_sem] Nat.add_eq_left Nat.left_eq_add true_and and_true ite_true if_false Int.cast_ofNat_Int eq_self Nat.add_assoc Option.some.injEq decide_true decide_false Bool.not_true Bool.not_false List.size_toArray List.length_cons List.length_nil
set_option linter.unusedSimpArgs false
set_option maxRecDepth 100000

section
variable {r : Nat} {H : Heap}
set_option maxRecDepth 20000 in
theorem c_pfun1 (nm : Wd) (ps : List Wd) (bd : List GStmt) {bp bf : Nat} (gp : H.get bp = some [.ptr r 0]) (gf : H.get bf = some [.lit (.string (ba nm)), .sl .sh (ps.map encStr), .sl .sh (bd.map encStmt)]) (i : Nat) (hi : i < ps.length) :
  Adds Tryz.prog cfg 91 [.lit (.int .i64 (i : Nat)), .ptr bp 0, .ptr bf 0] r (wPar ps i) H := by
 refine Adds_of (fn := Tryz.f91) rfl rfl rfl rfl rfl ?_
 intro o acc hl hs
 have rs : Tryz.f91.results.toList = [] := rfl
 have hp := iad_encStr (t := 9) (bs := 16) (o := .sh) hi
 have b1 := bsS1
 simp only [List.map_cons, List.map_nil] at b1
 have hnx := hs.nx
 unfold wPar at hl ⊢
 generalize ps.getD i [] = nm at *
 simp only [encStr] at hp
 refine W_drawE [(0, 2), (0, 5)] [[7], [2, 4, 5, 6, 7], [4, 5, 6, 7], [4, 5, 6, 7], [5, 6, 7], [6, 7], [7], []] (by kernel_rfl) ?_
 simp only [go_sem, simprocAttr, gp, gf, hp, b1]
 refine eK_A (c_add1 nm _) hs (by (repeat (first | exact Upd.refl _ _ | refine Upd.up ?_ _ | refine Upd.put ?_ _ (by first | omega | (simp only [go_sem]; omega)) | refine Upd.putM ?_ _ _ (by first | omega | (simp only [go_sem]; omega))))) hl ?_
 intro H1 o1 s1 n1 k1
 simp only [go_sem, simprocAttr, rs]
 exact ⟨_, s1⟩
set_option maxRecDepth 20000 in
theorem c_pfun (f : GFunc) (hk : okF f = true) (hf : fitF f = true) : Adds Tryz.prog cfg 66 [.ptr r 0, .agg (encFunc f)] r (wFunc f) H := by
 refine Adds_of (fn := Tryz.f66) rfl rfl rfl rfl rfl ?_
 intro o acc hl hs
 have rs : Tryz.f66.results.toList = [] := rfl
 obtain ⟨nm, ps, bd⟩ := f
 simp only [fitF, Bool.and_eq_true, decide_eq_true_eq] at hf
 have b1 := bsS1
 have b3 := bsS3
 simp only [List.map_cons, List.map_nil] at b1 b3
 simp only [wFunc, List.length_append, List.length_cons, List.length_nil] at hl
 have hr := hs.rl
 have hnx := hs.nx
 generalize hT : acc ++ wFunc ⟨nm, ps, bd⟩ = T
 simp only [go_sem, simprocAttr, encFunc, rs, b1, b3, Nat.add_zero]
 refine goC_S (c_add3 tFun nm [40] _) hs ?_
 intro H1 o1 s1 n1 k1
 have gp := k1 H.next (by simp only [go_sem, simprocAttr]; omega) (by omega)
 have gf := k1 (H.next + 1) (by simp only [go_sem, simprocAttr]; omega) (by omega)
 simp only [go_sem, simprocAttr, Nat.add_zero] at gp gf n1
 simp only [go_sem, simprocAttr, rs, b1, gp, gf, List.length_map]
 refine goC_S (c_plist ps.length _ [.ptr H.next 0, .ptr (H.next + 1) 0] (wPar ps) (fun i hi H' hn hk => c_pfun1 nm ps bd ((hk _ (by simp only [go_sem, simprocAttr]; omega) (by omega)).trans (by simp only [go_sem, simprocAttr, gp])) ((hk _ (by simp only [go_sem, simprocAttr]; omega) (by omega)).trans (by simp only [go_sem, simprocAttr, gf])) i hi)) s1 ?_
 intro H2 o2 s2 n2 k2
 have gp2 := k2 H.next (by simp only [go_sem, simprocAttr]; omega) (by omega)
 have gf2 := k2 (H.next + 1) (by simp only [go_sem, simprocAttr]; omega) (by omega)
 simp only [go_sem, simprocAttr, gp, gf] at gp2 gf2 n2
 simp only [go_sem, simprocAttr, rs, b1, gp2, gf2]
 refine goC_S (c_add1 [41] _) s2 ?_
 intro H3 o3 s3 n3 k3
 have gp3 := k3 H.next (by simp only [go_sem, simprocAttr]; omega) (by omega)
 have gf3 := k3 (H.next + 1) (by simp only [go_sem, simprocAttr]; omega) (by omega)
 simp only [go_sem, simprocAttr, gp2, gf2] at gp3 gf3 n3
 simp only [go_sem, simprocAttr, rs, b1, gp3, gf3]
 refine goC_S (c_pblock bd hf.2.1 hk hf.2.2 _) s3 ?_
 intro H4 o4 s4 n4 k4
 simp only [go_sem, simprocAttr, rs]
 exact ⟨o4, by rw [← hT]; have q := s4; simp only [List.append_assoc] at q; exact q⟩
end
theorem foldl_dep (m : Nat) (l : List GStmt) {i : Nat} (h : i < l.length) (d : Nat) :
  (l.drop i).foldl (fun d s => max d (max (1 + dep m s.th) (1 + dep m s.el))) d = (l.drop (i + 1)).foldl (fun d s => max d (max (1 + dep m s.th) (1 + dep m s.el))) (max d (max (1 + dep m (l.getD i noStmt).th) (1 + dep m (l.getD i noStmt).el))) := by
 rw [drop_cons' noStmt h, List.foldl_cons]
set_option maxRecDepth 20000 in
theorem c_deep : ∀ (m : Nat), m ≤ 1000 → ∀ (l : List GStmt), fitSs l = true → l.length ≤ BIG → ∀ (o : Own) (H : Heap), calls Tryz.prog cfg 65 [.sl o (l.map encStmt), .lit (.int .i64 (m : Nat))] H = some (.ret (.lit (.int .i64 (dep m l : Nat))) H) := by
 intro m
 induction m with
 | zero =>
  intro _ l hf hlen o H
  unfold BIG at hlen
  refine calls_pure (fn := Tryz.f65) rfl rfl rfl rfl rfl ?_ H
  have rs : Tryz.f65.results.toList = [.tmp 4] := rfl
  simp only [go_sem, simprocAttr, List.length_map]
  refine W_loop_ind (fun k e H => ∃ i : Nat, k = l.length - i ∧ i ≤ l.length ∧ gget .bad e 1 = .lit (.int .i64 0) ∧ gget .bad e 5 = .lit (.int .i64 0) ∧ gget .bad e 8 = .sl .sh (l.map encStmt) ∧ gget .bad e 9 = .lit (.int .i64 (l.length : Nat)) ∧ gget .bad e 10 = .lit (.int .i64 (i : Nat)))
   l.length ⟨0, rfl, by omega, by simp only [go_sem, simprocAttr], by simp only [go_sem, simprocAttr], by simp only [go_sem, simprocAttr], by simp only [go_sem, simprocAttr], by simp only [go_sem, simprocAttr] <;> rfl⟩ ?_
  rintro k ihk e H ⟨i, rfl, hle, h1, h5, h8, h9, h10⟩
  by_cases hlt : i < l.length
  ·have hlt' : decide ((i : Int) < (l.length : Nat)) = true := by simp; omega
   have ha := iad_encStmt (t := 40) (bs := 152) (o := .sh) hlt
   generalize l.getD i noStmt = x at ha
   have hw1 := wrap1 (show i + 1 ≤ 9223372036854775807 by omega)
   simp only [go_sem, simprocAttr, h1, h5, h8, h9, h10, hlt', ha, hw1]
   exact ihk _ (by omega) _ _ ⟨i + 1, rfl, by omega, by simp only [go_sem, simprocAttr, h1], by simp only [go_sem, simprocAttr, h5], by simp only [go_sem, simprocAttr, h8], by simp only [go_sem, simprocAttr, h9], by simp only [go_sem, simprocAttr]⟩
  ·have hlt' : decide ((i : Int) < (l.length : Nat)) = false := by simp; omega
   simp only [go_sem, simprocAttr, h1, h5, h8, h9, h10, hlt', rs, dep]
 | succ m ih =>
  intro hm l hf hlen o H
  unfold BIG at hlen
  refine calls_pure (fn := Tryz.f65) rfl rfl rfl rfl rfl ?_ H
  have rs : Tryz.f65.results.toList = [.tmp 4] := rfl
  have hmp : decide ((0 : Int) < ((m + 1 : Nat) : Int)) = true := by rw [decide_eq_true_eq]; omega
  have hms : IntKind.wrap .i64 (((m + 1 : Nat) : Int) - 1) = (m : Nat) := by rw [wrap64 (by omega) (by omega)]; omega
  generalize hR : dep (m + 1) l = R
  unfold dep at hR
  generalize hM : ((m + 1 : Nat) : Int) = M at *
  simp only [go_sem, simprocAttr, List.length_map]
  refine W_loop_ind (fun k e H => ∃ i d : Nat, k = l.length - i ∧ i ≤ l.length ∧ d ≤ m + 1 ∧ (l.drop i).foldl (fun d s => max d (max (1 + dep m s.th) (1 + dep m s.el))) d = R ∧ gget .bad e 1 = .lit (.int .i64 M) ∧ gget .bad e 5 = .lit (.int .i64 (d : Nat)) ∧ gget .bad e 8 = .sl .sh (l.map encStmt) ∧ gget .bad e 9 = .lit (.int .i64 (l.length : Nat)) ∧ gget .bad e 10 = .lit (.int .i64 (i : Nat)))
   l.length ⟨0, 0, rfl, by omega, by omega, hR, by simp only [go_sem, simprocAttr] <;> rfl, by simp only [go_sem, simprocAttr] <;> rfl, by simp only [go_sem, simprocAttr], by simp only [go_sem, simprocAttr], by simp only [go_sem, simprocAttr] <;> rfl⟩ ?_
  rintro k ihk e H ⟨i, d, rfl, hle, hd, hR, h1, h5, h8, h9, h10⟩
  by_cases hlt : i < l.length
  ·have hlt' : decide ((i : Int) < (l.length : Nat)) = true := by simp; omega
   have ha := iad_encStmt (t := 40) (bs := 152) (o := .sh) hlt
   rw [foldl_dep m l hlt] at hR
   have hfx : fitS (l.getD i noStmt) = true := by
    rw [fitSs_all, List.all_eq_true] at hf
    exact hf _ (by rw [List.getD_eq_getElem?_getD, List.getElem?_eq_getElem hlt]; exact List.getElem_mem hlt)
   generalize l.getD i noStmt = x at ha hR hfx
   obtain ⟨op, x, y, p, a, ps, th, el⟩ := x
   simp only [fitS, Bool.and_eq_true, decide_eq_true_eq] at hfx
   simp only [encStmt_mk] at ha
   simp only [GStmt.th, GStmt.el] at hR
   have hw1 := wrap1 (show i + 1 ≤ 9223372036854775807 by omega)
   have c1 := fun H => ih (by omega) th hfx.2.2.2.2.1 hfx.2.2.1 .sh H
   have c2 := fun H => ih (by omega) el hfx.2.2.2.2.2 hfx.2.2.2.1 .sh H
   have l1 := dep_le m th
   have l2 := dep_le m el
   have w1 : IntKind.wrap .i64 (1 + ((dep m th : Nat) : Int)) = ((1 + dep m th : Nat) : Int) := by rw [wrap64 (by omega) (by omega)]; omega
   have w2 : IntKind.wrap .i64 (1 + ((dep m el : Nat) : Int)) = ((1 + dep m el : Nat) : Int) := by rw [wrap64 (by omega) (by omega)]; omega
   have hmx : (if ((1 + dep m el : Nat) : Int) > (if ((1 + dep m th : Nat) : Int) > (d : Nat) then ((1 + dep m th : Nat) : Int) else (d : Nat)) then ((1 + dep m el : Nat) : Int) else (if ((1 + dep m th : Nat) : Int) > (d : Nat) then ((1 + dep m th : Nat) : Int) else (d : Nat))) = ((max d (max (1 + dep m th) (1 + dep m el)) : Nat) : Int) := by
    split <;> split <;> omega
   generalize hD : max d (max (1 + dep m th) (1 + dep m el)) = D at *
   simp only [go_sem, simprocAttr, h1, h5, h8, h9, h10, hlt', ha, hmp]
   refine W_draw [(2, 8), (5, 8)] (by kernel_rfl) ?_
   simp only [go_sem, simprocAttr, h1, h5, h8, h9, h10, hms, c1, c2, w1, w2, hw1]
   exact ihk _ (by omega) _ _ ⟨i + 1, D, rfl, by omega, by omega, hR, by simp only [go_sem, simprocAttr, h1], by simp only [go_sem, simprocAttr, hmx], by simp only [go_sem, simprocAttr, h8], by simp only [go_sem, simprocAttr, h9], by simp only [go_sem, simprocAttr]⟩
  ·have hlt' : decide ((i : Int) < (l.length : Nat)) = false := by simp; omega
   rw [List.drop_of_length_le (by omega), List.foldl_nil] at hR
   subst hR
   simp only [go_sem, simprocAttr, h1, h5, h8, h9, h10, hlt', rs]
end Go.Proofs.YtghhkbigmmjanaaGreatDoor.VA

/-! Ph6 -/
namespace Go.Proofs.YtghhkbigmmjanaaGreatDoor.VA
open Go Go.RowKit
attribute [local go_sem] Nat.add_eq_left Nat.left_eq_add true_and and_true ite_true if_false Int.cast_ofNat_Int eq_self Nat.add_assoc Option.some.injEq decide_true decide_false Bool.not_true Bool.not_false List.size_toArray List.length_cons List.length_nil
set_option linter.unusedSimpArgs false
set_option maxRecDepth 100000

set_option maxRecDepth 20000 in
theorem c_rParse2 (s : List UInt8) (H : Heap) : calls Tryz.prog cfg2 12 [.lit (.string (ba s))] H = some (.ret (encRead (parseP s)) H) := by
 refine calls_pure (fn := Tryz.f12) rfl rfl rfl rfl rfl ?_ H
 have rs : Tryz.f12.results.toList = [.cell 2 24, .cell 3 27] := rfl
 have hlen := lexAns_len s
 have hx := fun H => up (c_rLex s H)
 have hr := c_rRead2 ((lexAns s).1.map Tok.g) s.length (by simp; unfold LM; omega)
 by_cases h : (lexAns s).2.1 = 0
 ·rw [parseP_ok s h]
  generalize lexAns s = r at *
  obtain ⟨ts, c, a⟩ := r
  simp only at h
  subst h
  generalize readP (ts.map Tok.g) s.length = q at *
  simp only [← enc_g] at hr
  simp only [encLex, encFault, encRead] at hx hr ⊢
  simp only [go_sem, simprocAttr, rs, hx, hr, ba_size]
 ·rw [parseP_bad s h]
  generalize lexAns s = r at *
  obtain ⟨ts, c, a⟩ := r
  have hc : decide ((c : Int) = 0) = false := by simp at h ⊢; omega
  simp only [encLex, encFault] at hx
  simp only [go_sem, simprocAttr, rs, hx, hc]
  refine W_draw [(1, 2)] (by kernel_rfl) ?_
  simp only [go_sem, simprocAttr, rs, encRead, List.map_nil] <;> rfl
set_option maxRecDepth 20000 in
theorem parse_texts (s : List UInt8) (H : Heap) : calls Tryz.prog cfg2 3 [.lit (.string (ba s))] H = some (.ret (.lit (.bool true)) H) := by
 refine calls_pure (fn := Tryz.f3) rfl rfl rfl rfl rfl ?_ H
 have rs : Tryz.f3.results.toList = [.tmp 2] := rfl
 have h1 := c_parse2 s
 have h2 := c_rParse2 s
 have h3 := fun o o' H => up (c_rSame (parseP s).1 (parseP s).1 (parseP_fit s) o o' H)
 have h4 := fun H => up (c_keyword s H)
 have h5 := fun H => up (c_rKeyword s H)
 rw [eqFs_refl] at h3
 generalize parseP s = q at *
 obtain ⟨fs, c, a⟩ := q
 simp only [encRead] at h1 h2 h3
 simp only [go_sem, simprocAttr, rs, h1, h2, h3, h4, h5, c_fixed2, beq_self_eq_true]
theorem imp_2 (f : FuncId) : cfg2.imp f = cfg.imp f := rfl
set_option maxRecDepth 20000 in
theorem parse_same (s t : List UInt8) (H : Heap) : calls Tryz.prog cfg2 4 [.lit (.string (ba s)), .lit (.string (ba t))] H = some (.ret (.lit (.bool true)) H) := by
 refine calls_pure (fn := Tryz.f4) rfl rfl rfl rfl rfl ?_ H
 have rs : Tryz.f4.results.toList = [.tmp 4] := rfl
 have h1 := c_rParse2 s
 have h2 := c_rParse2 t
 have h3 := fun o o' H => up (c_rSame (parseP s).1 (parseP t).1 (parseP_fit s) o o' H)
 have h4 := fun o o' H => up (c_pSame (parseP s).1 (parseP t).1 (parseP_fit s) o o' H)
 have h5 := fun o o' H => up (c_pSame (parseP s).1 (parseP s).1 (parseP_fit s) o o' H)
 rw [eqFs_refl] at h5
 generalize parseP s = q at *
 generalize parseP t = q' at *
 obtain ⟨fs, c, a⟩ := q
 obtain ⟨fs', c', a'⟩ := q'
 simp only [encRead] at h1 h2 h3 h4 h5
 simp only [go_sem, simprocAttr, rs, h1, h2, c_fixed2]
 refine W_draw [(2, 3), (2, 5), (3, 5), (4, 5), (2, 6), (3, 6), (4, 6), (5, 6), (11, 12)] (by kernel_rfl) ?_
 simp only [go_sem, simprocAttr, rs, h1, h2, h3, h4, h5, c_fixed2, imp_2, beq_self_eq_true]
end Go.Proofs.YtghhkbigmmjanaaGreatDoor.VA

/-! Qb6 -/
namespace Go.Proofs.YtghhkbigmmjanaaGreatDoor.VA
open Go Go.RowKit
attribute [local go_sem] Nat.add_eq_left Nat.left_eq_add true_and and_true ite_true if_false Int.cast_ofNat_Int eq_self Nat.add_assoc Option.some.injEq decide_true decide_false Bool.not_true Bool.not_false List.size_toArray List.length_cons List.length_nil
set_option linter.unusedSimpArgs false
set_option maxRecDepth 100000

def SZ : Nat := 549755813888
theorem joinTail_ge (sep : Wd) (hs : 1 ≤ sep.length) : ∀ (ws : List Wd), ws.length ≤ (Lib.joinTail sep ws).length
 | [] => Nat.zero_le _
 | w :: ws => by
  have := joinTail_ge sep hs ws
  simp only [Lib.joinTail, List.map_cons, List.flatten_cons, List.length_append, List.length_cons] at this ⊢
  omega
theorem joined_ge (ws : List Wd) : ws.length ≤ (joined [32] ws).length + 1 := by
 cases ws with
 | nil => simp
 | cons w ws =>
  have := joinTail_ge [32] (by simp) ws
  rw [joined, Lib.join_cons]
  simp only [List.length_append, List.length_cons]
  omega
theorem strs_encStr (l : List Wd) : strs (l.map encStr) = some l := strs_encS l
theorem c_pjoin (l : List Wd) (sep : Wd) (hj : (joined sep l).length ≤ 140737488355328) (hl : l.length ≤ 140737488355328) (o : Own) (H : Heap) :
  calls Tryz.prog cfg 44 [.sl o (l.map encStr), .lit (.string (ba sep))] H = some (.ret (.lit (.string (ba (joined sep l)))) H) := by
 refine calls_told (h := tJoin) rfl ?_ H
 simp only [go_sem, tJoin, strs_encStr, ba_list, if_pos (And.intro hj hl)]
theorem cat_ba (a b : Wd) (h : a.length + b.length ≤ 9223372036854775807) : aStr .add (ba a) (ba b) = some (.lit (.string (ba (a ++ b)))) := by
 rw [str_add _ _ (by simpa using h), ba_append]
theorem okP_get {a : List GFunc} (h : okP a = true) {i : Nat} (hi : i < a.length) : okF (a.getD i ⟨[], [], []⟩) = true := by
 simp only [okP, List.all_eq_true] at h
 apply h
 rw [List.getD_eq_getElem?_getD, List.getElem?_eq_getElem hi]
 exact List.getElem_mem hi
set_option maxRecDepth 20000 in
theorem c_spelt (fs : List GFunc) (hk : okP fs = true) (hf : fitP fs = true) (hz : (spelt fs).length ≤ SZ) (o : Own) (H : Heap) :
  calls Tryz.prog cfg 39 [.agg [.sl o (fs.map encFunc)]] H = some (.ret (.lit (.string (ba (laidP fs)))) H) := by
 have hlen : fs.length ≤ BIG := by simp only [fitP, Bool.and_eq_true, decide_eq_true_eq] at hf; exact hf.1
 unfold BIG at hlen
 unfold SZ at hz
 refine calls_pure (fn := Tryz.f39) rfl rfl rfl rfl rfl ?_ H
 have rs : Tryz.f39.results.toList = [.tmp 2] := rfl
 generalize hR : laidP fs = R
 simp only [go_sem, simprocAttr, List.length_map]
 refine W_loop_ind (fun k e H => ∃ i : Nat, k = fs.length - i ∧ i ≤ fs.length ∧ (fs.take i).any deepF = false ∧ gget .bad e 3 = .lit (.string (ba (spelt (fs.take i)))) ∧ gget .bad e 8 = .sl .sh (fs.map encFunc) ∧ gget .bad e 9 = .lit (.int .i64 (fs.length : Nat)) ∧ gget .bad e 10 = .lit (.int .i64 (i : Nat)))
  fs.length ⟨0, rfl, by omega, rfl, by simp only [go_sem, simprocAttr] <;> rfl, by simp only [go_sem, simprocAttr], by simp only [go_sem, simprocAttr], by simp only [go_sem, simprocAttr] <;> rfl⟩ ?_
 rintro k ihk e H ⟨i, rfl, hle, hnd, h3, h8, h9, h10⟩
 by_cases hlt : i < fs.length
 ·have hlt' : decide ((i : Int) < (fs.length : Nat)) = true := by rw [decide_eq_true_eq]; omega
  have ha := iad_encFunc (t := 42) (bs := 64) (o := .sh) hlt
  have hfx := fitP_get hf hlt
  have hkx := okP_get hk hlt
  have htk := take_succ' (⟨[], [], []⟩ : GFunc) hlt
  have hsp : fs = fs.take (i + 1) ++ fs.drop (i + 1) := (List.take_append_drop _ _).symm
  have hw1 := wrap1 (show i + 1 ≤ 9223372036854775807 by omega)
  have hmo : (spelt (fs.take (i + 1))).length ≤ (spelt fs).length := by
   have := congrArg (fun x => (spelt x).length) hsp
   simp only [spelt_app, List.length_append] at this
   omega
  rw [htk, spelt_app] at hmo
  generalize fs.getD i ⟨[], [], []⟩ = x at *
  have hfx' := hfx
  obtain ⟨nm, ps, bd⟩ := x
  simp only [fitF, Bool.and_eq_true, decide_eq_true_eq] at hfx'
  have cd := fun H => c_deep 34 (by omega) bd hfx'.2.2 hfx'.2.1 .sh H
  simp only [Int.cast_ofNat_Int] at cd
  simp only [encFunc] at ha
  by_cases hd : 33 < dep 34 bd
  ·have d1 : decide ((33 : Int) < ((dep 34 bd : Nat) : Int)) = true := by rw [decide_eq_true_eq]; omega
   have hR' : R = [63] := by
    rw [← hR, laidP, if_pos]
    rw [hsp, htk, List.any_append, List.any_append]
    simp [deepF, hd]
   subst hR'
   clear hR
   generalize dep 34 bd = D at *
   simp only [go_sem, simprocAttr, h3, h8, h9, h10, hlt', ha, cd, d1, rs]
  ·have d1 : decide ((33 : Int) < ((dep 34 bd : Nat) : Int)) = false := by rw [decide_eq_false_iff_not]; omega
   simp only [spelt, List.append_nil, List.length_append, speltF, List.length_cons, List.length_nil] at hmo
   have hge := joined_ge (wFunc ⟨nm, ps, bd⟩)
   have hdf : deepF ⟨nm, ps, bd⟩ = false := by simp [deepF, hd]
   generalize hD : dep 34 bd = D at *
   simp only [go_sem, simprocAttr, h3, h8, h9, h10, hlt', ha, cd, d1, rs]
   refine goC_A (c_pfun ⟨nm, ps, bd⟩ hkx hfx) (St.start (acc := []) (by simp only [go_sem, simprocAttr, List.map_nil]) (OwnB.nil _ _ _ _) (by simp only [go_sem, simprocAttr]; omega)) (Upd.refl _ _) (by unfold LW; simp only [List.length_nil]; omega) ?_
   intro H2 o2 s2 n2 k2
   have g2 := s2.get
   simp only [List.nil_append] at g2
   have hj := fun o H => c_pjoin (wFunc ⟨nm, ps, bd⟩) [32] (by omega) (by omega) o H
   have ct1 := cat_ba (joined [32] (wFunc ⟨nm, ps, bd⟩)) [10] (by simp only [List.length_cons, List.length_nil]; omega)
   have ct2 := cat_ba (spelt (fs.take i)) (joined [32] (wFunc ⟨nm, ps, bd⟩) ++ [10]) (by simp only [List.length_append, List.length_cons, List.length_nil]; omega)
   have hs2 : spelt (fs.take (i + 1)) = spelt (fs.take i) ++ (joined [32] (wFunc ⟨nm, ps, bd⟩) ++ [10]) := by
    rw [htk, spelt_app]; simp only [spelt, speltF, List.append_nil]
   generalize joined [32] (wFunc ⟨nm, ps, bd⟩) = J at *
   simp only [go_sem, simprocAttr, h3, h8, h9, h10, g2, hj, ct1, ct2, hw1]
   refine ihk _ (by omega) _ _ ⟨i + 1, rfl, by omega, ?_, by simp only [go_sem, simprocAttr, hs2], by simp only [go_sem, simprocAttr, h8], by simp only [go_sem, simprocAttr, h9], by simp only [go_sem, simprocAttr]⟩
   rw [htk, List.any_append, hnd]
   simp only [List.any_cons, List.any_nil, hdf, Bool.or_self]
 ·obtain rfl : i = fs.length := by omega
  have hlt' : decide (((fs.length : Nat) : Int) < (fs.length : Nat)) = false := by simp
  rw [List.take_length] at h3 hnd
  have hR' : R = spelt fs := by rw [← hR, laidP, hnd]; rfl
  subst hR'
  clear hR
  simp only [go_sem, simprocAttr, h3, h8, h9, h10, hlt', rs]
theorem c_pMay (fs : List GFunc) (hk : okP fs = true) (hf : fitP fs = true) (hz : (spelt fs).length ≤ SZ) (o : Own) (H : Heap) :
  calls Tryz.prog cfg2 20 [.agg [.sl o (fs.map encFunc)]] H = some (.ret (.lit (.bool (mayI fs))) H) := by
 refine calls_pure (fn := Tryz.f20) rfl rfl rfl rfl rfl ?_ H
 have rs : Tryz.f20.results.toList = [.tmp 2] := rfl
 have h1 := fun o H => up (c_spelt fs hk hf hz o H)
 have h2 := c_parse2 (laidP fs)
 have h3 := fun o o' H => up (c_pSame fs (parseP (laidP fs)).1 hf o o' H)
 unfold mayI
 generalize laidP fs = s at *
 generalize parseP s = q at *
 obtain ⟨gs, c, a⟩ := q
 simp only [encRead] at h2 h3
 by_cases hc : c = 0
 ·subst hc
  simp only [go_sem, simprocAttr, rs, h1, h2, h3]
 ·have d1 : decide ((c : Int) = 0) = false := by rw [decide_eq_false_iff_not]; omega
  have d2 : decide (c = 0) = false := by rw [decide_eq_false_iff_not]; omega
  simp only [go_sem, simprocAttr, rs, h1, h2, h3, d1, d2, Bool.false_and]
/-- What the printer answers. -/
def progI (fs : List GFunc) : Wd := if mayI fs then laidP fs else []
def stmtI (s : GStmt) : Wd := if mayI (wd1 s) then joined [32] (wStmt s) else []
theorem c_pProgram (fs : List GFunc) (hk : okP fs = true) (hf : fitP fs = true) (hz : (spelt fs).length ≤ SZ) (o : Own) (H : Heap) :
  calls Tryz.prog cfg2 22 [.agg [.sl o (fs.map encFunc)]] H = some (.ret (.lit (.string (ba (progI fs)))) H) := by
 refine calls_pure (fn := Tryz.f22) rfl rfl rfl rfl rfl ?_ H
 have rs : Tryz.f22.results.toList = [.tmp 2] := rfl
 have h1 := fun o H => up (c_spelt fs hk hf hz o H)
 have h2 := fun o H => c_pMay fs hk hf hz o H
 unfold progI
 generalize laidP fs = s at *
 cases hM : mayI fs with
 | true =>
  rw [hM] at h2
  simp only [go_sem, simprocAttr, rs, h1, h2]
 | false =>
  rw [hM] at h2
  simp only [go_sem, simprocAttr, rs, h1, h2]
theorem joinTail_len : ∀ (ws : List Wd), (Lib.joinTail [32] ws).length = (ws.map List.length).sum + ws.length
 | [] => rfl
 | w :: ws => by
  have := joinTail_len ws
  simp only [Lib.joinTail, List.map_cons, List.flatten_cons, List.length_append, List.length_cons, List.length_nil, List.sum_cons] at this ⊢
  omega
theorem joined_len (ws : List Wd) : (joined [32] ws).length = (ws.map List.length).sum + (ws.length - 1) := by
 cases ws with
 | nil => rfl
 | cons w ws =>
  rw [joined, Lib.join_cons, List.length_append, joinTail_len]
  simp only [List.map_cons, List.sum_cons, List.length_cons]
  omega
theorem joined_mid (u v x : List Wd) : (joined [32] v).length ≤ (joined [32] (u ++ (v ++ x))).length := by
 rw [joined_len, joined_len]
 simp only [List.map_append, List.sum_append, List.length_append]
 omega
theorem Adds_up {f : FuncId} {args : List AV} {r : Nat} {ws : List Wd} {H : Heap} (h : Adds Tryz.prog cfg f args r ws H) : Adds Tryz.prog cfg2 f args r ws H := by
 intro o acc hl hs
 obtain ⟨H', o', h1, h2⟩ := h o acc hl hs
 exact ⟨H', o', up h1, h2⟩
theorem bs1_wd (s : GStmt) : aBuildSlice Tryz.prog 22 1 [(0, .agg [.lit (.string (ba [102])), .sl .nil [], .sl .ex [encStmt s]])] = some (.sl .ex [[.lit (.string (ba [102])), .sl .nil [], .sl .ex [encStmt s]]]) :=
 build1 el_sFun (by decide) zr_fun rfl rfl _ rfl rfl
theorem san_wd (s : GStmt) : sanL [.agg [.sl .sh ((wd1 s).map encFunc)]] = sanL [.agg [.sl .ex [[.lit (.string (ba [102])), .sl .nil [], .sl .ex [encStmt s]]]]] := by
 simp only [wd1, List.map_cons, List.map_nil, encFunc, go_sem, simprocAttr]
set_option maxRecDepth 20000 in
theorem c_pStmtP (s : GStmt) (hk : okS s = true) (hf : fitS s = true) (hz : (spelt (wd1 s)).length ≤ SZ) (H : Heap) :
  calls Tryz.prog cfg2 24 [.agg (encStmt s)] H = some (.ret (.lit (.string (ba (stmtI s)))) H) := by
 refine calls_pure (fn := Tryz.f24) rfl rfl rfl rfl rfl ?_ H
 have rs : Tryz.f24.results.toList = [.tmp 2] := rfl
 have hkw : okP (wd1 s) = true := by simp [okP, okF, wd1, okSs, hk]
 have hfw : fitP (wd1 s) = true := by simp [fitP, fitF, wd1, fitSs, hf, BIG]
 have h2 := fun H => calls_of_san (c := cfg2) (f := 20) rfl (san_wd s) (c_pMay (wd1 s) hkw hfw hz .sh H)
 have b1 := bs1_wd s
 have hA := fun r H => Adds_up (c_pstmt (r := r) s hk hf H)
 have hwl : (wStmt s).length ≤ SZ + 10 := by
  have h1 := joined_ge (wFunc ⟨[102], [], [s]⟩)
  simp only [wd1, spelt, speltF, List.append_nil, List.length_append] at hz
  have h3 : (wStmt s).length ≤ (wFunc ⟨[102], [], [s]⟩).length := by simp [wFunc, wBlk, wStmts]; omega
  omega
 have hjl : (joined [32] (wStmt s)).length ≤ SZ := by
  have h1 := joined_mid ([tFun, [102], [40]] ++ [[41]] ++ [[123]]) (wStmt s) [[125]]
  have h2 : wFunc ⟨[102], [], [s]⟩ = ([tFun, [102], [40]] ++ [[41]] ++ [[123]]) ++ (wStmt s ++ [[125]]) := by simp [wFunc, wBlk, wStmts, wList]
  simp only [wd1, spelt, speltF, List.append_nil, List.length_append] at hz
  rw [h2] at hz
  omega
 unfold stmtI
 cases hM : mayI (wd1 s) with
 | false =>
  rw [hM] at h2
  simp only [go_sem, simprocAttr, rs, h2, b1]
 | true =>
  rw [hM] at h2
  simp only [go_sem, simprocAttr, rs, h2, b1]
  refine goC_A (hA _ _) (St.start (acc := []) (by simp only [go_sem, simprocAttr, List.map_nil]) (OwnB.nil _ _ _ _) (by simp only [go_sem, simprocAttr])) (Upd.refl _ _) (by unfold LW; unfold SZ at hwl; simp only [List.length_nil]; omega) ?_
  intro H2 o2 s2 n2 k2
  have g2 := s2.get
  simp only [List.nil_append] at g2
  have hj := fun o H => up (c_pjoin (wStmt s) [32] (by unfold SZ at hjl; omega) (by unfold SZ at hwl; omega) o H)
  generalize joined [32] (wStmt s) = J at *
  simp only [go_sem, simprocAttr, rs, g2, hj]
end Go.Proofs.YtghhkbigmmjanaaGreatDoor.VA

/-! Qc1 -/
namespace Go.Proofs.YtghhkbigmmjanaaGreatDoor.VA
open Go Go.RowKit
attribute [local go_sem] Nat.add_eq_left Nat.left_eq_add true_and and_true ite_true if_false Int.cast_ofNat_Int eq_self Nat.add_assoc Option.some.injEq decide_true decide_false Bool.not_true Bool.not_false List.size_toArray List.length_cons List.length_nil
set_option linter.unusedSimpArgs false
set_option maxRecDepth 100000

theorem strEq_nil (t : Wd) : decide (ba t = ba []) = decide (t = []) := by simp [ba_inj]
theorem c_rNm (t : Wd) (H : Heap) : calls Tryz.prog cfg 40 [.lit (.string (ba t))] H = some (.ret (.lit (.bool (nameW t))) H) := c_rName t H
set_option maxRecDepth 20000 in
theorem c_rRightO (x : Opd) (H : Heap) : calls Tryz.prog cfg 92 [.agg (encOpd x)] H = some (.ret (.lit (.bool (rightO x))) H) := by
 refine calls_pure (fn := Tryz.f92) rfl rfl rfl rfl rfl ?_ H
 have rs : Tryz.f92.results.toList = [.tmp 2] := rfl
 obtain ⟨k, n, nm⟩ := x
 have hN := c_rNm nm
 have e0 := strEq_nil nm
 simp only [rightO]
 generalize hE : decide (nm = []) = bE at *
 generalize nameW nm = bN at *
 by_cases h0 : k = 0
 ·subst h0
  cases hn : decide (n = 0) <;> simp only [go_sem, simprocAttr, encOpd, rs, hn, e0] <;> simp
 have d0 : decide (k = 0) = false := by simp [h0]
 by_cases h1 : k = 1
 ·subst h1
  cases hn : decide (n = 0) <;> cases hn1 : decide (n = 1) <;> simp only [go_sem, simprocAttr, encOpd, rs, hn, hn1, e0] <;> simp
 have d1 : decide (k = 1) = false := by simp [h1]
 by_cases h2 : k = 2
 ·subst h2
  cases hn : decide (0 ≤ n) <;> cases hn1 : decide (n ≤ 999999999) <;> simp only [go_sem, simprocAttr, encOpd, rs, hn, hn1, e0] <;> simp
 have d2 : decide (k = 2) = false := by simp [h2]
 by_cases h3 : k = 3
 ·subst h3
  cases hn : decide (n = 0) <;> simp only [go_sem, simprocAttr, encOpd, rs, hn, e0, hN] <;> simp
 have d3 : decide (k = 3) = false := by simp [h3]
 by_cases h4 : k = 4
 ·subst h4
  cases hn : decide (n = 0) <;> simp only [go_sem, simprocAttr, encOpd, rs, hn, e0, hN] <;> simp
 have d4 : decide (k = 4) = false := by simp [h4]
 simp only [go_sem, simprocAttr, encOpd, rs, d0, d1, d2, d3, d4]
 simp
end Go.Proofs.YtghhkbigmmjanaaGreatDoor.VA

/-! Qp12 -/
namespace Go.Proofs.YtghhkbigmmjanaaGreatDoor.VA
open Go Go.RowKit
set_option linter.unusedSimpArgs false

/-! ### words' weight: their bytes, and a blank for each -/
def wt : List Wd → Nat
 | [] => 0
 | w :: ws => w.length + 1 + wt ws
theorem wt_app : ∀ (a b : List Wd), wt (a ++ b) = wt a + wt b
 | [], b => by simp [wt]
 | w :: a, b => by simp only [List.cons_append, wt, wt_app a b, Nat.add_assoc]
theorem wt_sum : ∀ (ws : List Wd), wt ws = (ws.map List.length).sum + ws.length
 | [] => rfl
 | w :: ws => by simp only [wt, wt_sum ws, List.map_cons, List.sum_cons, List.length_cons]; omega
def tkw (l : List GTok) (n : Nat) : Nat := wt ((l.take n).map GTok.text)
section
variable {l : List GTok} {en : Int} {s s' s'' : PS}
theorem tkw_adv {x : GTok} (h : tk l s = some x) : tkw l (s.at_ + 1) = tkw l s.at_ + (x.text.length + 1) := by
 obtain ⟨_, _, h3, h4⟩ := tk_some h
 have : l.take (s.at_ + 1) = l.take s.at_ ++ [x] := by
  rw [List.take_add_one, List.getElem?_eq_getElem h3]
  rw [List.getD_eq_getElem?_getD, List.getElem?_eq_getElem h3] at h4
  rw [← h4]; rfl
 rw [tkw, this, List.map_append, wt_app]
 rfl
/-- From one state to the next, where there is no fault: so much was written, at most twice what was read. -/
def Wl (l : List GTok) (s s' : PS) (k : Nat) : Prop := s'.ok = true → s.ok = true ∧ k + 2 * tkw l s.at_ ≤ 2 * tkw l s'.at_
theorem Wl.trans {k j : Nat} (h : Wl l s s' k) (h' : Wl l s' s'' j) : Wl l s s'' (k + j) := fun hk => by
 obtain ⟨a, b⟩ := h' hk
 obtain ⟨c, d⟩ := h a
 exact ⟨c, by omega⟩
theorem Wl.less {k j : Nat} (h : Wl l s s' k) (hj : j ≤ k) : Wl l s s' j := fun hk => by
 obtain ⟨c, d⟩ := h hk
 exact ⟨c, by omega⟩
theorem Wl.bad {k : Nat} (h : s'.ok = false) : Wl l s s' k := fun hk => by rw [h] at hk; cases hk
theorem adv_w {x : GTok} (h : tk l s = some x) : Wl l s s.adv (2 * (x.text.length + 1)) := fun hk => by
 refine ⟨hk, ?_⟩
 have := tkw_adv h
 show _ ≤ 2 * tkw l (s.at_ + 1)
 omega
theorem isT_w {t : Wd} (h : isT l s t = true) : Wl l s s.adv (2 * (t.length + 1)) := by
 obtain ⟨x, h1, _, h2, _⟩ := isT_some h
 have := adv_w h1
 rw [h2] at this
 exact this
theorem need_w (s : PS) (t : Wd) : Wl l s (need l en s t) (2 * (t.length + 1)) := by
 unfold need
 cases h : isT l s t with
 | true => exact isT_w h
 | false => exact .bad (pfail_bad _ _)
theorem nameP_w (s : PS) : Wl l s (nameP l en s).1 (2 * ((nameP l en s).2.length + 1)) := by
 unfold nameP
 cases hn : isName l s with
 | true =>
  obtain ⟨x, h1, _⟩ := isName_some hn
  simp only [text_tk h1]
  exact adv_w h1
 | false => exact .bad (pfail_bad _ _)
theorem operand_w (s : PS) : Wl l s (operand l en s).1 (2 * wt (wOpd (operand l en s).2)) := by
 unfold operand
 cases h1 : isT l s tNull with
 | true => exact isT_w h1
 | false =>
 cases h2 : isT l s tTrue with
 | true => exact isT_w h2
 | false =>
 cases h3 : isT l s tFalse with
 | true => exact isT_w h3
 | false =>
 cases h4 : isT l s [38] with
 | true => exact ((isT_w h4).trans (nameP_w _)).less (by show 2 * wt [[38], (nameP l en s.adv).2] ≤ _; simp only [wt, List.length_cons, List.length_nil]; omega)
 | false =>
 cases h5 : isNum l s with
 | true =>
  obtain ⟨x, k1, k2, k3⟩ := isNum_some h5
  simp only [text_tk k1]
  refine (adv_w k1).less ?_
  show 2 * wt [Lib.itoa ((numOf x.text : Nat) : Int)] ≤ _
  rw [itoa_nat]
  obtain ⟨k, e1, e2, _⟩ := right_tok (K := x.kind) (t := x.text) k2
  rcases e2 with ⟨rfl, _⟩ | ⟨rfl, b, t, ht, _, hs, hl⟩ | ⟨rfl, _⟩
  ·rw [k3] at e1; simp at e1
  ·have h3 := num_bound x.text 0 0 (span_full hs) (by simp)
   have hp : 0 < x.text.length := by rw [ht]; simp
   have h4 := dec_len (x.text.length - 1) (numOf x.text) (by
    rw [show x.text.length - 1 + 1 = x.text.length by omega]
    simpa [numOf] using h3)
   simp only [wt]
   omega
  ·rw [k3] at e1; simp at e1
 | false => exact (nameP_w s).less (by show 2 * wt [(nameP l en s).2] ≤ _; simp only [wt]; omega)
theorem listF_w {X : Type} {one : PS → X → PS × X} (len : X → Nat) (h1 : ∀ s x, (one s x).1.ok = true → s.ok = true ∧ len (one s x).2 + 2 * tkw l s.at_ ≤ 2 * tkw l (one s x).1.at_ + len x + 2) (end_ : Wd) :
  ∀ (n : Nat) (s : PS) (x : X), (listF l en one end_ n s x).1.ok = true → s.ok = true ∧ len (listF l en one end_ n s x).2 + 2 * tkw l s.at_ ≤ 2 * tkw l (listF l en one end_ n s x).1.at_ + len x
 | 0, s, x => fun h => ⟨h, by simp only [listF]; omega⟩
 | n + 1, s, x => by
  unfold listF
  cases hs : s.ok with
  | false => intro h; simp only at h; rw [hs] at h; cases h
  | true =>
   simp only
   cases he : isT l (one s x).1 end_ with
   | true =>
    intro hk
    obtain ⟨a, b⟩ := isT_w he hk
    obtain ⟨_, c⟩ := h1 s x a
    exact ⟨trivial, by simp only at *; omega⟩
   | false =>
    intro hk
    obtain ⟨a, b⟩ := listF_w len h1 end_ n _ _ hk
    obtain ⟨c, d⟩ := need_w _ _ a
    obtain ⟨_, e⟩ := h1 s x c
    exact ⟨trivial, by simp only [List.length_cons, List.length_nil] at *; omega⟩
theorem listP_w {X : Type} {one : PS → X → PS × X} (len : X → Nat) (h1 : ∀ s x, (one s x).1.ok = true → s.ok = true ∧ len (one s x).2 + 2 * tkw l s.at_ ≤ 2 * tkw l (one s x).1.at_ + len x + 2) (end_ : Wd)
  (s : PS) (x : X) (hx : len x = 0) : Wl l s (listP l en one end_ s x).1 (len (listP l en one end_ s x).2) := by
 unfold listP
 cases he : isT l s end_ with
 | true => exact (isT_w he).less (by simp only [hx]; omega)
 | false =>
  intro hk
  obtain ⟨a, b⟩ := listF_w len h1 end_ FN s x hk
  exact ⟨a, by simp only at *; omega⟩
def lenA : List Opd → Nat
 | [] => 0
 | o :: a => wt (wOpd o) + 2 + lenA a
theorem lenA_app : ∀ (a b : List Opd), lenA (a ++ b) = lenA a + lenA b
 | [], b => by simp [lenA]
 | w :: a, b => by simp only [List.cons_append, lenA, lenA_app a b, Nat.add_assoc]
def lenN : List Wd → Nat
 | [] => 0
 | w :: a => w.length + 3 + lenN a
theorem lenN_app : ∀ (a b : List Wd), lenN (a ++ b) = lenN a + lenN b
 | [], b => by simp [lenN]
 | w :: a, b => by simp only [List.cons_append, lenN, lenN_app a b, Nat.add_assoc]
theorem wt_args : ∀ (a : List Opd), wt (wSep (a.map wOpd)) ≤ lenA a
 | [] => Nat.le_refl _
 | [o] => by simp only [List.map_cons, List.map_nil, wSep, lenA]; omega
 | o :: p :: a => by
  have := wt_args (p :: a)
  simp only [List.map_cons, wSep, lenA, wt_app, wt, List.length_cons, List.length_nil] at this ⊢
  omega
theorem wt_names : ∀ (a : List Wd), wt (wSep (a.map fun w => [w])) ≤ lenN a
 | [] => Nat.le_refl _
 | [o] => by simp only [List.map_cons, List.map_nil, wSep, lenN, wt]; omega
 | o :: p :: a => by
  have := wt_names (p :: a)
  simp only [List.map_cons, wSep, lenN, wt_app, wt, List.length_cons, List.length_nil] at this ⊢
  omega
theorem wt_props : ∀ (ps : List Wd) (a : List Opd), wt (wSep ((ps.zip a).map wPair)) ≤ lenN ps + lenA a
 | [], a => by simp [wSep, wt]
 | p :: ps, [] => by simp [wSep, wt]
 | [p], o :: a => by simp only [List.zip_cons_cons, List.zip_nil_left, List.map_cons, List.map_nil, wSep, wPair, lenN, lenA, wt, List.length_cons, List.length_nil]; omega
 | p :: r :: ps, [o] => by simp only [List.zip_cons_cons, List.zip_nil_right, List.map_cons, List.map_nil, wSep, wPair, lenN, lenA, wt, List.length_cons, List.length_nil]; omega
 | p :: r :: ps, o :: q :: a => by
  have := wt_props (r :: ps) (q :: a)
  simp only [List.zip_cons_cons, List.map_cons, wSep, wPair, lenN, lenA, wt_app, wt, List.length_cons, List.length_nil] at this ⊢
  omega
theorem args_w (s : PS) : Wl l s (args l en s).1 (wt (wArgs (args l en s).2)) := by
 have h := (need_w (l := l) (en := en) s [40]).trans (listP_w (one := oneArg l en) (l := l) (en := en) lenA (fun s x hk => by
  simp only [oneArg] at hk ⊢
  obtain ⟨a, b⟩ := operand_w s hk
  refine ⟨a, ?_⟩
  rw [lenA_app]
  simp only [lenA]
  omega) [41] (need l en s [40]) [] rfl)
 refine h.less ?_
 show wt (wArgs (args l en s).2) ≤ 2 * (1 + 1) + lenA (args l en s).2
 generalize (args l en s).2 = a
 rw [wArgs_eq, wt, wt_app]
 have := wt_args a
 simp only [wt, List.length_cons, List.length_nil]
 omega
theorem names_w (s : PS) : Wl l s (names l en s).1 (wt ([40] :: (wSep ((names l en s).2.map fun w => [w]) ++ [[41]]))) := by
 have h := (need_w (l := l) (en := en) s [40]).trans (listP_w (one := oneName l en) (l := l) (en := en) lenN (fun s x hk => by
  simp only [oneName] at hk ⊢
  obtain ⟨a, b⟩ := nameP_w s hk
  refine ⟨a, ?_⟩
  rw [lenN_app]
  simp only [lenN]
  omega) [41] (need l en s [40]) [] rfl)
 refine h.less ?_
 show _ ≤ 2 * (1 + 1) + lenN (names l en s).2
 generalize (names l en s).2 = a
 rw [wt, wt_app]
 have := wt_names a
 simp only [wt, List.length_cons, List.length_nil]
 omega
def lenQ (q : List Wd × List Opd) : Nat := lenN q.1 + lenA q.2
theorem props_w (s : PS) : Wl l s (propsP l en s).1 (wt ([123] :: (wSep (((propsP l en s).2.1.zip (propsP l en s).2.2).map wPair) ++ [[125]]))) := by
 have h := (need_w (l := l) (en := en) s [123]).trans (listP_w (one := oneProp l en) (l := l) (en := en) lenQ (fun s x hk => by
  simp only [oneProp] at hk ⊢
  obtain ⟨a, b⟩ := operand_w _ hk
  obtain ⟨c, d⟩ := need_w _ _ a
  obtain ⟨e, f⟩ := nameP_w s c
  refine ⟨e, ?_⟩
  simp only [lenQ, lenA_app, lenN_app]
  simp only [lenA, lenN, List.length_cons, List.length_nil] at *
  omega) [125] (need l en s [123]) ([], []) rfl)
 refine h.less ?_
 show _ ≤ 2 * (1 + 1) + lenQ (propsP l en s).2
 obtain ⟨ps, a⟩ := (propsP l en s).2
 show wt ([123] :: (wSep ((ps.zip a).map wPair) ++ [[125]])) ≤ 2 * (1 + 1) + (lenN ps + lenA a)
 rw [wt, wt_app]
 have := wt_props ps a
 simp only [wt, List.length_cons, List.length_nil]
 omega
/-! ### statements -/
def In (l : List GTok) (s s' : PS) (A B : Nat) : Prop := s'.ok = true → s.ok = true ∧ A + 2 * tkw l s.at_ ≤ 2 * tkw l s'.at_ + B
theorem Wl.in_ {k A B : Nat} (h : Wl l s s' k) (hk : A ≤ k + B) : In l s s' A B := fun hh => by
 obtain ⟨a, b⟩ := h hh
 exact ⟨a, by omega⟩
theorem Wl.then_ {k A B A' B' : Nat} (h : Wl l s s' k) (h' : In l s' s'' A B) (hk : A' + B ≤ k + A + B') : In l s s'' A' B' := fun hh => by
 obtain ⟨a, b⟩ := h' hh
 obtain ⟨c, d⟩ := h a
 exact ⟨c, by omega⟩
theorem Wl.refl (s : PS) : Wl l s s 0 := fun h => ⟨h, by omega⟩
theorem rest_w {o : Opd} (x : Wd) : In l s (rest l en s o).1 (wt (wStmt ((rest l en s o).2.setX x))) (wt (wOpd o) + x.length + 5) := by
 unfold rest
 cases h1 : signOf l s arith with
 | some t =>
  refine ((isT_w (signOf_some h1).1).trans (operand_w _)).in_ ?_
  show wt (x :: [61] :: ((wOpd o ++ ([t] ++ wOpd (operand l en s.adv).2)) ++ [[59]])) ≤ _
  simp only [wt, wt_app, List.length_cons, List.length_nil]
  omega
 | none =>
  simp only
  cases h2 : decide (o.kind = 4) && isT l s [40] with
  | true =>
   simp only [Bool.and_eq_true, decide_eq_true_eq] at h2
   refine (args_w s).in_ ?_
   have hw : wOpd o = [o.name] := by rw [wOpd, h2.1]; rfl
   show wt (x :: [61] :: (([o.name] ++ wArgs (args l en s).2) ++ [[59]])) ≤ _
   rw [hw]
   simp only [wt, wt_app, List.length_cons, List.length_nil]
   omega
  | false =>
   simp only
   cases h3 : decide (o.kind = 4) && isT l s [46] with
   | true =>
    simp only [Bool.and_eq_true, decide_eq_true_eq] at h3
    refine ((isT_w h3.2).trans (nameP_w _)).in_ ?_
    have hw : wOpd o = [o.name] := by rw [wOpd, h3.1]; rfl
    show wt (x :: [61] :: ([o.name, [46], (nameP l en s.adv).2] ++ [[59]])) ≤ _
    rw [hw]
    simp only [wt, wt_app, List.length_cons, List.length_nil]
    omega
   | false =>
    refine (Wl.refl s).in_ ?_
    show wt (x :: [61] :: (wOpd o ++ [[59]])) ≤ _
    simp only [wt, wt_app, List.length_cons, List.length_nil]
    omega
theorem value_w (x : Wd) : In l s (value l en s).1 (wt (wStmt ((value l en s).2.setX x))) (x.length + 5) := by
 unfold value
 cases h1 : isT l s tIn with
 | true =>
  refine (isT_w h1).in_ ?_
  show wt (x :: [61] :: tIn :: [[59]]) ≤ _
  simp only [wt, tIn, List.length_cons, List.length_nil]
  omega
 | false =>
 cases h2 : isT l s tCall with
 | true =>
  refine ((isT_w h2).trans ((nameP_w _).trans (args_w _))).in_ ?_
  show wt (x :: [61] :: (([tCall, (nameP l en s.adv).2] ++ wArgs (args l en (nameP l en s.adv).1).2) ++ [[59]])) ≤ _
  simp only [wt, wt_app, List.length_cons, List.length_nil]
  omega
 | false =>
 cases h3 : isT l s tNew with
 | true =>
  intro hk
  have hk' : (protoP l en (propsP l en s.adv).1).1.ok = true := hk
  have hp : (propsP l en s.adv).1.ok = true := (protoP_lt (l := l) (en := en) _ hk').1
  obtain ⟨_, _, k3⟩ := props_right hp
  refine ((isT_w h3).trans ((props_w _).trans ((need_w _ _).trans (operand_w _)))).in_ ?_ hk
  show wt (wStmt (.mk 4 x [] [] ((propsP l en s.adv).2.2 ++ [(operand l en (need l en (propsP l en s.adv).1 tProto)).2]) (propsP l en s.adv).2.1 [] [])) ≤ _
  rw [words_new k3]
  simp only [wt, wt_app, List.length_cons, List.length_nil]
  omega
 | false =>
  show In l s (rest l en (operand l en s).1 (operand l en s).2).1 (wt (wStmt ((rest l en (operand l en s).1 (operand l en s).2).2.setX x))) _
  exact (operand_w s).then_ (rest_w (o := (operand l en s).2) x) (by omega)
theorem assign_w (s : PS) : In l s (assign l en s).1 (wt (wStmt (assign l en s).2)) 2 := by
 unfold assign
 cases h1 : isT l (nameP l en s).1 [46] with
 | true =>
  refine ((nameP_w _).trans ((isT_w h1).trans ((nameP_w _).trans ((need_w _ _).trans (operand_w _))))).in_ ?_
  show wt ((nameP l en s).2 :: [46] :: (nameP l en (nameP l en s).1.adv).2 :: [61] :: (wOpd _ ++ [[59]])) ≤ _
  simp only [wt, wt_app, List.length_cons, List.length_nil]
  omega
 | false =>
  show In l s (value l en (need l en (nameP l en s).1 [61])).1 (wt (wStmt ((value l en (need l en (nameP l en s).1 [61])).2.setX (nameP l en s).2))) 2
  exact ((nameP_w s).trans (need_w _ [61])).then_ (value_w (nameP l en s).2) (by simp only [List.length_cons, List.length_nil]; omega)
theorem simple_w (s : PS) : In l s (simple l en s).1 (wt (wStmt (simple l en s).2)) 2 := by
 unfold simple
 cases h1 : isT l s tOut with
 | true =>
  refine ((isT_w h1).trans (operand_w _)).in_ ?_
  show wt (tOut :: (wOpd _ ++ [[59]])) ≤ _
  simp only [wt, wt_app, List.length_cons, List.length_nil]
  omega
 | false =>
 cases h2 : isT l s tReturn with
 | true =>
  refine ((isT_w h2).trans (operand_w _)).in_ ?_
  show wt (tReturn :: (wOpd _ ++ [[59]])) ≤ _
  simp only [wt, wt_app, List.length_cons, List.length_nil]
  omega
 | false => exact assign_w s
theorem wt_blk (L : List GStmt) : wt (wBlk L) = wt (wStmts L) + 4 := by
 show wt ([123] :: (wStmts L ++ [[125]])) = _
 simp only [wt, wt_app, List.length_cons, List.length_nil]
 omega
theorem wt_else (L : List GStmt) : wt (wElse L) ≤ wt (wBlk L) + 5 := by
 cases L with
 | nil => simp [wElse, wt]
 | cons g L =>
  show wt (tElse :: wBlk (g :: L)) ≤ _
  simp only [wt, tElse, List.length_cons, List.length_nil]
  omega
theorem blocks_w : ∀ (n : Nat),
  (∀ s deep, Wl l s (stmtF l en n s deep).1 (wt (wStmt (stmtF l en n s deep).2))) ∧
  (∀ s deep, Wl l s (blockF l en n s deep).1 (wt (wBlk (blockF l en n s deep).2))) ∧
  (∀ s deep acc, In l s (bodyF l en n s deep acc).1 (wt (wStmts (bodyF l en n s deep acc).2) + 2) (wt (wStmts acc))) := by
 intro n
 induction n with
 | zero =>
  refine ⟨fun s deep => ?_, fun s deep => ?_, fun s deep acc => ?_⟩
  ·unfold stmtF; exact .bad (pfail_bad _ _)
  ·unfold blockF; exact .bad (pfail_bad _ _)
  ·unfold bodyF; exact Wl.in_ (k := wt (wStmts acc) + 2) (.bad (pfail_bad _ _)) (by simp only; omega)
 | succ n ih =>
  obtain ⟨ih1, ih2, ih3⟩ := ih
  refine ⟨fun s deep => ?_, fun s deep => ?_, fun s deep acc => ?_⟩
  ·unfold stmtF
   cases starts l s with
   | false => exact .bad (pfail_bad _ _)
   | true =>
   cases decide (2000 ≤ s.cnt) with
   | true => exact .bad (pfail_bad _ _)
   | false =>
   cases h1 : isT l s tIf with
   | true =>
    have a : Wl l s s.count.adv (2 * (tIf.length + 1)) := isT_w (s := s.count) h1
    have h2 := a.trans ((operand_w (l := l) (en := en) s.count.adv).trans (ih2 (operand l en s.count.adv).1 deep))
    simp only
    cases h3 : isT l (blockF l en n (operand l en s.count.adv).1 deep).1 tElse with
    | true =>
     refine (h2.trans ((isT_w h3).trans (ih2 _ _))).less ?_
     rw [wStmt_if]
     show wt (tIf :: (wOpd _ ++ (wBlk _ ++ wElse _))) ≤ _
     have := wt_else (blockF l en n (blockF l en n (operand l en s.count.adv).1 deep).1.adv deep).2
     simp only [wt, wt_app, tIf, tElse, List.length_cons, List.length_nil] at *
     omega
    | false =>
     refine h2.less ?_
     rw [wStmt_if]
     show wt (tIf :: (wOpd _ ++ (wBlk _ ++ []))) ≤ _
     simp only [wt, wt_app, tIf, List.length_cons, List.length_nil] at *
     omega
   | false =>
   cases h2 : isT l s tWhile with
   | true =>
    have a : Wl l s s.count.adv (2 * (tWhile.length + 1)) := isT_w (s := s.count) h2
    refine (a.trans ((operand_w (l := l) (en := en) s.count.adv).trans (ih2 (operand l en s.count.adv).1 deep))).less ?_
    rw [wStmt_while]
    show wt (tWhile :: (wOpd _ ++ wBlk _)) ≤ _
    simp only [wt, wt_app, tWhile, List.length_cons, List.length_nil] at *
    omega
   | false =>
    simp only [semi]
    intro hk
    obtain ⟨a, b⟩ := need_w _ _ hk
    obtain ⟨c, d⟩ := simple_w s.count a
    refine ⟨c, ?_⟩
    simp only [List.length_cons, List.length_nil] at b
    have e : tkw l s.count.at_ = tkw l s.at_ := rfl
    omega
  ·unfold blockF
   cases isT l s [123] && decide (32 ≤ deep) with
   | true => exact .bad (pfail_bad _ _)
   | false =>
    simp only
    intro hk
    obtain ⟨a, b⟩ := ih3 _ _ _ hk
    obtain ⟨c, d⟩ := need_w _ _ a
    refine ⟨c, ?_⟩
    rw [wt_blk]
    simp only [List.length_cons, List.length_nil, wStmts, wt] at b d
    omega
  ·unfold bodyF
   cases s.ok && !isT l s [125] with
   | true =>
    simp only
    intro hk
    obtain ⟨a, b⟩ := ih3 _ _ _ hk
    obtain ⟨c, d⟩ := ih1 _ _ a
    refine ⟨c, ?_⟩
    rw [wStmts_app, wt_app] at b
    simp only [wStmts, List.append_nil] at b
    omega
   | false =>
    refine (need_w _ _).in_ ?_
    simp only [List.length_cons, List.length_nil]
    omega
theorem func_w (s : PS) : Wl l s (funcP l en s).1 (wt (wFunc (funcP l en s).2)) := by
 simp only [funcP]
 refine ((need_w s tFun).trans ((nameP_w _).trans ((names_w _).trans ((blocks_w (l := l) (en := en) FN).2.1 _ 0)))).less ?_
 simp only [wFunc, wPars_eq]
 simp only [List.cons_append, List.nil_append, wt, wt_app, List.length_cons, List.length_nil]
 omega
theorem wProg_app : ∀ (a b : List GFunc), wProg (a ++ b) = wProg a ++ wProg b
 | [], b => rfl
 | f :: a, b => by simp only [List.cons_append, wProg, wProg_app a b, List.append_assoc]
theorem prog_w : ∀ (n : Nat) (s : PS) (acc : List GFunc), In l s (progF l en n s acc).1 (wt (wProg (progF l en n s acc).2)) (wt (wProg acc))
 | 0, s, acc => (Wl.refl s).in_ (by simp only [progF]; omega)
 | n + 1, s, acc => by
  unfold progF
  cases h1 : s.ok && decide (s.at_ < l.length) with
  | false => exact (Wl.refl s).in_ (by simp only; omega)
  | true =>
   refine (func_w s).then_ (prog_w n _ _) ?_
   rw [wProg_app, wt_app]
   simp only [wProg, List.append_nil]
   omega
theorem wt_take (n : Nat) (L : List Wd) : wt (L.take n) ≤ wt L := by
 have h := congrArg wt (List.take_append_drop n L)
 rw [wt_app] at h
 omega
theorem read_w (h : (readP l en).2.1 = 0) : wt (wProg (readP l en).1) ≤ 2 * wt (l.map GTok.text) := by
 unfold readP at h ⊢
 cases hf : (progF l en FN ⟨0, 0, none⟩ []).1.f with
 | some q =>
  obtain ⟨c, a⟩ := q
  rw [hf] at h
  simp at h
 | none =>
  obtain ⟨_, h2⟩ := prog_w (l := l) (en := en) FN ⟨0, 0, none⟩ [] (by simp [PS.ok, hf])
  have h3 := wt_take (progF l en FN ⟨0, 0, none⟩ []).1.at_ (l.map GTok.text)
  rw [← List.map_take] at h3
  simp only [tkw, wProg, wt, List.take_zero, List.map_nil] at h2
  simp only
  omega
end
theorem lexF_w : ∀ (n : Nat) (l : List UInt8) (a : Nat) (ts : List Tok), lexF n l a = .ok ts → wt (ts.map Tok.text) ≤ 2 * l.length := by
 intro n
 induction n with
 | zero => intro l a ts h; simp [lexF] at h
 | succ n ih =>
  intro l a ts h
  cases l with
  | nil => simp [lexF] at h; subst h; simp [wt]
  | cons b l =>
   have pre : ∀ (x : Tok) (r : LexR) (ts : List Tok), LexR.pre [x] r = .ok ts → ∃ ts', r = .ok ts' ∧ wt (ts.map Tok.text) = x.text.length + 1 + wt (ts'.map Tok.text) := by
    intro x r ts h
    cases r with
    | ok l => simp [LexR.pre] at h; subst h; exact ⟨l, rfl, by simp [wt]⟩
    | err a => simp [LexR.pre] at h
   simp only [lexF] at h
   split at h
   ·have := ih _ _ _ h; simp; omega
   ·have := ih _ _ _ h; simp at this ⊢; omega
   ·rename_i hc
    obtain ⟨ts', h1, h2⟩ := pre _ _ _ h
    have := ih _ _ _ h1
    have hp := span_pos (cls3 hc) (l := l)
    have hle := span_le inWord (b :: l)
    simp only [List.length_take, List.length_drop, List.length_cons] at this h2 hle ⊢
    omega
   ·rename_i hc
    split at h
    ·obtain ⟨ts', h1, h2⟩ := pre _ _ _ h
     have := ih _ _ _ h1
     have hp := span_pos (cls4 hc) (l := l)
     have hle := span_le isDigit (b :: l)
     simp only [List.length_take, List.length_drop, List.length_cons] at this h2 hle ⊢
     omega
    ·cases h
   ·obtain ⟨ts', h1, h2⟩ := pre _ _ _ h
    have := ih _ _ _ h1
    simp at h2 ⊢; omega
   ·cases h
theorem wt_joined (ws : List Wd) (h : ws ≠ []) : (joined [32] ws).length + 1 = wt ws := by
 rw [joined_len, wt_sum]
 cases ws with
 | nil => exact absurd rfl h
 | cons w ws => simp only [List.length_cons]; omega
theorem spelt_wt : ∀ (fs : List GFunc), (spelt fs).length = wt (wProg fs)
 | [] => rfl
 | f :: fs => by
  have h := wt_joined (wFunc f) (by simp [wFunc])
  simp only [spelt, speltF, wProg, wt_app, List.length_append, List.length_cons, List.length_nil, spelt_wt fs]
  omega
/-- What is parsed is printed at most four times as long. -/
theorem parse_short {s : List UInt8} (h : (parseP s).2.1 = 0) : (spelt (parseP s).1).length ≤ 4 * s.length := by
 rw [spelt_wt]
 obtain ⟨_, _, hs⟩ := parse_right h
 have e : lexAns s = match lexL s 0 with | .ok ts => (ts, 0, 0) | .err a => ([], 10, a) := by unfold lexAns; rw [if_neg (by omega)]; rfl
 cases hl : lexL s 0 with
 | err a =>
  exfalso
  rw [hl] at e
  unfold parseP at h
  rw [e] at h
  cases h
 | ok ts =>
  rw [hl] at e
  have hp : parseP s = readP (ts.map Tok.g) s.length := by unfold parseP; rw [e]; rfl
  rw [hp] at h ⊢
  have h1 := read_w h
  have h2 := lexF_w _ _ _ _ hl
  have h3 : (ts.map Tok.g).map GTok.text = ts.map Tok.text := by simp [Tok.g, Function.comp_def]
  rw [h3] at h1
  omega
end Go.Proofs.YtghhkbigmmjanaaGreatDoor.VA

/-! Qp13 -/
namespace Go.Proofs.YtghhkbigmmjanaaGreatDoor.VA
open Go Go.RowKit
set_option linter.unusedSimpArgs false

/-! ### words, each with a blank behind it -/
def layW : List Wd → Wd
 | [] => []
 | w :: ws => w ++ 32 :: layW ws
theorem layW_app : ∀ (a b : List Wd), layW (a ++ b) = layW a ++ layW b
 | [], b => rfl
 | w :: a, b => by simp only [List.cons_append, layW, layW_app a b, List.append_assoc]
theorem joined_one (w : Wd) : joined [32] [w] = w := by rw [joined, Lib.join_cons]; simp [Lib.joinTail]
theorem joined_two (w v : Wd) (ws : List Wd) : joined [32] (w :: v :: ws) = w ++ 32 :: joined [32] (v :: ws) := by
 rw [joined, joined, Lib.join_cons, Lib.join_cons]; simp [Lib.joinTail]
theorem joined_last : ∀ (ws : List Wd) (w : Wd), joined [32] (ws ++ [w]) = layW ws ++ w
 | [], w => joined_one w
 | [v], w => by simp only [List.cons_append, List.nil_append, joined_two, joined_one, layW, List.append_assoc]
 | v :: u :: ws, w => by
  have := joined_last (u :: ws) w
  simp only [List.cons_append] at this ⊢
  rw [joined_two, this]
  simp only [layW, List.append_assoc, List.cons_append]
theorem joined_layW {ws : List Wd} (h : ws ≠ []) : joined [32] ws ++ [32] = layW ws := by
 obtain ⟨vs, w, rfl⟩ : ∃ vs w, ws = vs ++ [w] := ⟨ws.dropLast, ws.getLast h, (List.dropLast_concat_getLast h).symm⟩
 rw [joined_last, layW_app]
 simp only [layW, List.append_assoc]
theorem joined_app {a b : List Wd} (hb : b ≠ []) : joined [32] (a ++ b) = layW a ++ joined [32] b := by
 obtain ⟨vs, w, rfl⟩ : ∃ vs w, b = vs ++ [w] := ⟨b.dropLast, b.getLast hb, (List.dropLast_concat_getLast hb).symm⟩
 rw [← List.append_assoc, joined_last, joined_last, layW_app, List.append_assoc]
theorem layW_len : ∀ (ws : List Wd), (layW ws).length = wt ws
 | [] => rfl
 | w :: ws => by simp only [layW, wt, List.length_append, List.length_cons, layW_len ws]; omega
/-! ### lines -/
def clean (w : Wd) : Prop := w ≠ [] ∧ ∀ b ∈ w, b ≠ 32 ∧ b ≠ 10
theorem clean_of {w : Wd} (h : wordOk w) : clean w := by
 obtain ⟨k, h, _⟩ := h
 have in1 : ∀ b : UInt8, inWord b.toNat = true → b ≠ 32 ∧ b ≠ 10 := by
  intro b hb
  refine ⟨?_, ?_⟩ <;> (rintro rfl; revert hb; decide)
 have in2 : ∀ b : UInt8, isDigit b.toNat = true → b ≠ 32 ∧ b ≠ 10 := by
  intro b hb
  refine ⟨?_, ?_⟩ <;> (rintro rfl; revert hb; decide)
 rcases h with ⟨_, b, l, rfl, _, hs⟩ | ⟨_, b, l, rfl, _, hs, _⟩ | ⟨_, b, rfl, hc⟩
 ·exact ⟨by simp, fun c hc => in1 c (List.all_eq_true.1 (span_full hs) c hc)⟩
 ·exact ⟨by simp, fun c hc => in2 c (List.all_eq_true.1 (span_full hs) c hc)⟩
 ·refine ⟨by simp, fun c hcc => ?_⟩
  rw [List.mem_singleton] at hcc
  subst hcc
  refine ⟨?_, ?_⟩ <;> (rintro rfl; revert hc; decide)
/-- No blank at a line's end, nor two together. -/
def nice : Wd → Prop
 | [] => True
 | a :: l => (a = 32 → l.head? ≠ some 32 ∧ l.head? ≠ some 10) ∧ nice l
theorem nice_get : ∀ {s : Wd}, nice s → ∀ {i : Nat}, s[i]? = some 32 → s[i + 1]? ≠ some 32 ∧ s[i + 1]? ≠ some 10
 | [], _, i, h => by simp at h
 | a :: l, hn, 0, h => by
  simp only [List.getElem?_cons_zero, Option.some.injEq] at h
  have := hn.1 h
  rw [List.head?_eq_getElem?] at this
  simpa using this
 | a :: l, hn, i + 1, h => by
  have := nice_get hn.2 (i := i) (by simpa using h)
  simpa using this
theorem nice_word : ∀ {w : Wd} {r : Wd}, (∀ b ∈ w, b ≠ 32 ∧ b ≠ 10) → nice r → nice (w ++ r)
 | [], r, _, h => h
 | a :: w, r, hw, h => ⟨fun e => absurd e (hw a (by simp)).1, nice_word (fun b hb => hw b (by simp [hb])) h⟩
theorem nice_line : ∀ {ws : List Wd} {r : Wd}, ws ≠ [] → (∀ w ∈ ws, clean w) → nice r → nice (joined [32] ws ++ 10 :: r)
 | [], r, h, _, _ => absurd rfl h
 | [w], r, _, hw, hr => by
  rw [joined_one]
  exact nice_word (hw w (by simp)).2 ⟨fun e => absurd e (by decide), hr⟩
 | w :: v :: ws, r, _, hw, hr => by
  rw [joined_two, List.append_assoc, List.cons_append]
  have ih := nice_line (ws := v :: ws) (by simp) (fun u hu => hw u (by simp [hu])) hr
  refine nice_word (hw w (by simp)).2 ⟨fun _ => ?_, ih⟩
  obtain ⟨b, t, hb⟩ : ∃ b t, v = b :: t := by
   cases v with
   | nil => exact absurd rfl (hw [] (by simp)).1
   | cons b t => exact ⟨b, t, rfl⟩
  have hc := (hw v (by simp)).2 b (by simp [hb])
  have hh : (joined [32] (v :: ws) ++ 10 :: r).head? = some b := by
   subst hb
   cases ws with
   | nil => rw [joined_one]; rfl
   | cons u us => rw [joined_two]; rfl
  rw [hh]
  simpa using hc
def nls (s : Wd) : Nat := (s.filter (fun b => decide (b = 10))).length
theorem nls_app (a b : Wd) : nls (a ++ b) = nls a + nls b := by simp [nls]
theorem nls_word {w : Wd} (h : ∀ b ∈ w, b ≠ 32 ∧ b ≠ 10) : nls w = 0 := by
 rw [nls, List.length_eq_zero_iff, List.filter_eq_nil_iff]
 intro b hb
 simp [(h b hb).2]
theorem nls_joined : ∀ {ws : List Wd}, (∀ w ∈ ws, clean w) → nls (joined [32] ws) = 0
 | [], _ => rfl
 | [w], h => by rw [joined_one]; exact nls_word (h w (by simp)).2
 | w :: v :: ws, h => by
  have ih := nls_joined (ws := v :: ws) (fun u hu => h u (by simp [hu]))
  have h1 := nls_word (h w (by simp)).2
  rw [joined_two, show w ++ 32 :: joined [32] (v :: ws) = w ++ ([32] ++ joined [32] (v :: ws)) from rfl, nls_app, nls_app, ih, h1]
  rfl
theorem spelt_nice : ∀ {fs : List GFunc}, rightP fs = true → nice (spelt fs) ∧ nls (spelt fs) = fs.length
 | [], _ => ⟨trivial, rfl⟩
 | f :: fs, h => by
  simp only [rightP, List.all_cons, Bool.and_eq_true] at h
  obtain ⟨k1, k2⟩ := spelt_nice (fs := fs) h.2
  have hc : ∀ w ∈ wFunc f, clean w := fun w hw => clean_of (func_ok h.1 w hw)
  have he : spelt (f :: fs) = joined [32] (wFunc f) ++ 10 :: spelt fs := by simp [spelt, speltF]
  have he2 : spelt (f :: fs) = joined [32] (wFunc f) ++ ([10] ++ spelt fs) := by simp [spelt, speltF]
  refine ⟨by rw [he]; exact nice_line (by simp [wFunc]) hc k1, ?_⟩
  rw [he2, nls_app, nls_app, nls_joined hc, k2]
  simp [nls]
  omega
theorem spelt_last : ∀ {fs : List GFunc}, fs ≠ [] → ∃ s, spelt fs = s ++ [10]
 | [], h => absurd rfl h
 | [f], _ => ⟨joined [32] (wFunc f), by simp [spelt, speltF]⟩
 | f :: g :: fs, _ => by
  obtain ⟨s, hs⟩ := spelt_last (fs := g :: fs) (by simp)
  exact ⟨speltF f ++ s, by rw [spelt, hs, List.append_assoc]⟩
theorem wStmt_ne (g : GStmt) : wStmt g ≠ [] := by
 obtain ⟨op, x, y, p, a, ps, th, el⟩ := g
 unfold wStmt
 repeat' split
 all_goals simp
/-- The first function's text has its statements' texts in it. -/
theorem speltF_layW (nm : Wd) (bd : List GStmt) : speltF ⟨nm, [], bd⟩ = layW ([tFun, nm, [40], [41], [123]] ++ wStmts bd) ++ [125, 10] := by
 have e : wFunc ⟨nm, [], bd⟩ = ([tFun, nm, [40], [41], [123]] ++ wStmts bd) ++ [[125]] := by simp [wFunc, wList, wBlk]
 rw [speltF, e, joined_last]
 simp
/-- A statement by itself may be printed where its program may be. -/
theorem may_stmt {f : GFunc} {fs : List GFunc} (hf : f.name ≠ []) {g : GStmt} (hg : g ∈ f.body) (h : mayR (f :: fs) = true) : mayR (wd1 g) = true := by
 simp only [mayR, rightP, Bool.and_eq_true, decide_eq_true_eq, List.all_cons] at h
 obtain ⟨⟨h1, _⟩, h2, h3⟩ := h
 obtain ⟨l, r, hb⟩ := List.append_of_mem hg
 obtain ⟨nm, ps, bd⟩ := f
 simp only at hb hf
 subst hb
 have hr : rightS g 31 = true := by
  simp only [rightF, Bool.and_eq_true] at h1
  exact rightL_all h1.2.1 g (by simp)
 have hw : wt (wFunc ⟨[102], [], [g]⟩) ≤ wt (wFunc ⟨nm, ps, l ++ g :: r⟩) := by
  have hn : 1 ≤ nm.length := by cases nm with | nil => exact absurd rfl hf | cons b t => simp
  simp only [wFunc, wBlk, wStmts_app, wStmts, wt_app, wt, List.length_cons, List.length_nil]
  simp only [wList, wt]
  omega
 have hc : cntL [g] ≤ cntL (l ++ g :: r) := by
  simp only [cntL_app, cntL]
  omega
 have hn : nameW [102] = true := by decide
 have k1 : rightP (wd1 g) = true := by simp only [rightP, wd1, List.all_cons, List.all_nil, rightF, rightL, hr, hn, Bool.and_self]
 have k2 : cntP (wd1 g) = cntL [g] + 0 := rfl
 have k3 : (spelt (wd1 g)).length = wt (wFunc ⟨[102], [], [g]⟩) := by rw [spelt_wt]; simp only [wProg, wd1, List.append_nil]
 rw [spelt_wt] at h3
 simp only [wProg, wt_app, cntP] at h2 h3
 rw [mayR, k1, Bool.true_and, Bool.and_eq_true, decide_eq_true_eq, decide_eq_true_eq]
 omega
end Go.Proofs.YtghhkbigmmjanaaGreatDoor.VA

/-! Qc0 -/
namespace Go.Proofs.YtghhkbigmmjanaaGreatDoor.VA
open Go Go.RowKit
set_option linter.unusedSimpArgs false
set_option maxRecDepth 100000

theorem cat_ex (a b : Wd) (h : a.length + b.length ≤ 9223372036854775807) : ∃ c : Wd, c = a ++ b ∧ c.length = a.length + b.length ∧ aStr .add (ba a) (ba b) = some (.lit (.string (ba c))) :=
 ⟨a ++ b, rfl, List.length_append, cat_ba a b h⟩
theorem layW_stmt (s : GStmt) : layW (wStmt s) = joined [32] (wStmt s) ++ [32] := (joined_layW (wStmt_ne s)).symm
theorem speltF_len (f : GFunc) : (speltF f).length = wt (wFunc f) := by
 have h := wt_joined (wFunc f) (by simp [wFunc])
 simp only [speltF, List.length_append, List.length_cons, List.length_nil]
 omega
theorem wt_func (nm : Wd) (ps : List Wd) (bd : List GStmt) : wt (wFunc ⟨nm, ps, bd⟩) = nm.length + 7 + wt (wList (wPar ps) ps.length) + 2 + wt (wBlk bd) := by
 simp only [wFunc, wt_app, wt, tFun, List.length_cons, List.length_nil]
 omega
/-- What the document answers. -/
def progR (fs : List GFunc) : Wd := if mayR fs then spelt fs else []
def stmtR (s : GStmt) : Wd := if mayR (wd1 s) then joined [32] (wStmt s) else []
end Go.Proofs.YtghhkbigmmjanaaGreatDoor.VA

/-! Qc3 -/
namespace Go.Proofs.YtghhkbigmmjanaaGreatDoor.VA
open Go Go.RowKit
attribute [local go_sem] Nat.add_eq_left Nat.left_eq_add true_and and_true ite_true if_false Int.cast_ofNat_Int eq_self Nat.add_assoc Option.some.injEq decide_true decide_false Bool.not_true Bool.not_false List.size_toArray List.length_cons List.length_nil
set_option linter.unusedSimpArgs false
set_option maxRecDepth 100000

/-- How many statements there are in statements' blocks. -/
def inn : List GStmt → Nat
 | [] => 0
 | s :: l => (cntL s.th + cntL s.el) + inn l
theorem inn_app : ∀ (a b : List GStmt), inn (a ++ b) = inn a + inn b
 | [], b => by simp [inn]
 | s :: a, b => by simp only [List.cons_append, inn, inn_app a b, Nat.add_assoc]
theorem cnt_inn : ∀ (l : List GStmt), cntL l = l.length + inn l
 | [] => rfl
 | .mk _ _ _ _ _ _ th el :: l => by
  simp only [cntL, cntS, inn, GStmt.th, GStmt.el, List.length_cons, cnt_inn l]
  omega
def RCt (l : List GStmt) : Prop := cntL l ≤ SZ → ∀ (o : Own) H, calls Tryz.prog cfg 38 [.sl o (l.map encStmt)] H = some (.ret (.lit (.int .i64 (cntL l : Nat))) H)
set_option maxRecDepth 20000 in
theorem rct_of (l : List GStmt) (hall : ∀ s ∈ l, RCt s.th ∧ RCt s.el) : RCt l := by
 intro hz o H
 unfold SZ at hz
 have hci := cnt_inn l
 refine calls_pure (fn := Tryz.f38) rfl rfl rfl rfl rfl ?_ H
 have rs : Tryz.f38.results.toList = [.tmp 2] := rfl
 generalize hR : cntL l = R
 simp only [go_sem, simprocAttr, List.length_map]
 refine W_loop_ind (fun k e H => ∃ i : Nat, k = l.length - i ∧ i ≤ l.length ∧ gget .bad e 0 = .sl .sh (l.map encStmt) ∧ gget .bad e 3 = .lit (.int .i64 ((l.length + inn (l.take i) : Nat) : Int)) ∧ gget .bad e 4 = .lit (.int .i64 (i : Nat)))
  l.length ⟨0, rfl, by omega, by simp only [go_sem, simprocAttr], by simp only [go_sem, simprocAttr, List.take_zero, inn, Nat.add_zero], by simp only [go_sem, simprocAttr] <;> rfl⟩ ?_
 rintro k ihk e H ⟨i, rfl, hle, h0, h3, h4⟩
 by_cases hlt : i < l.length
 ·have hlt' : decide ((i : Int) < (l.length : Nat)) = true := by rw [decide_eq_true_eq]; omega
  have ha := iad_encStmt (t := 40) (bs := 152) (o := .sh) hlt
  have hx : l.getD i noStmt ∈ l := by rw [List.getD_eq_getElem?_getD, List.getElem?_eq_getElem hlt]; exact List.getElem_mem hlt
  obtain ⟨a1, a2⟩ := hall _ hx
  have htk := take_succ' noStmt hlt
  have hsp : inn l = inn (l.take (i + 1)) + inn (l.drop (i + 1)) := by rw [← inn_app, List.take_append_drop]
  rw [htk, inn_app] at hsp
  have hin : inn (l.take (i + 1)) = inn (l.take i) + (cntL (l.getD i noStmt).th + cntL (l.getD i noStmt).el) := by rw [htk, inn_app]; simp only [inn, Nat.add_zero]
  generalize l.getD i noStmt = s at *
  obtain ⟨op, x, y, p, a, ps, th, el⟩ := s
  simp only [GStmt.th, GStmt.el, inn] at *
  have c1 := fun o H => a1 (by unfold SZ; omega) o H
  have c2 := fun o H => a2 (by unfold SZ; omega) o H
  have hw1 := wrap1 (show i + 1 ≤ 9223372036854775807 by omega)
  have w2 := wrapN (show cntL th + cntL el ≤ 9223372036854775807 by omega)
  have w3 := wrapN (show (l.length + inn (l.take i)) + (cntL th + cntL el) ≤ 9223372036854775807 by omega)
  have w4 : l.length + inn (l.take (i + 1)) = (l.length + inn (l.take i)) + (cntL th + cntL el) := by omega
  simp only [encStmt_mk] at ha
  generalize l.length + inn (l.take i) = Q at *
  generalize cntL th = T at *
  generalize cntL el = E at *
  simp only [go_sem, simprocAttr, h0, h3, h4, List.length_map, hlt', ha]
  refine W_draw [(5, 11), (6, 11)] (by kernel_rfl) ?_
  simp only [go_sem, simprocAttr, h0, h3, h4, List.length_map, ha, c1, c2, w2, w3, hw1]
  exact ihk _ (by omega) _ _ ⟨i + 1, rfl, by omega, by simp only [go_sem, simprocAttr, h0], by simp only [go_sem, simprocAttr, w4], by simp only [go_sem, simprocAttr]⟩
 ·obtain rfl : i = l.length := by omega
  have hlt' : decide (((l.length : Nat) : Int) < (l.length : Nat)) = false := by simp
  rw [List.take_length, ← hci, hR] at h3
  simp only [go_sem, simprocAttr, h0, h3, h4, List.length_map, hlt', rs]
mutual
theorem c_rCtS : ∀ (s : GStmt), RCt s.th ∧ RCt s.el
 | .mk _ _ _ _ _ _ th el => ⟨rct_of th (c_rCtL th), rct_of el (c_rCtL el)⟩
theorem c_rCtL : ∀ (l : List GStmt), ∀ s ∈ l, RCt s.th ∧ RCt s.el
 | [], s, hs => by cases hs
 | g :: l, s, hs => by
  rcases List.mem_cons.1 hs with h1 | hs
  ·rw [h1]; exact c_rCtS g
  ·exact c_rCtL l s hs
end
theorem c_rCount (l : List GStmt) : RCt l := rct_of l (c_rCtL l)
set_option maxRecDepth 20000 in
theorem c_rDeep : ∀ (m : Nat), m ≤ 1000 → ∀ (l : List GStmt), fitSs l = true → l.length ≤ BIG → ∀ (o : Own) (H : Heap), calls Tryz.prog cfg 37 [.sl o (l.map encStmt), .lit (.int .i64 (m : Nat))] H = some (.ret (.lit (.int .i64 (dep m l : Nat))) H) := by
 intro m
 induction m with
 | zero =>
  intro _ l hf hlen o H
  unfold BIG at hlen
  refine calls_pure (fn := Tryz.f37) rfl rfl rfl rfl rfl ?_ H
  have rs : Tryz.f37.results.toList = [.tmp 4] := rfl
  simp only [go_sem, simprocAttr, List.length_map]
  rw [W_loop]
  by_cases hl : 0 < l.length
  ·have d1 : decide ((0 : Int) < (l.length : Nat)) = true := by rw [decide_eq_true_eq]; omega
   simp only [go_sem, simprocAttr, List.length_map, d1, rs, dep]
  ·have d1 : decide ((0 : Int) < (l.length : Nat)) = false := by rw [decide_eq_false_iff_not]; omega
   simp only [go_sem, simprocAttr, List.length_map, d1, rs, dep]
 | succ m ih =>
  intro hm l hf hlen o H
  unfold BIG at hlen
  refine calls_pure (fn := Tryz.f37) rfl rfl rfl rfl rfl ?_ H
  have rs : Tryz.f37.results.toList = [.tmp 4] := rfl
  have hmp : decide ((0 : Int) < ((m + 1 : Nat) : Int)) = true := by rw [decide_eq_true_eq]; omega
  have hms : IntKind.wrap .i64 (((m + 1 : Nat) : Int) - 1) = (m : Nat) := by rw [wrap64 (by omega) (by omega)]; omega
  generalize hR : dep (m + 1) l = R
  unfold dep at hR
  generalize hM : ((m + 1 : Nat) : Int) = M at *
  simp only [go_sem, simprocAttr, List.length_map]
  refine W_loop_ind (fun k e H => ∃ i d : Nat, k = l.length - i ∧ i ≤ l.length ∧ d ≤ m + 1 ∧ (l.drop i).foldl (fun d s => max d (max (1 + dep m s.th) (1 + dep m s.el))) d = R ∧ gget .bad e 0 = .sl .sh (l.map encStmt) ∧ gget .bad e 1 = .lit (.int .i64 M) ∧ gget .bad e 5 = .lit (.int .i64 (d : Nat)) ∧ gget .bad e 6 = .lit (.int .i64 (i : Nat)))
   l.length ⟨0, 0, rfl, by omega, by omega, hR, by simp only [go_sem, simprocAttr] <;> rfl, by simp only [go_sem, simprocAttr] <;> rfl, by simp only [go_sem, simprocAttr] <;> rfl, by simp only [go_sem, simprocAttr] <;> rfl⟩ ?_
  rintro k ihk e H ⟨i, d, rfl, hle, hd, hR, h0, h1, h5, h6⟩
  by_cases hlt : i < l.length
  ·have hlt' : decide ((i : Int) < (l.length : Nat)) = true := by simp; omega
   have ha := iad_encStmt (t := 40) (bs := 152) (o := .sh) hlt
   rw [foldl_dep m l hlt] at hR
   have hfx : fitS (l.getD i noStmt) = true := by
    rw [fitSs_all, List.all_eq_true] at hf
    exact hf _ (by rw [List.getD_eq_getElem?_getD, List.getElem?_eq_getElem hlt]; exact List.getElem_mem hlt)
   generalize l.getD i noStmt = x at ha hR hfx
   obtain ⟨op, x, y, p, a, ps, th, el⟩ := x
   simp only [fitS, Bool.and_eq_true, decide_eq_true_eq] at hfx
   simp only [encStmt_mk] at ha
   simp only [GStmt.th, GStmt.el] at hR
   have hw1 := wrap1 (show i + 1 ≤ 9223372036854775807 by omega)
   have c1 := fun H => ih (by omega) th hfx.2.2.2.2.1 hfx.2.2.1 .sh H
   have c2 := fun H => ih (by omega) el hfx.2.2.2.2.2 hfx.2.2.2.1 .sh H
   have l1 := dep_le m th
   have l2 := dep_le m el
   generalize dep m th = T at *
   generalize dep m el = E at *
   have w1 : IntKind.wrap .i64 (1 + (if (E : Int) > T then (E : Int) else T)) = 1 + (if (E : Int) > T then (E : Int) else T) := wrap64 (by split <;> omega) (by split <;> omega)
   have hmx : (if 1 + (if (E : Int) > T then (E : Int) else T) > (d : Nat) then 1 + (if (E : Int) > T then (E : Int) else T) else ((d : Nat) : Int)) = ((max d (max (1 + T) (1 + E)) : Nat) : Int) := by
    split <;> split <;> omega
   generalize hD : max d (max (1 + T) (1 + E)) = D at *
   simp only [go_sem, simprocAttr, h0, h1, h5, h6, List.length_map, hlt', ha, hmp]
   refine W_draw [(5, 13), (8, 13)] (by kernel_rfl) ?_
   simp only [go_sem, simprocAttr, h0, h1, h5, h6, List.length_map, ha, hms, c1, c2, w1, hw1]
   exact ihk _ (by omega) _ _ ⟨i + 1, D, rfl, by omega, by omega, hR, by simp only [go_sem, simprocAttr, h0], by simp only [go_sem, simprocAttr, h1], by simp only [go_sem, simprocAttr, hmx], by simp only [go_sem, simprocAttr]⟩
  ·have hlt' : decide ((i : Int) < (l.length : Nat)) = false := by simp; omega
   rw [List.drop_of_length_le (by omega), List.foldl_nil] at hR
   subst hR
   simp only [go_sem, simprocAttr, h0, h1, h5, h6, List.length_map, hlt', rs]
/-- Would a program take too long? -/
def bigF (f : GFunc) : Bool := decide (60 ≤ dep 60 f.body)
def sumF : List GFunc → Nat
 | [] => 0
 | f :: l => (cntL f.body + f.params.length) + sumF l
theorem sumF_app : ∀ (a b : List GFunc), sumF (a ++ b) = sumF a + sumF b
 | [], b => by simp [sumF]
 | s :: a, b => by simp only [List.cons_append, sumF, sumF_app a b, Nat.add_assoc]
def bigI (fs : List GFunc) : Bool := fs.any bigF || (decide (3000 < sumF fs) || decide (1000 < fs.length))
set_option maxRecDepth 20000 in
theorem c_rBig (fs : List GFunc) (hf : fitP fs = true) (hz : sumF fs ≤ SZ) (o : Own) (H : Heap) :
  calls Tryz.prog cfg 18 [.agg [.sl o (fs.map encFunc)]] H = some (.ret (.lit (.bool (bigI fs))) H) := by
 have hlen : fs.length ≤ BIG := by simp only [fitP, Bool.and_eq_true, decide_eq_true_eq] at hf; exact hf.1
 unfold BIG at hlen
 unfold SZ at hz
 refine calls_pure (fn := Tryz.f18) rfl rfl rfl rfl rfl ?_ H
 have rs : Tryz.f18.results.toList = [.tmp 2] := rfl
 generalize hR : bigI fs = R
 simp only [go_sem, simprocAttr]
 refine W_loop_ind (fun k e H => ∃ i : Nat, k = fs.length - i ∧ i ≤ fs.length ∧ (fs.take i).any bigF = false ∧ gget .bad e 1 = .ptr 0 0 ∧ gget .bad e 3 = .lit (.int .i64 (sumF (fs.take i) : Nat)) ∧ gget .bad e 4 = .lit (.int .i64 (i : Nat)) ∧ H.get 0 = some [.sl .sh (fs.map encFunc)])
  fs.length ⟨0, rfl, by omega, rfl, by simp only [go_sem, simprocAttr], by simp only [go_sem, simprocAttr] <;> rfl, by simp only [go_sem, simprocAttr] <;> rfl, by simp only [go_sem, simprocAttr] <;> rfl⟩ ?_
 rintro k ihk e H ⟨i, rfl, hle, hnd, h1, h3, h4, g⟩
 by_cases hlt : i < fs.length
 ·have hlt' : decide ((i : Int) < (fs.length : Nat)) = true := by rw [decide_eq_true_eq]; omega
  have ha := iad_encFunc (t := 42) (bs := 64) (o := .sh) hlt
  have hfx := fitP_get hf hlt
  have htk := take_succ' (⟨[], [], []⟩ : GFunc) hlt
  have hsp : fs = fs.take (i + 1) ++ fs.drop (i + 1) := (List.take_append_drop _ _).symm
  have hmo : sumF (fs.take (i + 1)) ≤ sumF fs := by
   have := congrArg sumF hsp
   rw [sumF_app] at this
   omega
  have hsu : sumF (fs.take (i + 1)) = sumF (fs.take i) + (cntL (fs.getD i ⟨[], [], []⟩).body + (fs.getD i ⟨[], [], []⟩).params.length) := by rw [htk, sumF_app]; simp only [sumF, Nat.add_zero]
  generalize fs.getD i ⟨[], [], []⟩ = x at *
  obtain ⟨nm, ps, bd⟩ := x
  simp only [fitF, Bool.and_eq_true, decide_eq_true_eq] at hfx
  simp only at hsu
  have cd := fun H => c_rDeep 60 (by omega) bd hfx.2.2 hfx.2.1 .sh H
  simp only [Int.cast_ofNat_Int] at cd
  simp only [encFunc] at ha
  by_cases hd : 60 ≤ dep 60 bd
  ·have d1 : decide ((60 : Int) ≤ ((dep 60 bd : Nat) : Int)) = true := by rw [decide_eq_true_eq]; omega
   have hR' : R = true := by
    rw [← hR, bigI]
    have : fs.any bigF = true := by
     rw [hsp, htk, List.any_append, List.any_append]
     simp [bigF, hd]
    rw [this, Bool.true_or]
   subst hR'
   clear hR
   generalize dep 60 bd = D at *
   simp only [go_sem, simprocAttr, h1, h3, h4, g, List.length_map, hlt', ha, cd, d1, rs]
  ·have d1 : decide ((60 : Int) ≤ ((dep 60 bd : Nat) : Int)) = false := by rw [decide_eq_false_iff_not]; omega
   have hdf : bigF ⟨nm, ps, bd⟩ = false := by simp [bigF, hd]
   have cc := fun H => c_rCount bd (by unfold SZ; omega) .sh H
   have hw1 := wrap1 (show i + 1 ≤ 9223372036854775807 by omega)
   have w2 := wrapN (show cntL bd + ps.length ≤ 9223372036854775807 by omega)
   have w3 := wrapN (show sumF (fs.take i) + (cntL bd + ps.length) ≤ 9223372036854775807 by omega)
   generalize dep 60 bd = D at *
   simp only [go_sem, simprocAttr, h1, h3, h4, g, List.length_map, hlt', ha, cd, d1, rs]
   refine W_draw [(2, 9), (6, 9), (7, 9), (2, 13), (6, 13), (7, 13)] (by kernel_rfl) ?_
   simp only [go_sem, simprocAttr, h1, h3, h4, g, List.length_map, ha, cc, w2, w3, hw1]
   refine ihk _ (by omega) _ _ ⟨i + 1, rfl, by omega, ?_, by simp only [go_sem, simprocAttr, h1], by simp only [go_sem, simprocAttr, hsu], by simp only [go_sem, simprocAttr], g⟩
   rw [htk, List.any_append, hnd]
   simp only [List.any_cons, List.any_nil, hdf, Bool.or_self]
 ·obtain rfl : i = fs.length := by omega
  have hlt' : decide (((fs.length : Nat) : Int) < (fs.length : Nat)) = false := by simp
  rw [List.take_length] at h3 hnd
  rw [bigI, hnd, Bool.false_or] at hR
  have q1 : decide ((3000 : Int) < ((sumF fs : Nat) : Int)) = decide (3000 < sumF fs) := by rw [Bool.eq_iff_iff]; simp; omega
  have q2 : decide ((1000 : Int) < ((fs.length : Nat) : Int)) = decide (1000 < fs.length) := by rw [Bool.eq_iff_iff]; simp; omega
  cases b1 : decide (3000 < sumF fs) with
  | true =>
   have hR' : R = true := by rw [← hR, b1]; rfl
   simp only [go_sem, simprocAttr, h1, h3, h4, g, List.length_map, hlt', rs, q1, b1, hR']
  | false =>
  cases b2 : decide (1000 < fs.length) with
  | true =>
   have hR' : R = true := by rw [← hR, b1, b2]; rfl
   simp only [go_sem, simprocAttr, h1, h3, h4, g, List.length_map, hlt', rs, q1, q2, b1, b2, hR']
  | false =>
   have hR' : R = false := by rw [← hR, b1, b2]; rfl
   simp only [go_sem, simprocAttr, h1, h3, h4, g, List.length_map, hlt', rs, q1, q2, b1, b2, hR']
end Go.Proofs.YtghhkbigmmjanaaGreatDoor.VA

/-! Qd0 -/
namespace Go.Proofs.YtghhkbigmmjanaaGreatDoor.VA
open Go Go.RowKit
attribute [local go_sem] Nat.add_eq_left Nat.left_eq_add true_and and_true ite_true if_false Int.cast_ofNat_Int eq_self Nat.add_assoc Option.some.injEq decide_true decide_false Bool.not_true Bool.not_false List.size_toArray List.length_cons List.length_nil
set_option linter.unusedSimpArgs false
set_option maxRecDepth 100000

/-- A program that a machine can hold. -/
structure Fine (fs : List GFunc) : Prop where
 ok : okP fs = true
 fit : fitP fs = true
 cnt : cntP fs ≤ SZ
 sum : sumF fs ≤ SZ
 len : (spelt fs).length ≤ SZ
theorem prog_eq {fs : List GFunc} (hf : fitP fs = true) : progI fs = progR fs := by
 unfold progI progR
 rw [may_eq hf]
 cases hM : mayR fs with
 | false => rfl
 | true =>
  have hr : rightP fs = true := by rw [mayR, Bool.and_eq_true] at hM; exact hM.1
  simp only [laidP, right_shallow hr]
  rfl
theorem stmt_eq {s : GStmt} (hf : fitS s = true) : stmtI s = stmtR s := by
 have hfw : fitP (wd1 s) = true := by simp [fitP, fitF, wd1, fitSs, hf, BIG]
 unfold stmtI stmtR
 rw [may_eq hfw]
/-! ### the fixed calls -/
def fxW : List GFunc := [⟨[102], [[97]], [.mk 2 [120] [97] [112] [] [] [] []]⟩]
def fxS : GStmt := .mk 0 [120] [] [] [⟨3, 0, [103]⟩] [] [] []
def fxF : List GFunc := [⟨[102, 117, 110], [], []⟩]
def fxZ : GStmt := .mk 0 [] [] [] [] [] [] []
theorem fxP1 : parseP [102, 117, 110, 32, 102, 40, 97, 41, 123, 120, 61, 97, 46, 112, 59, 125] = (fxW, 0, 0) := by kernel_rfl
theorem fxP2 : progI fxW = [102, 117, 110, 32, 102, 32, 40, 32, 97, 32, 41, 32, 123, 32, 120, 32, 61, 32, 97, 32, 46, 32, 112, 32, 59, 32, 125, 10] := by kernel_rfl
theorem fxP3 : mayI fxW = true := by kernel_rfl
theorem fxP4 : stmtI fxS = [120, 32, 61, 32, 38, 32, 103, 32, 59] := by kernel_rfl
theorem fxP5 : mayI fxF = false := by kernel_rfl
theorem fxP6 : stmtI fxZ = [] := by kernel_rfl
theorem fxL1 : (spelt fxW).length = 28 := by kernel_rfl
theorem fxL2 : (spelt (wd1 fxS)).length = 24 := by kernel_rfl
theorem fxL3 : (spelt fxF).length = 16 := by kernel_rfl
theorem fxL4 : (spelt (wd1 fxZ)).length = 19 := by kernel_rfl
def vG : List AV := [.lit (.int .i64 3), .lit (.int .i64 0), .lit (.string (ba [103]))]
def vS : List AV := [.lit (.int .i64 0), .lit (.string (ba [120])), .lit (.string (ba [])), .lit (.string (ba [])), .sl .ex [vG], .sl .nil [], .sl .nil [], .sl .nil []]
def vF : List AV := [.lit (.string (ba [102, 117, 110])), .sl .nil [], .sl .nil []]
def vZ : List AV := [.lit (.int .i64 0), .lit (.string (ba [])), .lit (.string (ba [])), .lit (.string (ba [])), .sl .nil [], .sl .nil [], .sl .nil [], .sl .nil []]
theorem fb1 : aBuildSlice Tryz.prog 36 1 [(0, .agg vG)] = some (.sl .ex [vG]) := by kernel_rfl
theorem fb2 : aBuildSlice Tryz.prog 22 1 [(0, .agg vF)] = some (.sl .ex [vF]) := by kernel_rfl
theorem fs1 : sanL [.agg (encStmt fxS)] = sanL [.agg vS] := by kernel_rfl
theorem fs2 : sanL [.agg [.sl .sh (fxF.map encFunc)]] = sanL [.agg [.sl .ex [vF]]] := by kernel_rfl
theorem fs3 : sanL [.agg (encStmt fxZ)] = sanL [.agg vZ] := by kernel_rfl
set_option maxRecDepth 20000 in
theorem c_fixed3 (H : Heap) : calls Tryz.prog cfg2 19 [] H = some (.ret (.lit (.bool true)) H) := by
 refine calls_pure (fn := Tryz.f19) rfl rfl rfl rfl rfl ?_ H
 have rs : Tryz.f19.results.toList = [.tmp 0] := rfl
 have h1 := fun H => c_rParse2 [102, 117, 110, 32, 102, 40, 97, 41, 123, 120, 61, 97, 46, 112, 59, 125] H
 have h2 := fun H => c_pProgram fxW rfl rfl (by rw [fxL1]; unfold SZ; omega) .sh H
 have h3 := fun H => c_pMay fxW rfl rfl (by rw [fxL1]; unfold SZ; omega) .sh H
 have h4 := fun H => calls_of_san (c := cfg2) (f := 24) rfl fs1 (c_pStmtP fxS rfl rfl (by rw [fxL2]; unfold SZ; omega) H)
 have h5 := fun H => calls_of_san (c := cfg2) (f := 20) rfl fs2 (c_pMay fxF rfl rfl (by rw [fxL3]; unfold SZ; omega) .sh H)
 have h6 := fun H => calls_of_san (c := cfg2) (f := 24) rfl fs3 (c_pStmtP fxZ rfl rfl (by rw [fxL4]; unfold SZ; omega) H)
 rw [fxP1] at h1
 rw [fxP2] at h2
 rw [fxP3] at h3
 rw [fxP4] at h4
 rw [fxP5] at h5
 rw [fxP6] at h6
 have b1 := fb1
 have b2 := fb2
 simp only [encRead, List.map_nil] at h1
 generalize fxW.map encFunc = fw at *
 simp only [vG, vS, vF, vZ] at b1 b2 h4 h5 h6
 simp only [go_sem, simprocAttr, rs, h1, h2, h3, b1, b2, h4, h5, h6]
theorem bb_t : (true == true) = true := rfl
theorem bb_f : (false == false) = true := rfl
theorem progR_may {fs : List GFunc} (h : mayR fs = true) : progR fs = spelt fs := by rw [progR, h]; rfl
theorem progR_not {fs : List GFunc} (h : mayR fs = false) : progR fs = [] := by rw [progR, h]; rfl
theorem may_parse {fs : List GFunc} (hf : fitP fs = true) (h : mayR fs = true) : parseP (spelt fs) = (fs, 0, 0) := by
 simp only [mayR, Bool.and_eq_true, decide_eq_true_eq] at h
 exact parse_spelt h.1 hf h.2.1 h.2.2
theorem spelt_inj {fs gs : List GFunc} (hf : fitP fs = true) (hg : fitP gs = true) (h : mayR fs = true) (k : mayR gs = true) : decide (ba (spelt fs) = ba (spelt gs)) = eqFs fs gs := by
 cases h0 : eqFs fs gs with
 | true => rw [eqFs_eq _ _ h0]; simp
 | false =>
  rw [decide_eq_false_iff_not, ba_inj]
  intro e
  have h1 := may_parse hf h
  have h2 := may_parse hg k
  rw [e, h2] at h1
  rw [(Prod.mk.inj h1).1, eqFs_refl] at h0
  cases h0
theorem rightO_ok {o : Opd} (h : rightO o = true) : okO o = true := by
 rcases right_opd h with rfl | rfl | rfl | ⟨n, hn, rfl⟩ | ⟨_, ho⟩ | ⟨_, ho⟩
 ·rfl
 ·rfl
 ·rfl
 ·simp only [okO, Bool.and_eq_true, decide_eq_true_eq]; omega
 ·rw [ho]; rfl
 ·rw [ho]; rfl
mutual
theorem rightS_ok : ∀ (s : GStmt) (d : Nat), rightS s d = true → okS s = true
 | .mk op x y p a ps th el, d, h => by
  have hs := shape_of h
  have k : a.all rightO = true ∧ rightL th (d - 1) = true ∧ rightL el (d - 1) = true := by
   rw [rightS, Bool.and_eq_true] at h
   refine ⟨h.1, ?_⟩
   cases hs with
   | if_ _ _ _ _ _ h1 h2 => exact ⟨h1, h2⟩
   | while_ _ _ _ _ h1 => exact ⟨h1, rfl⟩
   | _ => exact ⟨rfl, rfl⟩
  have k1 : a.all okO = true := by
   rw [List.all_eq_true]
   intro o ho
   exact rightO_ok (List.all_eq_true.1 k.1 o ho)
  simp only [okS, k1, rightL_ok th _ k.2.1, rightL_ok el _ k.2.2, Bool.and_self]
theorem rightL_ok : ∀ (l : List GStmt) (d : Nat), rightL l d = true → okSs l = true
 | [], _, _ => rfl
 | g :: l, d, h => by
  simp only [rightL, Bool.and_eq_true] at h
  simp only [okSs, rightS_ok g d h.1, rightL_ok l d h.2, Bool.and_self]
end
theorem right_ok {fs : List GFunc} (h : rightP fs = true) : okP fs = true := by
 rw [okP, List.all_eq_true]
 intro f hf
 have := List.all_eq_true.1 h f hf
 simp only [rightF, Bool.and_eq_true] at this
 exact rightL_ok _ _ this.2.1
end Go.Proofs.YtghhkbigmmjanaaGreatDoor.VA
