/- What is proved: the law PrintParts returns true, in the abstract interpreter (VA). Condition: numbers and lengths are a machine's. -/
import Derived.Test.YtghhkbigmmjanaaGreatDoorM10
/-! Qd3 -/
namespace Go.Proofs.YtghhkbigmmjanaaGreatDoor.VA
open Go Go.RowKit
attribute [local go_sem] Nat.add_eq_left Nat.left_eq_add true_and and_true ite_true if_false Int.cast_ofNat_Int eq_self Nat.add_assoc Option.some.injEq decide_true decide_false Bool.not_true Bool.not_false List.size_toArray List.length_cons List.length_nil
set_option linter.unusedSimpArgs false
set_option maxRecDepth 100000

theorem append_funs {o o' : Own} (a b : List GFunc) (hb : b ≠ []) (hl : a.length + b.length ≤ 1000000) (H : Heap) (id : Nat) (ho : AppOk H o a.length 42 3) :
  aAppend Tryz.prog 22 (.sl o (a.map encFunc)) (.sl o' (b.map encFunc)) H id = some (.sl (.own id 42 3) ((a ++ b).map encFunc), ownUs o id, ownRs o) := by
 obtain ⟨x, b, rfl⟩ : ∃ x b', b = x :: b' := by cases b with | nil => exact absurd rfl hb | cons x b => exact ⟨x, b, rfl⟩
 have := append_any (P := Tryz.prog) (t := 22) (o := o) (o' := o') (es := a.map encFunc) (xs := b.map encFunc) (x := encFunc x) el_sFun zo_sFun (by omega) (by simp at hl ⊢; omega) (by simp at hl ⊢; omega) rfl H id (by simpa using ho)
 rw [List.map_cons, this, sanLL_cons, sanLL_encFunc, sanL_encFunc]
 simp
theorem append_nofuns {o o' : Own} (es : List (List AV)) (H : Heap) (id : Nat) : aAppend Tryz.prog 22 (.sl o es) (.sl o' []) H id = some (.sl o es, [], []) := by
 simp only [aAppend, el_sFun]
theorem bs0_fun : aBuildSlice Tryz.prog 22 0 [] = some (.sl .ex []) := build0 el_sFun zr_fun rfl rfl
theorem may_app {fs gs : List GFunc} (h : mayR (fs ++ gs) = true) : mayR fs = true ∧ mayR gs = true := by
 simp only [mayR, Bool.and_eq_true, decide_eq_true_eq, rightP, List.all_append, cntP_app, spelt_app, List.length_append] at h ⊢
 obtain ⟨⟨h1, h2⟩, h3, h4⟩ := h
 exact ⟨⟨h1, by omega, by omega⟩, h2, by omega, by omega⟩
theorem fine_app {fs gs : List GFunc} (h : Fine (fs ++ gs)) (hl : (fs ++ gs).length ≤ 1000000) : Fine fs ∧ Fine gs := by
 obtain ⟨h1, h2, h3, h4, h5⟩ := h
 rw [okP, List.all_append, Bool.and_eq_true] at h1
 simp only [fitP, List.all_append, Bool.and_eq_true] at h2
 rw [cntP_app] at h3
 rw [sumF_app] at h4
 rw [spelt_app, List.length_append] at h5
 rw [List.length_append] at hl
 refine ⟨⟨h1.1, ?_, by omega, by omega, by omega⟩, ⟨h1.2, ?_, by omega, by omega, by omega⟩⟩
 ·simp only [fitP, h2.2.1, Bool.and_true, decide_eq_true_eq]; unfold BIG; omega
 ·simp only [fitP, h2.2.2, Bool.and_true, decide_eq_true_eq]; unfold BIG; omega
noncomputable def pp0 : Code := match Tryz.f9.body with | some (.seq a _) => a | _ => .skip
noncomputable def pp1 : Code := match Tryz.f9.body with | some (.seq _ (.seq a _)) => a | _ => .skip
noncomputable def pp2 : Code := match Tryz.f9.body with | some (.seq _ (.seq _ (.seq a _))) => a | _ => .skip
noncomputable def pp3 : Code := match Tryz.f9.body with | some (.seq _ (.seq _ (.seq _ (.seq a _)))) => a | _ => .skip
noncomputable def pp4 : Code := match Tryz.f9.body with | some (.seq _ (.seq _ (.seq _ (.seq _ (.seq a _))))) => a | _ => .skip
noncomputable def ppF : Code := match Tryz.f9.body with | some (.seq _ (.seq _ (.seq _ (.seq _ (.seq _ a))))) => a | _ => .skip
noncomputable def ppR : Code := .seq pp2 (.seq pp3 (.seq pp4 ppF))
theorem pp_body : Tryz.f9.body = some (.seq pp0 (.seq pp1 ppR)) := rfl
section
variable {fs gs : List GFunc} {e : List AV} {H : Heap}
/-- Where the law's variables lie. -/
structure PPst (fs gs : List GFunc) (e : List AV) (H : Heap) : Prop where
 s2 : gget .bad e 2 = .ptr 0 0
 s3 : gget .bad e 3 = .ptr 1 0
 s5 : gget .bad e 5 = .ptr 11 0
 h0 : H.get 0 = some [.sl .sh (fs.map encFunc)]
 h1 : H.get 1 = some [.sl .sh (gs.map encFunc)]
 h2 : ∃ o, H.get 11 = some [.sl o ((fs ++ gs).map encFunc)]
 nx : 12 ≤ H.next
set_option maxRecDepth 20000 in
theorem pp_fin (hF : Fine fs) (hG : Fine gs) (hFG : Fine (fs ++ gs)) (hM : mayR (fs ++ gs) = true) {S X : Wd} (hS : spelt fs = S ++ X) (hp : PPst fs gs e H) (s6 : gget .bad e 6 = .lit (.string (ba S))) :
  W Tryz.prog cfg2 ppF [] e H (RetQ Tryz.prog Tryz.f9.results.toList (.lit (.bool true))) := by
 have rs : Tryz.f9.results.toList = [.tmp 4] := rfl
 rw [rs]
 unfold ppF
 simp only [Tryz.f9]
 obtain ⟨s2, s3, s5, g0, g1, ⟨o, g2⟩, nx⟩ := hp
 obtain ⟨m1, m2⟩ := may_app hM
 have c0 := c_fixed3
 have c1 := fun o H => c_pProgram fs hF.ok hF.fit hF.len o H
 have c2 := fun o H => c_pProgram gs hG.ok hG.fit hG.len o H
 have c3 := fun o H => c_pProgram (fs ++ gs) hFG.ok hFG.fit hFG.len o H
 have hl := hFG.len
 unfold SZ at hl
 rw [prog_eq hF.fit, progR_may m1] at c1
 rw [prog_eq hG.fit, progR_may m2] at c2
 rw [prog_eq hFG.fit, progR_may hM, spelt_app] at c3
 rw [spelt_app, List.length_append] at hl
 generalize spelt fs = T at *
 generalize spelt gs = U at *
 obtain ⟨Z, hZ, _, ct⟩ := cat_ex T U (by omega)
 rw [← hZ] at c3
 have hSl : S.length ≤ T.length := by rw [hS, List.length_append]; omega
 have dl : decide (((S.length : Nat) : Int) ≤ ((T.length : Nat) : Int)) = true := by rw [decide_eq_true_eq]; omega
 have dz : decide (ba Z = ba Z) = true := by simp
 have ds : decide (ba S = ba S) = true := by simp
 have sl : aSlice Tryz.prog 9 (.lit (.string (ba T))) none (some (.lit (.int .i64 (S.length : Nat)))) = some (.lit (.string (ba S))) := by
  rw [slice_str und_string (l := 0) (h := S.length) (by simp only [optNat, aNat_cast]) rfl (by omega) (by simpa using hSl), ba_extract, hS]
  simp
 simp only [go_sem, simprocAttr, s2, s3, s5, g0, g1, g2, c1]
 refine W_draw [(2, 5), (3, 5)] (by kernel_rfl) ?_
 simp only [go_sem, simprocAttr, imp_2, s2, s3, s5, s6, g0, g1, g2, c0, c2, c3, ct, ba_size, Option.map_some, Option.map_none, dl, dz, ds, sl]
set_option maxHeartbeats 1000000 in
set_option maxRecDepth 20000 in
theorem pp_rest (hF : Fine fs) (hG : Fine gs) (hFG : Fine (fs ++ gs)) (hp : PPst fs gs e H) :
  W Tryz.prog cfg2 ppR [] e H (RetQ Tryz.prog Tryz.f9.results.toList (.lit (.bool true))) := by
 have rs : Tryz.f9.results.toList = [.tmp 4] := rfl
 have hfin := fun (hM : mayR (fs ++ gs) = true) (S X : Wd) (hS : spelt fs = S ++ X) (e : List AV) (H : Heap) (hp : PPst fs gs e H) (s6 : gget .bad e 6 = .lit (.string (ba S))) => pp_fin hF hG hFG hM hS hp s6
 rw [rs] at hfin ⊢
 unfold ppR pp2 pp3 pp4
 simp only [Tryz.f9]
 obtain ⟨s2, s3, s5, g0, g1, ⟨o, g2⟩, nx⟩ := hp
 have c0 := c_fixed3
 have c1 := fun o H => up (c_rBig (fs ++ gs) hFG.fit hFG.sum o H)
 have c2 := fun o H => c_pMay (fs ++ gs) hFG.ok hFG.fit hFG.len o H
 rw [may_eq hFG.fit] at c2
 cases hB : bigI (fs ++ gs) with
 | true =>
  rw [hB] at c1
  simp only [go_sem, simprocAttr, s2, s3, s5, g0, g1, g2, c0, c1]
 | false =>
 rw [hB] at c1
 cases hM : mayR (fs ++ gs) with
 | false =>
  rw [hM] at c2
  simp only [go_sem, simprocAttr, s2, s3, s5, g0, g1, g2, c0, c1, c2]
 | true =>
 rw [hM] at c2
 simp only [go_sem, simprocAttr, s2, s3, s5, g0, g1, g2, c0, c1, c2]
 rw [W_loop]
 by_cases hf0 : 0 < fs.length
 ·have d0 : decide ((0 : Int) < ((fs.length : Nat) : Int)) = true := by rw [decide_eq_true_eq]; omega
  have d1 : decide ((0 : Int) < 1) = true := rfl
  have d2 : decide ((1 : Int) < 1) = false := rfl
  have w1 : IntKind.wrap .i64 (1 : Int) = 1 := by kernel_rfl
  have ha := iad_encFunc (t := 42) (bs := 64) (o := .sh) hf0
  obtain ⟨f, fr, hfs⟩ : ∃ f fr, fs = f :: fr := by cases fs with | nil => simp at hf0 | cons f fr => exact ⟨f, fr, rfl⟩
  have hgd : fs.getD 0 ⟨[], [], []⟩ = f := by rw [hfs]; rfl
  rw [hgd] at ha
  obtain ⟨nm, ps, bd⟩ := f
  simp only [encFunc] at ha
  obtain ⟨m, hm⟩ : ∃ m, H.next = m + 12 := ⟨H.next - 12, by omega⟩
  have hl1 : decide ((0 : Int) < ((ps.length : Nat) : Int)) = decide (0 < ps.length) := by rw [Bool.eq_iff_iff]; simp
  by_cases hps : 0 < ps.length
  ·have d3 : decide (0 < ps.length) = true := by simpa using hps
   simp only [go_sem, simprocAttr, s2, s3, s5, g0, g1, g2, hm, List.length_map, d0, d1, ha, hl1, d3, w1]
   rw [W_loop]
   cases dd : decide ((1 : Int) < ((fs.length : Nat) : Int)) with
   | true =>
    simp only [go_sem, simprocAttr, s2, s3, s5, g0, g1, g2, hm, List.length_map, d0, d1, d2, dd, w1]
    exact hfin hM [] (spelt fs) rfl _ _ ⟨by simp only [go_sem, simprocAttr, s2], by simp only [go_sem, simprocAttr, s3], by simp only [go_sem, simprocAttr, s5], by simp only [go_sem, simprocAttr, g0], by simp only [go_sem, simprocAttr, g1], ⟨o, by simp only [go_sem, simprocAttr, g2, hm] <;> rfl⟩, by simp only [go_sem, simprocAttr, hm] <;> omega⟩ (by simp only [go_sem, simprocAttr] <;> rfl)
   | false =>
    simp only [go_sem, simprocAttr, s2, s3, s5, g0, g1, g2, hm, List.length_map, d0, d1, d2, dd, w1]
    exact hfin hM [] (spelt fs) rfl _ _ ⟨by simp only [go_sem, simprocAttr, s2], by simp only [go_sem, simprocAttr, s3], by simp only [go_sem, simprocAttr, s5], by simp only [go_sem, simprocAttr, g0], by simp only [go_sem, simprocAttr, g1], ⟨o, by simp only [go_sem, simprocAttr, g2, hm] <;> rfl⟩, by simp only [go_sem, simprocAttr, hm] <;> omega⟩ (by simp only [go_sem, simprocAttr] <;> rfl)
  ·have d3 : decide (0 < ps.length) = false := by simpa using hps
   have hps0 : ps = [] := by cases ps with | nil => rfl | cons a b => simp at hps
   subst hps0
   obtain ⟨m1, _⟩ := may_app hM
   have hl := hFG.len
   have hl2 := hF.len
   have hfit := hF.fit
   rw [hfs] at m1 hl2 hfit
   simp only [spelt, List.length_append] at hl2
   rw [speltF_len, wt_func, wt_blk] at hl2
   unfold SZ at hl2
   have m1' := m1
   simp only [mayR, rightP, List.all_cons, Bool.and_eq_true, rightF] at m1'
   have hnm : nm ≠ [] := by
    intro h
    have := m1'.1.1.1
    rw [h] at this
    revert this
    decide
   simp only [fitP, List.all_cons, fitF, Bool.and_eq_true, decide_eq_true_eq] at hfit
   obtain ⟨_, ⟨_, hbl, hbf⟩, _⟩ := hfit
   have hrs := rightL_all m1'.1.1.2.1
   have hok := rightL_ok bd 31 m1'.1.1.2.1
   have hst : ∀ x ∈ bd, ∀ H, calls Tryz.prog cfg2 24 [.agg (encStmt x)] H = some (.ret (.lit (.string (ba (joined [32] (wStmt x))))) H) := by
    intro x hx H
    have hmx := may_stmt (f := ⟨nm, [], bd⟩) hnm hx m1
    have hzx : (spelt (wd1 x)).length ≤ SZ := by
     simp only [mayR, Bool.and_eq_true, decide_eq_true_eq] at hmx
     unfold SZ; omega
    have hfx : fitS x = true := by rw [fitSs_all, List.all_eq_true] at hbf; exact hbf x hx
    have := c_pStmtP x (rightS_ok x 31 (hrs x hx)) hfx hzx H
    rw [stmt_eq hfx, stmtR, hmx] at this
    exact this
   have hpre : spelt fs = (layW ([tFun, nm, [40], [41], [123]] ++ wStmts bd) ++ [125, 10]) ++ spelt fr := by rw [hfs, spelt, speltF_layW]
   have hbw : bd.length ≤ 549755813888 + 8 := hbl
   obtain ⟨Z0, z0, n0, ct0⟩ := cat_ex [102, 117, 110, 32] nm (by simp only [List.length_cons, List.length_nil]; omega)
   simp only [List.length_cons, List.length_nil] at n0
   obtain ⟨Z1, z1, n1, ct1⟩ := cat_ex Z0 [32, 40, 32, 41, 32, 123, 32] (by simp only [List.length_cons, List.length_nil]; omega)
   simp only [List.length_cons, List.length_nil] at n1
   have hz1 : Z1 = layW [tFun, nm, [40], [41], [123]] := by rw [z1, z0]; simp only [layW, tFun, List.append_assoc, List.cons_append, List.nil_append]
   simp only [go_sem, simprocAttr, s2, s3, s5, g0, g1, g2, hm, List.length_map, d0, d1, ha, hl1, d3, ct0, ct1]
   refine W_loop_ind (fun k e H => ∃ (j : Nat) (Z : Wd), k = bd.length - j ∧ j ≤ bd.length ∧ Z = layW ([tFun, nm, [40], [41], [123]] ++ wStmts (bd.take j)) ∧ gget .bad e 2 = .ptr 0 0 ∧ gget .bad e 3 = .ptr 1 0 ∧ gget .bad e 5 = .ptr 11 0 ∧ gget .bad e 6 = .lit (.string (ba Z)) ∧
     gget .bad e 7 = .lit (.int .i64 0) ∧ gget .bad e 8 = .ptr (m + 35) 0 ∧ gget .bad e 9 = .lit (.int .i64 (j : Nat)) ∧ H.get 0 = some [.sl .sh (fs.map encFunc)] ∧ H.get 1 = some [.sl .sh (gs.map encFunc)] ∧ H.get 11 = some [.sl o ((fs ++ gs).map encFunc)] ∧
     H.get (m + 35) = some [.lit (.string (ba nm)), .sl .sh [], .sl .sh (bd.map encStmt)] ∧ 12 ≤ H.next)
    bd.length ⟨0, Z1, rfl, by omega, by rw [hz1]; simp only [List.take_zero, wStmts, List.append_nil], by simp only [go_sem, simprocAttr, s2], by simp only [go_sem, simprocAttr, s3], by simp only [go_sem, simprocAttr, s5], by simp only [go_sem, simprocAttr], by simp only [go_sem, simprocAttr] <;> rfl, by simp only [go_sem, simprocAttr], by simp only [go_sem, simprocAttr] <;> rfl, by simp only [go_sem, simprocAttr, g0] <;> rfl, by simp only [go_sem, simprocAttr, g1] <;> rfl, by simp only [go_sem, simprocAttr, g2] <;> rfl, by simp only [go_sem, simprocAttr] <;> rfl, by simp only [go_sem, simprocAttr, hm] <;> omega⟩ ?_
   clear s2 s3 s5 g0 g1 g2 hm ha
   rintro k ihk e H ⟨j, Z, rfl, hjl, hZ, s2, s3, s5, s6, s7, s8, s9, g0, g1, g2, g8, hn⟩
   have hZl : Z.length = nm.length + 11 + wt (wStmts (bd.take j)) := by
    rw [hZ, layW_len, wt_app]
    simp only [wt, tFun, List.length_cons, List.length_nil]
    omega
   by_cases hjt : j < bd.length
   ·have hjt' : decide ((j : Int) < ((bd.length : Nat) : Int)) = true := by rw [decide_eq_true_eq]; omega
    have ha := iad_encStmt (t := 40) (bs := 152) (o := .sh) hjt
    have hx : bd.getD j noStmt ∈ bd := by rw [List.getD_eq_getElem?_getD, List.getElem?_eq_getElem hjt]; exact List.getElem_mem hjt
    have hw1 := wrap1 (show j + 1 ≤ 9223372036854775807 by omega)
    have htk := take_succ' noStmt hjt
    have hsp : wt (wStmts bd) = wt (wStmts (bd.take (j + 1))) + wt (wStmts (bd.drop (j + 1))) := by rw [← wt_app, ← wStmts_app, List.take_append_drop]
    have hls : wStmts (bd.take (j + 1)) = wStmts (bd.take j) ++ wStmt (bd.getD j noStmt) := by rw [htk, wStmts_app]; simp only [wStmts, List.append_nil]
    rw [hls, wt_app] at hsp
    have hc := hst _ hx
    generalize bd.getD j noStmt = x at *
    have hjx := wt_joined (wStmt x) (wStmt_ne x)
    have hly := layW_stmt x
    generalize joined [32] (wStmt x) = J at *
    obtain ⟨Z3, z3, n3, ct3⟩ := cat_ex J [32] (by simp only [List.length_cons, List.length_nil]; omega)
    simp only [List.length_cons, List.length_nil] at n3
    obtain ⟨Z4, z4, n4, ct4⟩ := cat_ex Z Z3 (by omega)
    simp only [go_sem, simprocAttr, s2, s3, s5, s6, s7, s8, s9, g0, g1, g2, g8, List.length_map, hjt', ha, hc, ct3, ct4, hw1]
    exact ihk _ (by omega) _ _ ⟨j + 1, Z4, rfl, by omega, by rw [z4, z3, hZ, hls]; simp only [layW_app, hly, List.append_assoc], by simp only [go_sem, simprocAttr, s2], by simp only [go_sem, simprocAttr, s3], by simp only [go_sem, simprocAttr, s5], by simp only [go_sem, simprocAttr], by simp only [go_sem, simprocAttr, s7], by simp only [go_sem, simprocAttr, s8], by simp only [go_sem, simprocAttr], by simp only [go_sem, simprocAttr, g0], by simp only [go_sem, simprocAttr, g1], by simp only [go_sem, simprocAttr, g2], by simp only [go_sem, simprocAttr, g8], by simp only [go_sem, simprocAttr] <;> omega⟩
   ·obtain rfl : j = bd.length := by omega
    have hjt' : decide (((bd.length : Nat) : Int) < (bd.length : Nat)) = false := by simp
    rw [List.take_length] at hZ hZl
    obtain ⟨Z3, z3, n3, ct3⟩ := cat_ex Z [125, 10] (by simp only [List.length_cons, List.length_nil]; omega)
    simp only [go_sem, simprocAttr, s2, s3, s5, s6, s7, s8, s9, g0, g1, g2, g8, List.length_map, hjt', ct3, w1]
    rw [W_loop]
    have hq : spelt fs = Z3 ++ spelt fr := by rw [hpre, z3, hZ]
    cases dd : decide ((1 : Int) < ((fs.length : Nat) : Int)) with
    | true =>
     simp only [go_sem, simprocAttr, s2, s3, s5, g0, g1, g2, List.length_map, d2, dd]
     exact hfin hM Z3 (spelt fr) hq _ _ ⟨by simp only [go_sem, simprocAttr, s2], by simp only [go_sem, simprocAttr, s3], by simp only [go_sem, simprocAttr, s5], by simp only [go_sem, simprocAttr, g0], by simp only [go_sem, simprocAttr, g1], ⟨o, by simp only [go_sem, simprocAttr, g2]⟩, by simp only [go_sem, simprocAttr] <;> omega⟩ (by simp only [go_sem, simprocAttr])
    | false =>
     simp only [go_sem, simprocAttr, s2, s3, s5, g0, g1, g2, List.length_map, d2, dd]
     exact hfin hM Z3 (spelt fr) hq _ _ ⟨by simp only [go_sem, simprocAttr, s2], by simp only [go_sem, simprocAttr, s3], by simp only [go_sem, simprocAttr, s5], by simp only [go_sem, simprocAttr, g0], by simp only [go_sem, simprocAttr, g1], ⟨o, by simp only [go_sem, simprocAttr, g2]⟩, by simp only [go_sem, simprocAttr] <;> omega⟩ (by simp only [go_sem, simprocAttr])
 ·have d0 : decide ((0 : Int) < ((fs.length : Nat) : Int)) = false := by rw [decide_eq_false_iff_not]; omega
  simp only [go_sem, simprocAttr, s2, s3, s5, g0, g1, g2, List.length_map, d0]
  exact hfin hM [] (spelt fs) rfl _ _ ⟨by simp only [go_sem, simprocAttr, s2], by simp only [go_sem, simprocAttr, s3], by simp only [go_sem, simprocAttr, s5], by simp only [go_sem, simprocAttr, g0], by simp only [go_sem, simprocAttr, g1], ⟨o, by simp only [go_sem, simprocAttr, g2] <;> rfl⟩, by simp only [go_sem, simprocAttr] <;> omega⟩ (by simp only [go_sem, simprocAttr] <;> rfl)
set_option maxHeartbeats 1000000 in
set_option maxRecDepth 20000 in
theorem print_parts (fs gs : List GFunc) (hFG : Fine (fs ++ gs)) (hl : (fs ++ gs).length ≤ 1000000) (H : Heap) : calls Tryz.prog cfg2 9 [.agg [.sl .sh (fs.map encFunc)], .agg [.sl .sh (gs.map encFunc)]] H = some (.ret (.lit (.bool true)) H) := by
 obtain ⟨hF, hG⟩ := fine_app hFG hl
 refine calls_pure (fn := Tryz.f9) rfl rfl rfl pp_body rfl ?_ H
 have hR := fun (e : List AV) (H : Heap) (hp : PPst fs gs e H) => pp_rest hF hG hFG hp
 generalize RetQ Tryz.prog Tryz.f9.results.toList (.lit (.bool true)) = Q at *
 unfold pp0 pp1
 simp only [Tryz.f9]
 rw [List.length_append] at hl
 have hvv : ∀ (v v' : AV) (us us' : List U) (rs rs' : List Nat), NoConf (.val v us rs) (.val v' us' rs') = ((∀ u ∈ us, (∀ u' ∈ us', u.key ≠ u'.key) ∧ u.key ∉ rs') ∧ ∀ u' ∈ us', u'.key ∉ rs) := fun _ _ _ _ _ _ => rfl
 have p1 : fs ≠ [] → ∀ H id, aAppend Tryz.prog 22 (.sl .ex []) (.sl .sh (fs.map encFunc)) H id = some (.sl (.own id 42 3) (fs.map encFunc), [.live id true], []) := fun hn H id => append_funs [] fs hn (by simp; omega) H id rfl
 have p2 : gs ≠ [] → ∀ H id, aAppend Tryz.prog 22 (.sl .ex []) (.sl .sh (gs.map encFunc)) H id = some (.sl (.own id 42 3) (gs.map encFunc), [.live id true], []) := fun hn H id => append_funs [] gs hn (by simp; omega) H id rfl
 have p3 : gs ≠ [] → ∀ k H id, AppOk H (.own k 42 3) fs.length 42 3 → aAppend Tryz.prog 22 (.sl (.own k 42 3) (fs.map encFunc)) (.sl .sh (gs.map encFunc)) H id =
   some (.sl (.own id 42 3) ((fs ++ gs).map encFunc), [.live k false, .live id true], [k]) := fun hn k H id ho => append_funs fs gs hn (by omega) H id ho
 have hao : ∀ (H : Heap) (j n : Nat), AppOk (H.setLive j true) (.own j 42 3) n 42 3 = True := fun H j n => AppOk_ownUs H .ex j _ _ _
 by_cases m1 : fs = []
 ·subst m1
  by_cases m2 : gs = []
  ·subst m2
   simp only [go_sem, simprocAttr]
   refine W_draw [(2, 5), (3, 5), (2, 8), (3, 8), (5, 8), (6, 8)] (by kernel_rfl) ?_
   simp only [go_sem, simprocAttr, bs0_fun, append_nofuns, hvv, List.mem_cons, List.not_mem_nil, or_false, forall_eq_or_imp, forall_eq, U.key, not_false_eq_true, ne_eq, implies_true, and_self, false_implies, not_true_eq_false, false_or]
   exact hR _ _ ⟨by simp only [go_sem, simprocAttr], by simp only [go_sem, simprocAttr], by simp only [go_sem, simprocAttr], by simp only [go_sem, simprocAttr] <;> rfl, by simp only [go_sem, simprocAttr] <;> rfl, ⟨.ex, by simp only [go_sem, simprocAttr] <;> rfl⟩, by simp only [go_sem, simprocAttr] <;> omega⟩
  ·have p2' := p2 m2
   simp only [go_sem, simprocAttr]
   refine W_draw [(2, 5), (3, 5), (2, 8), (3, 8), (5, 8), (6, 8)] (by kernel_rfl) ?_
   simp only [go_sem, simprocAttr, bs0_fun, append_nofuns, p2', hvv, List.mem_cons, List.not_mem_nil, or_false, forall_eq_or_imp, forall_eq, U.key, not_false_eq_true, ne_eq, implies_true, and_self, false_implies, not_true_eq_false, false_or]
   exact hR _ _ ⟨by simp only [go_sem, simprocAttr], by simp only [go_sem, simprocAttr], by simp only [go_sem, simprocAttr], by simp only [go_sem, simprocAttr] <;> rfl, by simp only [go_sem, simprocAttr] <;> rfl, ⟨_, by simp only [go_sem, simprocAttr, List.nil_append] <;> rfl⟩, by simp only [go_sem, simprocAttr] <;> omega⟩
 ·by_cases m2 : gs = []
  ·subst m2
   have p1' := p1 m1
   simp only [go_sem, simprocAttr]
   refine W_draw [(2, 5), (3, 5), (2, 8), (3, 8), (5, 8), (6, 8)] (by kernel_rfl) ?_
   simp only [go_sem, simprocAttr, bs0_fun, append_nofuns, p1', hvv, List.mem_cons, List.not_mem_nil, or_false, forall_eq_or_imp, forall_eq, U.key, not_false_eq_true, ne_eq, implies_true, and_self, false_implies, not_true_eq_false, false_or]
   exact hR _ _ ⟨by simp only [go_sem, simprocAttr], by simp only [go_sem, simprocAttr], by simp only [go_sem, simprocAttr], by simp only [go_sem, simprocAttr] <;> rfl, by simp only [go_sem, simprocAttr] <;> rfl, ⟨_, by simp only [go_sem, simprocAttr, List.append_nil] <;> rfl⟩, by simp only [go_sem, simprocAttr] <;> omega⟩
  ·have p1' := p1 m1
   have p3' := p3 m2
   simp only [go_sem, simprocAttr]
   refine W_draw [(2, 5), (3, 5), (2, 8), (3, 8), (5, 8), (6, 8)] (by kernel_rfl) ?_
   simp only [go_sem, simprocAttr, bs0_fun, append_nofuns, p1', p3', hao, hvv, List.mem_cons, List.not_mem_nil, or_false, forall_eq_or_imp, forall_eq, U.key, not_false_eq_true, ne_eq, implies_true, and_self, false_implies, not_true_eq_false, false_or]
   exact hR _ _ ⟨by simp only [go_sem, simprocAttr], by simp only [go_sem, simprocAttr], by simp only [go_sem, simprocAttr], by simp only [go_sem, simprocAttr] <;> rfl, by simp only [go_sem, simprocAttr] <;> rfl, ⟨_, by simp only [go_sem, simprocAttr] <;> rfl⟩, by simp only [go_sem, simprocAttr] <;> omega⟩
end
end Go.Proofs.YtghhkbigmmjanaaGreatDoor.VA
