/- What is proved: the flow of any block, from the Dead state, in the abstract interpreter (VA). Condition: no longer lists than a machine holds, not more than 100 statements.
What is proved: flow.Block from the Dead state, in the abstract interpreter (VA). Condition: no longer lists than a machine holds, not more than 100 statements.
What is proved: the reference's depth and size of a block answer at any block, in the abstract interpreter (VA). Condition: no longer lists than a machine holds.
What is proved: whether a block is too big for the reference answers at any block, in the abstract interpreter (VA). Condition: no longer lists than a machine holds.
What is proved: FlowDead's law, in the abstract interpreter (VA). Condition: no longer lists than a machine holds.
What is proved: an argument that is an abstract state, as a row's reader tells it, means a state in the abstract interpreter (VA). No condition.
What is proved: an argument that is a list of statements, or of signatures, as a row's reader tells it, means one in the abstract interpreter (VA). No condition. -/
import Derived.Test.YtnoahchdmkpleaaGreatM7
import Derived.Test.YtnoahchdmkpleaaGreatM6
import Derived.Test.YtnoahchdmkpleaaGreatM4
import Derived.Test.YtnoahchdmkpleaaGreatRows
import Derived.ChangeArms
/-! Flb -/
namespace Go.Proofs.YtnoahchdmkpleaaGreat.VA
open Go Go.RowKit
attribute [local go_sem] Nat.add_eq_left Nat.left_eq_add true_and and_true ite_true if_false Int.cast_ofNat_Int eq_self Nat.add_assoc Option.some.injEq decide_true decide_false Bool.not_true Bool.not_false List.size_toArray List.length_cons List.length_nil
set_option linter.unusedSimpArgs false
set_option linter.unusedVariables false
set_option maxRecDepth 100000

/-- Which function does a statement. -/
def opF (op : Int) : FuncId := if op = 9 then 97 else if op = 10 then 98 else 96
theorem cnt_take {b : List GS} {i : Nat} (h : i < b.length) : cntL (b.take (i + 1)) = cntL (b.take i) + cntG b[i] := by
 rw [← listL_len, ← listL_len, ← listG_len, listL_take h, List.length_append, listG_eq]
theorem sit_app (a b : List GS) : sitL (a ++ b) = sitL a + sitL b := by
 induction a with
 | nil => simp [sitL]
 | cons g a ih => simp only [List.cons_append, sitL, ih]; omega
theorem sit_take {b : List GS} {i : Nat} (h : i < b.length) : sitL (b.take (i + 1)) = sitL (b.take i) + sitG b[i] := by
 rw [List.take_succ_eq_append_getElem h, sit_app]
 simp only [sitL]; omega
theorem cnt_take_le (b : List GS) (i : Nat) : cntL (b.take i) ≤ cntL b := by
 have : cntL (b.take i) + cntL (b.drop i) = cntL b := by
  rw [← listL_len, ← listL_len, ← listL_len, ← List.length_append, ← listL_app, List.take_append_drop]
 omega
theorem AnyOk.frl {H H' : Heap} {o : Own} {es : List (List AV)} {e : TypeId} {sz : Nat} (h : AnyOk H o es e sz) (k : Frl .nil H H') (hk : ∀ j e z, o = .own j e z → j < H.next) : AnyOk H' o es e sz := by
 cases o with
 | own j e' z =>
  have h' : e' = e ∧ z = sz ∧ H.isLive j = true := h
  show e' = e ∧ z = sz ∧ H'.isLive j = true
  rw [k.lv j (hk j e' z rfl) (fun _ _ h => by cases h)]
  exact h'
 | _ => exact h
set_option maxHeartbeats 1000000 in
set_option maxHeartbeats 1000000 in
theorem s_block (sg : List Sg) (b : List GS) (hb : cntL b ≤ 190) (hok : ∀ (i : Nat) (h : i < b.length), StmtOk sg (opF b[i].op) b[i]) : BlockOk sg b := by
 intro n site hn hsi ow o0 H0
 refine calls_arr (fn := Tryz.f59) rfl rfl rfl rfl rfl ?_
 have rs : Tryz.f59.results.toList = [.cell 10 57] := rfl
 obtain ⟨m, hm⟩ : ∃ m, H0.next = m := ⟨_, rfl⟩
 have h1 := encSt_one deadS
 have h2 := encSt_len deadS
 have h3 := encSt_take deadS
 have z0_1 : ¬ m = m + 1 := by omega
 have z0_2 : ¬ m = m + 2 := by omega
 have z0_5 : ¬ m = m + 5 := by omega
 have z1_0 : ¬ m + 1 = m := by omega
 have z1_2 : ¬ m + 1 = m + 2 := by omega
 have z1_5 : ¬ m + 1 = m + 5 := by omega
 have z2_0 : ¬ m + 2 = m := by omega
 have z2_1 : ¬ m + 2 = m + 1 := by omega
 have z2_5 : ¬ m + 2 = m + 5 := by omega
 have z5_0 : ¬ m + 5 = m := by omega
 have z5_1 : ¬ m + 5 = m + 1 := by omega
 have z5_2 : ¬ m + 5 = m + 2 := by omega
 have i5 : cfg4.imp 54 = true := rfl
 simp only [go_sem, simprocAttr, rs, hm, Nat.add_zero, encGs_len, h1, h2, h3, z0_1, z0_2, z0_5, z1_0, z1_2, z1_5, z2_0, z2_1, z2_5, z5_0, z5_1, z5_2]
 refine W_loop_ind (fun k e H => ∃ (i : Nat) (o : Own), k = b.length - i ∧ i ≤ b.length ∧ H.get m = some [.sl ow (sg.map encSg)] ∧
   H.get (m + 5) = some [.sl o ((dds (cntL (b.take i))).map encSt), .sl .nil [], .sl .nil [], .lit (.bool deadS.dead), .sl .sh (deadS.vars.map encB), .sl .sh (deadS.locs.map encL)] ∧
   H.get (m + 2) = some [.sl .nil [], .sl .nil [], .sl .nil [], .lit (.bool false), .sl .nil [], .sl .nil []] ∧
   AnyOk H o ((dds (cntL (b.take i))).map encSt) 26 3 ∧ (∀ k e z, o = .own k e z → m ≤ k ∧ k < H.next) ∧ Frl .nil H0 H ∧ m + 10 ≤ H.next ∧
   gget .bad e 3 = .lit (.int .i64 ((n + cntL (b.take i) : Nat) : Int)) ∧ gget .bad e 4 = .lit (.int .i64 ((site + sitL (b.take i) : Nat) : Int)) ∧ gget .bad e 5 = .ptr m 0 ∧ gget .bad e 10 = .ptr (m + 2) 0 ∧ gget .bad e 11 = .ptr (m + 5) 0 ∧
   gget .bad e 18 = .sl o0 (encGs b) ∧ gget .bad e 19 = .lit (.int .i64 (b.length : Nat)) ∧ gget .bad e 20 = .lit (.int .i64 (i : Nat)))
  b.length ⟨0, .nil, rfl, by omega, by simp only [go_sem, simprocAttr, z0_1, z0_2, z0_5, z1_0, z1_2, z1_5, z2_0, z2_1, z2_5, z5_0, z5_1, z5_2], by simp only [go_sem, simprocAttr, z0_1, z0_2, z0_5, z1_0, z1_2, z1_5, z2_0, z2_1, z2_5, z5_0, z5_1, z5_2] <;> rfl, by simp only [go_sem, simprocAttr, z0_1, z0_2, z0_5, z1_0, z1_2, z1_5, z2_0, z2_1, z2_5, z5_0, z5_1, z5_2], trivial, (fun _ _ _ h => by cases h), by repeat (first | exact Frl.refl _ _ | refine Frl.up ?_ _ | refine Frl.put ?_ _ (by omega)), by simp only [go_sem, simprocAttr, hm]; omega,
   by simp only [go_sem, simprocAttr] <;> rfl, by simp only [go_sem, simprocAttr] <;> rfl, by simp only [go_sem, simprocAttr], by simp only [go_sem, simprocAttr], by simp only [go_sem, simprocAttr], by simp only [go_sem, simprocAttr], by simp only [go_sem, simprocAttr], by simp only [go_sem, simprocAttr] <;> rfl⟩ ?_
 rintro k ih e H ⟨i, o, rfl, hle, g0, g5, g2, hA, ho, hF, hnx, e3, e4, e5, e10, e11, e18, e19, e20⟩
 obtain ⟨y, hy⟩ : ∃ y, H.next = y := ⟨_, rfl⟩
 rw [hy] at hnx ho
 by_cases hl : i < b.length
 ·have d1 : decide ((i : Int) < (b.length : Nat)) = true := by simp; omega
  have hw1 := wrap1 (show i + 1 ≤ 9223372036854775807 by have := len_cnt b; omega)
  have ha := iad_G hl o0
  have x0 := encG_op b[i]
  have x1 := encG_one b[i]
  have x2 := encG_len b[i]
  have x3 := encG_take b[i]
  have ct := cnt_take hl
  have stt := sit_take hl
  have cl := cnt_take_le b (i + 1)
  have sl1 := sitL_le (b.take i)
  have sl2 := sitL_le (b.take (i + 1))
  have sg1 := sitG_le b[i]
  have y0 : ∀ j, ¬ y + j = m := fun j => by omega
  have y2 : ∀ j, ¬ y + j = m + 2 := fun j => by omega
  have y5 : ∀ j, ¬ y + j = m + 5 := fun j => by omega
  have y6 : ∀ j, ¬ m = y + j := fun j => by omega
  have y7 : ∀ j, ¬ m + 2 = y + j := fun j => by omega
  have y8 : ∀ j, ¬ m + 5 = y + j := fun j => by omega
  have hbl : aBuildSlice Tryz.prog 29 1 [(0, .agg (encG b[i]))] = some (.sl .ex (encGs [b[i]])) := build1 el_sStm (by decide) zr_stm rfl rfl _ x2 x1
  have hct : ∀ H, calls Tryz.prog cfg4 99 [.sl .ex (encGs [b[i]])] H = some (.ret (.lit (.int .i64 (cntG b[i]))) H) := fun H => by
   have := f_count .ex H [b[i]] (by simp only [cntL]; omega)
   simpa only [cntL, Nat.add_zero] using this
  have hsit : ∀ H, calls Tryz.prog cfg4 100 [.sl .ex (encGs [b[i]])] H = some (.ret (.lit (.int .i64 (sitG b[i]))) H) := fun H => by
   have := f_sites .ex H [b[i]] (by simp only [cntL]; omega)
   simpa only [sitL, Nat.add_zero] using this
  have hw2 : IntKind.i64.wrap (((n + cntL (b.take i) : Nat) : Int) + (cntG b[i] : Nat)) = ((n + cntL (b.take (i + 1)) : Nat) : Int) := by rw [wrapI (by omega), ct]; simp; omega
  have hw3 : IntKind.i64.wrap (((site + sitL (b.take i) : Nat) : Int) + (sitG b[i] : Nat)) = ((site + sitL (b.take (i + 1)) : Nat) : Int) := by rw [wrapI (by omega), stt]; simp; omega
  have hs := hok i hl (n + cntL (b.take i)) (site + sitL (b.take i)) (by omega) (by omega) ow
  unfold encFl at hs
  clear hok
  have i1 : cfg4.imp 99 = false := rfl
  by_cases h9 : b[i].op = 9
  ·have d9 : decide (b[i].op = 9) = true := by simp [h9]
   have hf : opF b[i].op = 97 := by simp [opF, h9]
   have i3 : cfg4.imp 97 = true := rfl
   rw [hf] at hs
   simp only [go_sem, simprocAttr, hy, Nat.add_zero, e3, e4, e5, e10, e11, e18, e19, e20, d1, ha, g0, g5, g2, x0, x1, x2, x3, h1, h2, h3, y0, y2, y5, y6, y7, y8, d9, z0_1, z0_2, z0_5, z1_0, z1_2, z1_5, z2_0, z2_1, z2_5, z5_0, z5_1, z5_2]
   refine W_drawH [(0, 3), (0, 4), (3, 4), (0, 7)] (by kernel_rfl) _ (by simp only [go_sem, simprocAttr, hoH]; rfl) ?_
   simp only [go_sem, simprocAttr, hy, Nat.add_zero, e3, e4, e5, e10, e11, e18, e19, e20, g0, g5, g2, x1, x2, x3, y0, y2, y5, y6, y7, y8, z0_1, z0_2, z0_5, z1_0, z1_2, z1_5, z2_0, z2_1, z2_5, z5_0, z5_1, z5_2]
   refine dK_ex (hs _) i3 ?_
   rintro v H1 ⟨o1, c1, f1, rfl, hF1⟩
   have n1 := hF1.f.nx
   simp only [go_sem, simprocAttr, hy] at n1
   have hA1 : AnyOk H1 o ((dds (cntL (b.take i))).map encSt) 26 3 := AnyOk.frl (by simpa only [AnyOk_up, AnyOk_put] using hA) hF1 (fun j e z hj => by have := (ho j e z hj).2; simp only [go_sem, simprocAttr, hy]; omega)
   have tT := f_then o o1 .nil c1 .nil f1 (dds (cntL (b.take i))) (dds (cntG b[i])) (.lit (.bool deadS.dead)) (.sl .sh (deadS.vars.map encB)) (.sl .sh (deadS.locs.map encL)) deadS rfl rfl rfl dds_ok (by rw [dds_len, dds_len]; unfold LA; omega) H1 hA1 (fun k e z hk => by have := (ho k e z hk).2; omega)
   unfold encFl at tT
   simp only [go_sem, simprocAttr]
   refine dK_ex tT i5 ?_
   rintro v H2 ⟨o2, rfl, hF2, hA2, hz2, hnz2⟩
   have n2 := hF2.f.nx
   obtain ⟨p, hp2⟩ : ∃ p, H2.next = p := ⟨_, rfl⟩
   have b5 : H2.get (m + 5) = some [.sl o ((dds (cntL (b.take i))).map encSt), .sl .nil [], .sl .nil [], .lit (.bool deadS.dead), .sl .sh (deadS.vars.map encB), .sl .sh (deadS.locs.map encL)] := by
    rw [hF2.f.get (by omega), hF1.f.get (by simp only [go_sem, simprocAttr, hy]; omega)]; simp only [go_sem, simprocAttr, y0, y2, y5, y6, y7, y8, g5, z0_1, z0_2, z0_5, z1_0, z1_2, z1_5, z2_0, z2_1, z2_5, z5_0, z5_1, z5_2]
   have b0 : H2.get m = some [.sl ow (sg.map encSg)] := by
    rw [hF2.f.get (by omega), hF1.f.get (by simp only [go_sem, simprocAttr, hy]; omega)]; simp only [go_sem, simprocAttr, y0, y2, y5, y6, y7, y8, g0, z0_1, z0_2, z0_5, z1_0, z1_2, z1_5, z2_0, z2_1, z2_5, z5_0, z5_1, z5_2]
   have b2 : H2.get (m + 2) = some [.sl .nil [], .sl .nil [], .sl .nil [], .lit (.bool false), .sl .nil [], .sl .nil []] := by
    rw [hF2.f.get (by omega), hF1.f.get (by simp only [go_sem, simprocAttr, hy]; omega)]; simp only [go_sem, simprocAttr, y0, y2, y5, y6, y7, y8, g2, z0_1, z0_2, z0_5, z1_0, z1_2, z1_5, z2_0, z2_1, z2_5, z5_0, z5_1, z5_2]
   have b3 : H2.get (y + 3) = some (encG b[i]) := by
    rw [hF2.f.get (by omega), hF1.f.get (by simp only [go_sem, simprocAttr, hy]; omega)]; simp only [go_sem, simprocAttr, y0, y2, y5, y6, y7, y8, z0_1, z0_2, z0_5, z1_0, z1_2, z1_5, z2_0, z2_1, z2_5, z5_0, z5_1, z5_2]
   simp only [go_sem, simprocAttr, rs, hp2, Nat.add_zero, e3, e4, e5, e10, e11, e18, e19, e20, b0, b2, b3, b5, x1, x2, x3, hbl, hct, hsit, hw1, hw2, hw3, y0, y2, y5, y6, y7, y8, z0_1, z0_2, z0_5, z1_0, z1_2, z1_5, z2_0, z2_1, z2_5, z5_0, z5_1, z5_2]
   refine ⟨hF1.keeps (by simp only [go_sem, simprocAttr, hy]; omega) (fun _ _ h => by cases h), ?_⟩
   have F1 : Frl .nil H0 H1 := Frl.trans (by repeat (first | exact hF | refine Frl.up ?_ _ | refine Frl.put ?_ _ (by omega))) hF1
   have F2 : Frl .nil H0 H2 := Frl.trans' F1 hF2 (fun k e z hk => by have := (ho k e z hk).1; omega)
   have ho2 : ∀ k e z, o2 = .own k e z → m ≤ k ∧ k < p := by
    intro k e z hk
    by_cases h0 : dds (cntG b[i]) = []
    ·rw [hz2 h0] at hk; have := ho k e z hk; omega
    ·obtain ⟨k', e', z', w1, w2, w3⟩ := hnz2 h0
     rw [w1] at hk; cases hk
     omega
   rw [dds_app, ← ct] at hA2 ⊢
   exact ih (b.length - (i + 1)) (by omega) _ _ ⟨i + 1, o2, rfl, by omega, by simp only [go_sem, simprocAttr, b0, z0_1, z0_2, z0_5, z1_0, z1_2, z1_5, z2_0, z2_1, z2_5, z5_0, z5_1, z5_2], by simp only [go_sem, simprocAttr, z0_1, z0_2, z0_5, z1_0, z1_2, z1_5, z2_0, z2_1, z2_5, z5_0, z5_1, z5_2], by simp only [go_sem, simprocAttr, b2, z0_1, z0_2, z0_5, z1_0, z1_2, z1_5, z2_0, z2_1, z2_5, z5_0, z5_1, z5_2], by simpa only [AnyOk_up, AnyOk_put] using hA2,
    fun k e z hk => by have := ho2 k e z hk; simp only [go_sem, simprocAttr, hp2]; omega, by repeat (first | exact F2 | refine Frl.up ?_ _ | refine Frl.put ?_ _ (by omega)), by simp only [go_sem, simprocAttr, hp2]; omega,
    by simp only [go_sem, simprocAttr], by simp only [go_sem, simprocAttr], by simp only [go_sem, simprocAttr, e5], by simp only [go_sem, simprocAttr, e10], by simp only [go_sem, simprocAttr, e11], by simp only [go_sem, simprocAttr, e18], by simp only [go_sem, simprocAttr, e19], by simp only [go_sem, simprocAttr] <;> rfl⟩
  by_cases h10 : b[i].op = 10
  ·have d9 : decide (b[i].op = 9) = false := by simp [h9]
   have d10 : decide (b[i].op = 10) = true := by simp [h10]
   have hf : opF b[i].op = 98 := by simp [opF, h10]
   have i3 : cfg4.imp 98 = true := rfl
   rw [hf] at hs
   simp only [go_sem, simprocAttr, hy, Nat.add_zero, e3, e4, e5, e10, e11, e18, e19, e20, d1, ha, g0, g5, g2, x0, x1, x2, x3, h1, h2, h3, y0, y2, y5, y6, y7, y8, d9, d10, z0_1, z0_2, z0_5, z1_0, z1_2, z1_5, z2_0, z2_1, z2_5, z5_0, z5_1, z5_2]
   refine W_drawH [(0, 3), (0, 4), (3, 4), (0, 7)] (by kernel_rfl) _ (by simp only [go_sem, simprocAttr, hoH]; rfl) ?_
   simp only [go_sem, simprocAttr, hy, Nat.add_zero, e3, e4, e5, e10, e11, e18, e19, e20, g0, g5, g2, x1, x2, x3, y0, y2, y5, y6, y7, y8, d10, z0_1, z0_2, z0_5, z1_0, z1_2, z1_5, z2_0, z2_1, z2_5, z5_0, z5_1, z5_2]
   refine dK_ex (hs _) i3 ?_
   rintro v H1 ⟨o1, c1, f1, rfl, hF1⟩
   have n1 := hF1.f.nx
   simp only [go_sem, simprocAttr, hy] at n1
   have hA1 : AnyOk H1 o ((dds (cntL (b.take i))).map encSt) 26 3 := AnyOk.frl (by simpa only [AnyOk_up, AnyOk_put] using hA) hF1 (fun j e z hj => by have := (ho j e z hj).2; simp only [go_sem, simprocAttr, hy]; omega)
   have tT := f_then o o1 .nil c1 .nil f1 (dds (cntL (b.take i))) (dds (cntG b[i])) (.lit (.bool deadS.dead)) (.sl .sh (deadS.vars.map encB)) (.sl .sh (deadS.locs.map encL)) deadS rfl rfl rfl dds_ok (by rw [dds_len, dds_len]; unfold LA; omega) H1 hA1 (fun k e z hk => by have := (ho k e z hk).2; omega)
   unfold encFl at tT
   simp only [go_sem, simprocAttr]
   refine dK_ex tT i5 ?_
   rintro v H2 ⟨o2, rfl, hF2, hA2, hz2, hnz2⟩
   have n2 := hF2.f.nx
   obtain ⟨p, hp2⟩ : ∃ p, H2.next = p := ⟨_, rfl⟩
   have b5 : H2.get (m + 5) = some [.sl o ((dds (cntL (b.take i))).map encSt), .sl .nil [], .sl .nil [], .lit (.bool deadS.dead), .sl .sh (deadS.vars.map encB), .sl .sh (deadS.locs.map encL)] := by
    rw [hF2.f.get (by omega), hF1.f.get (by simp only [go_sem, simprocAttr, hy]; omega)]; simp only [go_sem, simprocAttr, y0, y2, y5, y6, y7, y8, g5, z0_1, z0_2, z0_5, z1_0, z1_2, z1_5, z2_0, z2_1, z2_5, z5_0, z5_1, z5_2]
   have b0 : H2.get m = some [.sl ow (sg.map encSg)] := by
    rw [hF2.f.get (by omega), hF1.f.get (by simp only [go_sem, simprocAttr, hy]; omega)]; simp only [go_sem, simprocAttr, y0, y2, y5, y6, y7, y8, g0, z0_1, z0_2, z0_5, z1_0, z1_2, z1_5, z2_0, z2_1, z2_5, z5_0, z5_1, z5_2]
   have b2 : H2.get (m + 2) = some [.sl .nil [], .sl .nil [], .sl .nil [], .lit (.bool false), .sl .nil [], .sl .nil []] := by
    rw [hF2.f.get (by omega), hF1.f.get (by simp only [go_sem, simprocAttr, hy]; omega)]; simp only [go_sem, simprocAttr, y0, y2, y5, y6, y7, y8, g2, z0_1, z0_2, z0_5, z1_0, z1_2, z1_5, z2_0, z2_1, z2_5, z5_0, z5_1, z5_2]
   have b3 : H2.get (y + 3) = some (encG b[i]) := by
    rw [hF2.f.get (by omega), hF1.f.get (by simp only [go_sem, simprocAttr, hy]; omega)]; simp only [go_sem, simprocAttr, y0, y2, y5, y6, y7, y8, z0_1, z0_2, z0_5, z1_0, z1_2, z1_5, z2_0, z2_1, z2_5, z5_0, z5_1, z5_2]
   simp only [go_sem, simprocAttr, rs, hp2, Nat.add_zero, e3, e4, e5, e10, e11, e18, e19, e20, b0, b2, b3, b5, x1, x2, x3, hbl, hct, hsit, hw1, hw2, hw3, y0, y2, y5, y6, y7, y8, z0_1, z0_2, z0_5, z1_0, z1_2, z1_5, z2_0, z2_1, z2_5, z5_0, z5_1, z5_2]
   refine ⟨hF1.keeps (by simp only [go_sem, simprocAttr, hy]; omega) (fun _ _ h => by cases h), ?_⟩
   have F1 : Frl .nil H0 H1 := Frl.trans (by repeat (first | exact hF | refine Frl.up ?_ _ | refine Frl.put ?_ _ (by omega))) hF1
   have F2 : Frl .nil H0 H2 := Frl.trans' F1 hF2 (fun k e z hk => by have := (ho k e z hk).1; omega)
   have ho2 : ∀ k e z, o2 = .own k e z → m ≤ k ∧ k < p := by
    intro k e z hk
    by_cases h0 : dds (cntG b[i]) = []
    ·rw [hz2 h0] at hk; have := ho k e z hk; omega
    ·obtain ⟨k', e', z', w1, w2, w3⟩ := hnz2 h0
     rw [w1] at hk; cases hk
     omega
   rw [dds_app, ← ct] at hA2 ⊢
   exact ih (b.length - (i + 1)) (by omega) _ _ ⟨i + 1, o2, rfl, by omega, by simp only [go_sem, simprocAttr, b0, z0_1, z0_2, z0_5, z1_0, z1_2, z1_5, z2_0, z2_1, z2_5, z5_0, z5_1, z5_2], by simp only [go_sem, simprocAttr, z0_1, z0_2, z0_5, z1_0, z1_2, z1_5, z2_0, z2_1, z2_5, z5_0, z5_1, z5_2], by simp only [go_sem, simprocAttr, b2, z0_1, z0_2, z0_5, z1_0, z1_2, z1_5, z2_0, z2_1, z2_5, z5_0, z5_1, z5_2], by simpa only [AnyOk_up, AnyOk_put] using hA2,
    fun k e z hk => by have := ho2 k e z hk; simp only [go_sem, simprocAttr, hp2]; omega, by repeat (first | exact F2 | refine Frl.up ?_ _ | refine Frl.put ?_ _ (by omega)), by simp only [go_sem, simprocAttr, hp2]; omega,
    by simp only [go_sem, simprocAttr], by simp only [go_sem, simprocAttr], by simp only [go_sem, simprocAttr, e5], by simp only [go_sem, simprocAttr, e10], by simp only [go_sem, simprocAttr, e11], by simp only [go_sem, simprocAttr, e18], by simp only [go_sem, simprocAttr, e19], by simp only [go_sem, simprocAttr] <;> rfl⟩
  ·have d9 : decide (b[i].op = 9) = false := by simp [h9]
   have d10 : decide (b[i].op = 10) = false := by simp [h10]
   have hf : opF b[i].op = 96 := by simp [opF, h9, h10]
   have i3 : cfg4.imp 96 = true := rfl
   rw [hf] at hs
   simp only [go_sem, simprocAttr, hy, Nat.add_zero, e3, e4, e5, e10, e11, e18, e19, e20, d1, ha, g0, g5, g2, x0, x1, x2, x3, h1, h2, h3, y0, y2, y5, y6, y7, y8, d9, d10, z0_1, z0_2, z0_5, z1_0, z1_2, z1_5, z2_0, z2_1, z2_5, z5_0, z5_1, z5_2]
   refine W_drawH [(0, 3), (0, 4), (3, 4), (0, 7)] (by kernel_rfl) _ (by simp only [go_sem, simprocAttr, hoH]; rfl) ?_
   simp only [go_sem, simprocAttr, hy, Nat.add_zero, e3, e4, e5, e10, e11, e18, e19, e20, g0, g5, g2, x1, x2, x3, y0, y2, y5, y6, y7, y8, d10, z0_1, z0_2, z0_5, z1_0, z1_2, z1_5, z2_0, z2_1, z2_5, z5_0, z5_1, z5_2]
   refine dK_ex (hs _) i3 ?_
   rintro v H1 ⟨o1, c1, f1, rfl, hF1⟩
   have n1 := hF1.f.nx
   simp only [go_sem, simprocAttr, hy] at n1
   have hA1 : AnyOk H1 o ((dds (cntL (b.take i))).map encSt) 26 3 := AnyOk.frl (by simpa only [AnyOk_up, AnyOk_put] using hA) hF1 (fun j e z hj => by have := (ho j e z hj).2; simp only [go_sem, simprocAttr, hy]; omega)
   have tT := f_then o o1 .nil c1 .nil f1 (dds (cntL (b.take i))) (dds (cntG b[i])) (.lit (.bool deadS.dead)) (.sl .sh (deadS.vars.map encB)) (.sl .sh (deadS.locs.map encL)) deadS rfl rfl rfl dds_ok (by rw [dds_len, dds_len]; unfold LA; omega) H1 hA1 (fun k e z hk => by have := (ho k e z hk).2; omega)
   unfold encFl at tT
   simp only [go_sem, simprocAttr]
   refine dK_ex tT i5 ?_
   rintro v H2 ⟨o2, rfl, hF2, hA2, hz2, hnz2⟩
   have n2 := hF2.f.nx
   obtain ⟨p, hp2⟩ : ∃ p, H2.next = p := ⟨_, rfl⟩
   have b5 : H2.get (m + 5) = some [.sl o ((dds (cntL (b.take i))).map encSt), .sl .nil [], .sl .nil [], .lit (.bool deadS.dead), .sl .sh (deadS.vars.map encB), .sl .sh (deadS.locs.map encL)] := by
    rw [hF2.f.get (by omega), hF1.f.get (by simp only [go_sem, simprocAttr, hy]; omega)]; simp only [go_sem, simprocAttr, y0, y2, y5, y6, y7, y8, g5, z0_1, z0_2, z0_5, z1_0, z1_2, z1_5, z2_0, z2_1, z2_5, z5_0, z5_1, z5_2]
   have b0 : H2.get m = some [.sl ow (sg.map encSg)] := by
    rw [hF2.f.get (by omega), hF1.f.get (by simp only [go_sem, simprocAttr, hy]; omega)]; simp only [go_sem, simprocAttr, y0, y2, y5, y6, y7, y8, g0, z0_1, z0_2, z0_5, z1_0, z1_2, z1_5, z2_0, z2_1, z2_5, z5_0, z5_1, z5_2]
   have b2 : H2.get (m + 2) = some [.sl .nil [], .sl .nil [], .sl .nil [], .lit (.bool false), .sl .nil [], .sl .nil []] := by
    rw [hF2.f.get (by omega), hF1.f.get (by simp only [go_sem, simprocAttr, hy]; omega)]; simp only [go_sem, simprocAttr, y0, y2, y5, y6, y7, y8, g2, z0_1, z0_2, z0_5, z1_0, z1_2, z1_5, z2_0, z2_1, z2_5, z5_0, z5_1, z5_2]
   have b3 : H2.get (y + 3) = some (encG b[i]) := by
    rw [hF2.f.get (by omega), hF1.f.get (by simp only [go_sem, simprocAttr, hy]; omega)]; simp only [go_sem, simprocAttr, y0, y2, y5, y6, y7, y8, z0_1, z0_2, z0_5, z1_0, z1_2, z1_5, z2_0, z2_1, z2_5, z5_0, z5_1, z5_2]
   simp only [go_sem, simprocAttr, rs, hp2, Nat.add_zero, e3, e4, e5, e10, e11, e18, e19, e20, b0, b2, b3, b5, x1, x2, x3, hbl, hct, hsit, hw1, hw2, hw3, y0, y2, y5, y6, y7, y8, z0_1, z0_2, z0_5, z1_0, z1_2, z1_5, z2_0, z2_1, z2_5, z5_0, z5_1, z5_2]
   refine ⟨hF1.keeps (by simp only [go_sem, simprocAttr, hy]; omega) (fun _ _ h => by cases h), ?_⟩
   have F1 : Frl .nil H0 H1 := Frl.trans (by repeat (first | exact hF | refine Frl.up ?_ _ | refine Frl.put ?_ _ (by omega))) hF1
   have F2 : Frl .nil H0 H2 := Frl.trans' F1 hF2 (fun k e z hk => by have := (ho k e z hk).1; omega)
   have ho2 : ∀ k e z, o2 = .own k e z → m ≤ k ∧ k < p := by
    intro k e z hk
    by_cases h0 : dds (cntG b[i]) = []
    ·rw [hz2 h0] at hk; have := ho k e z hk; omega
    ·obtain ⟨k', e', z', w1, w2, w3⟩ := hnz2 h0
     rw [w1] at hk; cases hk
     omega
   rw [dds_app, ← ct] at hA2 ⊢
   exact ih (b.length - (i + 1)) (by omega) _ _ ⟨i + 1, o2, rfl, by omega, by simp only [go_sem, simprocAttr, b0, z0_1, z0_2, z0_5, z1_0, z1_2, z1_5, z2_0, z2_1, z2_5, z5_0, z5_1, z5_2], by simp only [go_sem, simprocAttr, z0_1, z0_2, z0_5, z1_0, z1_2, z1_5, z2_0, z2_1, z2_5, z5_0, z5_1, z5_2], by simp only [go_sem, simprocAttr, b2, z0_1, z0_2, z0_5, z1_0, z1_2, z1_5, z2_0, z2_1, z2_5, z5_0, z5_1, z5_2], by simpa only [AnyOk_up, AnyOk_put] using hA2,
    fun k e z hk => by have := ho2 k e z hk; simp only [go_sem, simprocAttr, hp2]; omega, by repeat (first | exact F2 | refine Frl.up ?_ _ | refine Frl.put ?_ _ (by omega)), by simp only [go_sem, simprocAttr, hp2]; omega,
    by simp only [go_sem, simprocAttr], by simp only [go_sem, simprocAttr], by simp only [go_sem, simprocAttr, e5], by simp only [go_sem, simprocAttr, e10], by simp only [go_sem, simprocAttr, e11], by simp only [go_sem, simprocAttr, e18], by simp only [go_sem, simprocAttr, e19], by simp only [go_sem, simprocAttr] <;> rfl⟩
 ·have d1 : decide ((i : Int) < (b.length : Nat)) = false := by simp; omega
  rw [List.take_of_length_le (by omega)] at g5
  simp only [go_sem, simprocAttr, hy, e3, e4, e5, e10, e11, e18, e19, e20, d1, rs, g0, g5, g2, z0_1, z0_2, z0_5, z1_0, z1_2, z1_5, z2_0, z2_1, z2_5, z5_0, z5_1, z5_2]
  exact ⟨_, rfl, o, _, _, rfl, by repeat (first | exact hF | refine Frl.up ?_ _ | refine Frl.put ?_ _ (by omega))⟩
end Go.Proofs.YtnoahchdmkpleaaGreat.VA

/-! Flc -/
namespace Go.Proofs.YtnoahchdmkpleaaGreat.VA
open Go Go.RowKit
attribute [local go_sem] Nat.add_eq_left Nat.left_eq_add true_and and_true ite_true if_false Int.cast_ofNat_Int eq_self Nat.add_assoc Option.some.injEq decide_true decide_false Bool.not_true Bool.not_false List.size_toArray List.length_cons List.length_nil
set_option linter.unusedSimpArgs false
set_option linter.unusedVariables false
set_option maxRecDepth 100000

theorem mem_listG {b : List GS} {i : Nat} (h : i < b.length) {x : GS} (hx : x ∈ listG b[i]) : x ∈ listL b := by
 have e : listL b = listL (b.take (i + 1)) ++ listL (b.drop (i + 1)) := by rw [← listL_app, List.take_append_drop]
 rw [e, listL_take h, ← listG_eq]
 exact List.mem_append_left _ (List.mem_append_right _ hx)
theorem block_all (sg : List Sg) (hsl : sg.length ≤ LA) : ∀ (N : Nat) (b : List GS), cntL b ≤ N → N ≤ 190 → (∀ g, g ∈ listL b → g.pr.length ≤ LA ∧ g.a.length ≤ LA) → BlockOk sg b := by
 intro N
 induction N with
 | zero =>
  intro b hb hN hok
  refine s_block sg b (by omega) (fun i h => ?_)
  have := len_cnt b
  omega
 | succ N ih =>
  intro b hb hN hok
  refine s_block sg b (by omega) (fun i h => ?_)
  have hc := cnt_get h
  have hg := hok b[i] (mem_listG h (by rw [listG_eq]; exact List.mem_cons_self ..))
  have hth := ih b[i].th (by omega) (by omega) (fun g hx => hok g (mem_listG h (by rw [listG_eq]; exact List.mem_cons_of_mem _ (List.mem_append_left _ hx))))
  have hel := ih b[i].el (by omega) (by omega) (fun g hx => hok g (mem_listG h (by rw [listG_eq]; exact List.mem_cons_of_mem _ (List.mem_append_right _ hx))))
  have hsm : b[i].small := ⟨hg.1, hg.2, by omega⟩
  unfold opF
  split
  ·exact s_branch sg hsl b[i] hsm hth hel
  ·split
   ·exact s_loop sg hsl b[i] hsm hth
   ·exact s_simple sg b[i] hsm
theorem f_Block (sg : List Sg) (hsl : sg.length ≤ LA) (b : List GS) (hb : cntL b ≤ 60) (hok : ∀ g, g ∈ listL b → g.pr.length ≤ LA ∧ g.a.length ≤ LA) (l : Int) (hl : ∀ H, calls Tryz.prog cfg4 26 [.sl .sh (encGs b)] H = some (.ret (.lit (.int .i64 l)) H)) (hl4 : l ≤ 4) (o o2 : Own) (H : Heap) :
  calls Tryz.prog cfg4 27 [.sl o (sg.map encSg), .agg (encSt deadS), .sl o2 (encGs b), .lit (.int .i64 0), .lit (.int .i64 0)] H = some (.ret (.agg (encFl .sh (dds (cntL b)) .sh .sh deadS)) H) := by
 refine calls_pure (fn := Tryz.f27) rfl rfl rfl rfl rfl ?_ H
 have rs : Tryz.f27.results.toList = [.cell 10 57] := rfl
 have e0 : sanL [AV.sl o (sg.map encSg), .agg (encSt deadS), .sl o2 (encGs b), .lit (.int .i64 0), .lit (.int .i64 0)] = [.sl .sh (sg.map encSg), .agg (encSt deadS), .sl .sh (encGs b), .lit (.int .i64 0), .lit (.int .i64 0)] := by
  simp only [sanL, san, sanL_encSt, sanLL_Sg, sanLL_encGs]
 have h1 := encSt_one deadS
 have h2 := encSt_len deadS
 have h3 := encSt_take deadS
 have hm : ∀ H, calls Tryz.prog cfg4 45 [.agg (encSt deadS)] H = some (.ret (.lit (.bool true)) H) := fun H => f_may H deadS deadS_ok
 have hc := fun H => f_copy H deadS deadS_ok
 have hc2 : ∀ H, calls Tryz.prog cfg4 48 [.agg [.lit (.bool deadS.dead), .sl .sh (deadS.vars.map encB), .sl .sh (deadS.locs.map encL)]] H = some (.ret (.agg (encSt deadS)) H) := hc
 have d0 : decide ((0 : Int) < 0) = false := rfl
 have d1 : decide ((1000000 : Int) < 0) = false := rfl
 have d4 : decide ((4 : Int) < l) = false := by simp; omega
 rw [e0]
 simp only [go_sem, simprocAttr, rs, h1, h2, h3, hm, hc, d0, d1, hl, d4]
 refine goC_ex (block_all sg hsl 60 b hb (by omega) hok 0 0 (by omega) (by omega) .sh .sh _) ?_
 rintro v H1 ⟨o1, c1, f1, rfl, hF1⟩
 have n1 := hF1.f.nx
 simp only [go_sem, simprocAttr] at n1
 obtain ⟨q, hq⟩ : ∃ q, H1.next = q + 36 := ⟨H1.next - 36, by omega⟩
 have g1 : H1.get 1 = some [.sl .nil [], .sl .nil [], .sl .nil [], .lit (.bool false), .sl .nil [], .sl .nil []] := by
  rw [hF1.f.get (by simp only [go_sem, simprocAttr])]; simp only [go_sem, simprocAttr]
 unfold encFl
 simp only [go_sem, simprocAttr, rs, hq, g1, h1, h2, h3, hc2]
 rw [sanLL_St]
 rfl
end Go.Proofs.YtnoahchdmkpleaaGreat.VA

/-! Fld -/
namespace Go.Proofs.YtnoahchdmkpleaaGreat.VA
open Go Go.RowKit
attribute [local go_sem] Nat.add_eq_left Nat.left_eq_add true_and and_true ite_true if_false Int.cast_ofNat_Int eq_self Nat.add_assoc Option.some.injEq decide_true decide_false Bool.not_true Bool.not_false List.size_toArray List.length_cons List.length_nil
set_option linter.unusedSimpArgs false
set_option linter.unusedVariables false
set_option maxRecDepth 100000

theorem f_deep : ∀ (m : Nat) (q : Int), q = m → m ≤ 8 → ∀ b : List GS, cntL b ≤ LA → ∀ o : Own, ∃ n : Int, ∀ H, calls Tryz.prog cfg4 58 [.sl o (encGs b), .lit (.int .i64 q)] H = some (.ret (.lit (.int .i64 n)) H) := by
 intro m
 induction m with
 | zero =>
  intro q hq hm b hb o
  obtain ⟨v, ⟨n, rfl⟩, hc⟩ := calls_pureX (P := Tryz.prog) (c := cfg4) (f := 58) (fn := Tryz.f58) (args := [.sl o (encGs b), .lit (.int .i64 q)]) (R := fun v => ∃ n : Int, v = .lit (.int .i64 n)) rfl rfl rfl rfl rfl (by
   have rs : Tryz.f58.results.toList = [.tmp 4] := rfl
   have e0 : sanL [AV.sl o (encGs b), .lit (.int .i64 q)] = [.sl .sh (encGs b), .lit (.int .i64 q)] := by simp only [sanL, san, sanLL_encGs]
   rw [e0]
   have d0 : decide ((0 : Int) < q) = false := by simp; omega
   simp only [go_sem, simprocAttr, rs, encGs_len, d0]
   refine W_loop_ind (fun k e H => gget .bad e 0 = .sl .sh (encGs b) ∧ gget .bad e 1 = .lit (.int .i64 q) ∧ gget .bad e 5 = .lit (.int .i64 0) ∧ gget .bad e 6 = .lit (.int .i64 0)) 0 ⟨by simp only [go_sem, simprocAttr], by simp only [go_sem, simprocAttr], by simp only [go_sem, simprocAttr], by simp only [go_sem, simprocAttr]⟩ ?_
   rintro k ih e H ⟨e0, e1, e5, e6⟩
   cases hd : decide ((0 : Int) < (b.length : Nat)) with
   | true => simp only [go_sem, simprocAttr, e0, e1, e5, e6, hd, d0, rs, encGs_len]; exact ⟨_, rfl, _, rfl⟩
   | false => simp only [go_sem, simprocAttr, e0, e1, e5, e6, hd, d0, rs, encGs_len]; exact ⟨_, rfl, _, rfl⟩)
  exact ⟨n, hc⟩
 | succ m ihm =>
  intro q hq hm b hb o
  obtain ⟨v, ⟨n, rfl⟩, hc⟩ := calls_pureX (P := Tryz.prog) (c := cfg4) (f := 58) (fn := Tryz.f58) (args := [.sl o (encGs b), .lit (.int .i64 q)]) (R := fun v => ∃ n : Int, v = .lit (.int .i64 n)) rfl rfl rfl rfl rfl (by
   have rs : Tryz.f58.results.toList = [.tmp 4] := rfl
   have e0 : sanL [AV.sl o (encGs b), .lit (.int .i64 q)] = [.sl .sh (encGs b), .lit (.int .i64 q)] := by simp only [sanL, san, sanLL_encGs]
   rw [e0]
   have hLA : LA = 1000000000000 := rfl
   have hll := len_cnt b
   have d0 : decide ((0 : Int) < q) = true := by simp; omega
   have hw := wrapI (n := q - 1) ⟨by omega, by omega⟩
   simp only [go_sem, simprocAttr, rs, encGs_len, d0]
   refine W_loop_ind (fun k e H => ∃ (i : Nat) (n : Int), k = b.length - i ∧ i ≤ b.length ∧ gget .bad e 0 = .sl .sh (encGs b) ∧ gget .bad e 1 = .lit (.int .i64 q) ∧ gget .bad e 5 = .lit (.int .i64 n) ∧ gget .bad e 6 = .lit (.int .i64 (i : Nat)))
    b.length ⟨0, 0, rfl, by omega, by simp only [go_sem, simprocAttr], by simp only [go_sem, simprocAttr], by simp only [go_sem, simprocAttr], by simp only [go_sem, simprocAttr]⟩ ?_
   rintro k ih e H ⟨i, n, rfl, hle, e0, e1, e5, e6⟩
   by_cases hl : i < b.length
   ·have d1 : decide ((i : Int) < (b.length : Nat)) = true := by simp; omega
    have ha := iad_G hl .sh
    have hw1 := wrap1 (show i + 1 ≤ 9223372036854775807 by omega)
    have hcg := cnt_get hl
    obtain ⟨n1, hn1⟩ := ihm (q - 1) (by omega) (by omega) b[i].th (by omega) .sh
    obtain ⟨n2, hn2⟩ := ihm (q - 1) (by omega) (by omega) b[i].el (by omega) .sh
    have x1 := encG_one b[i]
    have x2 := encG_len b[i]
    have x3 := encG_take b[i]
    have x6 := encG_th b[i]
    have x7 := encG_el b[i]
    have y6 : (List.drop 6 (encG b[i]))[0]? = some (.sl .sh (encGs b[i].th)) := by rw [List.getElem?_drop]; exact x6
    have y7 : (List.drop 7 (encG b[i]))[0]? = some (.sl .sh (encGs b[i].el)) := by rw [List.getElem?_drop]; exact x7
    have i1 : cfg4.imp 58 = false := rfl
    simp only [go_sem, simprocAttr, e0, e1, e5, e6, d0, d1, ha, x1, x2, x3, encGs_len, hw]
    refine W_drawH [(5, 13), (8, 13)] (by kernel_rfl) _ (by simp only [go_sem, simprocAttr, hoH]; rfl) ?_
    simp only [go_sem, simprocAttr, e0, e1, e5, e6, d0, d1, ha, x1, x2, x3, x6, x7, y6, y7, hn1, hn2, i1, hw, hw1]
    exact ih (b.length - (i + 1)) (by omega) _ _ ⟨i + 1, _, rfl, by omega, by simp only [go_sem, simprocAttr, e0], by simp only [go_sem, simprocAttr, e1], by simp only [go_sem, simprocAttr] <;> rfl, by simp only [go_sem, simprocAttr]⟩
   ·have d1 : decide ((i : Int) < (b.length : Nat)) = false := by simp; omega
    simp only [go_sem, simprocAttr, e0, e1, e5, e6, d0, d1, rs, encGs_len]
    exact ⟨_, rfl, _, rfl⟩)
  exact ⟨n, hc⟩
end Go.Proofs.YtnoahchdmkpleaaGreat.VA

/-! Fle -/
namespace Go.Proofs.YtnoahchdmkpleaaGreat.VA
open Go Go.RowKit
attribute [local go_sem] Nat.add_eq_left Nat.left_eq_add true_and and_true ite_true if_false Int.cast_ofNat_Int eq_self Nat.add_assoc Option.some.injEq decide_true decide_false Bool.not_true Bool.not_false List.size_toArray List.length_cons List.length_nil
set_option linter.unusedSimpArgs false
set_option linter.unusedVariables false
set_option maxRecDepth 100000

theorem iad_Sg {l : List Sg} {i : Nat} (h : i < l.length) (o : Own) : iad (some (74, 3, 48)) (.sl o (l.map encSg)) (some i) = some (.ep (encSg l[i])) := iad_map (f := encSg) h (fun _ => rfl)
theorem f_Big (sg : List Sg) (hsl : sg.length ≤ LA) (b : List GS) (hb : cntL b ≤ LB) (o o2 : Own) :
  ∃ B : Bool, (B = false → cntL b ≤ 60) ∧ ∀ H, calls Tryz.prog cfg4 25 [.sl o (sg.map encSg), .agg (encSt deadS), .sl o2 (encGs b)] H = some (.ret (.lit (.bool B)) H) := by
 have hLA : LA = 1000000000000 := rfl
 have hLB : LB = 100000000000 := rfl
 obtain ⟨v, ⟨B, rfl, hB⟩, hc⟩ := calls_pureX (P := Tryz.prog) (c := cfg4) (f := 25) (fn := Tryz.f25) (args := [.sl o (sg.map encSg), .agg (encSt deadS), .sl o2 (encGs b)]) (R := fun v => ∃ B : Bool, v = .lit (.bool B) ∧ (B = false → cntL b ≤ 60)) rfl rfl rfl rfl rfl (by
  have rs : Tryz.f25.results.toList = [.tmp 6] := rfl
  have e0 : sanL [AV.sl o (sg.map encSg), .agg (encSt deadS), .sl o2 (encGs b)] = [.sl .sh (sg.map encSg), .agg (encSt deadS), .sl .sh (encGs b)] := by
   simp only [sanL, san, sanL_encSt, sanLL_Sg, sanLL_encGs]
  have h1 := encSt_one deadS
  have h2 := encSt_len deadS
  have h3 := encSt_take deadS
  have hm := fun H => f_small H deadS
  have hsm : smT deadS = true := by kernel_rfl
  obtain ⟨n, hn⟩ := f_deep 8 8 rfl (Nat.le_refl _) b (by omega) .sh
  have hl := fun H => f_list LB b hb (Nat.le_refl _) .sh H
  have hll := len_cnt b
  rw [e0]
  cases d1 : decide ((10 : Int) < (sg.length : Nat)) with
  | true =>
   simp only [go_sem, simprocAttr, rs, h1, h2, h3, hm, hsm, d1, List.length_map]
   exact ⟨_, rfl, _, rfl, fun h => by cases h⟩
  | false =>
   cases d2 : decide ((8 : Int) ≤ n) with
   | true =>
    simp only [go_sem, simprocAttr, rs, h1, h2, h3, hm, hsm, d1, hn, d2, List.length_map]
    exact ⟨_, rfl, _, rfl, fun h => by cases h⟩
   | false =>
    cases d3 : decide ((60 : Int) < ((listL b).length : Nat)) with
    | true =>
     simp only [go_sem, simprocAttr, rs, h1, h2, h3, hm, hsm, d1, hn, d2, hl, d3, List.length_map, encGs_len]
     exact ⟨_, rfl, _, rfl, fun h => by cases h⟩
    | false =>
     have hcl : cntL b ≤ 60 := by rw [listL_len] at d3; have := of_decide_eq_false d3; omega
     have hcl2 : (listL b).length ≤ 60 := by rw [listL_len]; exact hcl
     simp only [go_sem, simprocAttr, rs, h1, h2, h3, hm, hsm, d1, hn, d2, hl, d3, List.length_map, encGs_len]
     refine W_loop_ind (fun k e H => ∃ (i : Nat), k = sg.length - i ∧ i ≤ sg.length ∧ gget .bad e 0 = .sl .sh (sg.map encSg) ∧ gget .bad e 2 = .sl .sh (encGs b) ∧ gget .bad e 7 = .lit (.int .i64 (i : Nat)))
      sg.length ⟨0, rfl, by omega, by simp only [go_sem, simprocAttr], by simp only [go_sem, simprocAttr], by simp only [go_sem, simprocAttr]⟩ ?_
     rintro k ih e H ⟨i, rfl, hle, e0, e2, e7⟩
     by_cases hi : i < sg.length
     ·have d4 : decide ((i : Int) < (sg.length : Nat)) = true := by simp; omega
      have ha := iad_Sg hi .sh
      have hw1 := wrap1 (show i + 1 ≤ 9223372036854775807 by omega)
      have s2 : (encSg sg[i]).length = 3 := rfl
      have y2 : (List.drop 2 (encSg sg[i]))[0]? = some (.sl .sh (sg[i].w.map enc1)) := rfl
      cases d5 : decide ((10 : Int) < (sg[i].w.length : Nat)) with
      | true =>
       simp only [go_sem, simprocAttr, rs, e0, e2, e7, d4, ha, s2, y2, d5, List.length_map]
       exact ⟨_, rfl, _, rfl, fun h => by cases h⟩
      | false =>
       simp only [go_sem, simprocAttr, rs, e0, e2, e7, d4, ha, s2, y2, d5, List.length_map, hw1]
       exact ih (sg.length - (i + 1)) (by omega) _ _ ⟨i + 1, rfl, by omega, by simp only [go_sem, simprocAttr, e0], by simp only [go_sem, simprocAttr, e2], by simp only [go_sem, simprocAttr]⟩
     ·have d4 : decide ((i : Int) < (sg.length : Nat)) = false := by simp; omega
      simp only [go_sem, simprocAttr, rs, e0, e2, e7, d4, hl, List.length_map]
      refine W_loop_ind (fun k e H => ∃ (i : Nat), k = (listL b).length - i ∧ i ≤ (listL b).length ∧ gget .bad e 8 = .sl .sh (encGs (listL b)) ∧ gget .bad e 9 = .lit (.int .i64 (i : Nat)))
       (listL b).length ⟨0, rfl, by omega, by simp only [go_sem, simprocAttr], by simp only [go_sem, simprocAttr]⟩ ?_
      rintro k ih e H ⟨i, rfl, hle, e8, e9⟩
      by_cases hi : i < (listL b).length
      ·have d4 : decide ((i : Int) < ((listL b).length : Nat)) = true := by simp; omega
       have ha := iad_G hi .sh
       have hw1 := wrap1 (show i + 1 ≤ 9223372036854775807 by omega)
       have x2 := encG_len (listL b)[i]
       have y4 : (List.drop 4 (encG (listL b)[i]))[0]? = some (.sl .sh ((listL b)[i].a.map encOp)) := by rw [List.getElem?_drop]; exact encG_a _
       have y5 : (List.drop 5 (encG (listL b)[i]))[0]? = some (.sl .sh ((listL b)[i].pr.map enc1)) := by rw [List.getElem?_drop]; exact encG_pr _
       cases d5 : decide ((10 : Int) < ((listL b)[i].a.length : Nat)) with
       | true =>
        simp only [go_sem, simprocAttr, rs, e8, e9, d4, ha, x2, y4, y5, d5, List.length_map, encGs_len]
        exact ⟨_, rfl, _, rfl, fun h => by cases h⟩
       | false =>
        cases d6 : decide ((10 : Int) < ((listL b)[i].pr.length : Nat)) with
        | true =>
         simp only [go_sem, simprocAttr, rs, e8, e9, d4, ha, x2, y4, y5, d5, d6, List.length_map, encGs_len]
         exact ⟨_, rfl, _, rfl, fun h => by cases h⟩
        | false =>
         simp only [go_sem, simprocAttr, rs, e8, e9, d4, ha, x2, y4, y5, d5, d6, List.length_map, encGs_len, hw1]
         exact ih ((listL b).length - (i + 1)) (by omega) _ _ ⟨i + 1, rfl, by omega, by simp only [go_sem, simprocAttr, e8], by simp only [go_sem, simprocAttr]⟩
      ·have d4 : decide ((i : Int) < ((listL b).length : Nat)) = false := by simp; omega
       simp only [go_sem, simprocAttr, rs, e8, e9, d4, List.length_map, encGs_len]
       exact ⟨_, rfl, _, rfl, fun _ => hcl⟩)
 exact ⟨B, hB, hc⟩
end Go.Proofs.YtnoahchdmkpleaaGreat.VA

/-! Flf -/
namespace Go.Proofs.YtnoahchdmkpleaaGreat.VA
open Go Go.RowKit
attribute [local go_sem] Nat.add_eq_left Nat.left_eq_add true_and and_true ite_true if_false Int.cast_ofNat_Int eq_self Nat.add_assoc Option.some.injEq decide_true decide_false Bool.not_true Bool.not_false List.size_toArray List.length_cons List.length_nil
set_option linter.unusedSimpArgs false
set_option linter.unusedVariables false
set_option maxRecDepth 100000

theorem f_Casts (H : Heap) : calls Tryz.prog cfg4 29 [.sl .sh [], .sl .nil []] H = some (.ret (.lit (.bool true)) H) := calls_iff.2 ⟨20, by kernel_rfl⟩
theorem dds_get {n i : Nat} (h : i < n) (o : Own) : iad (some (26, 3, 56)) (.sl o ((dds n).map encSt)) (some i) = some (.ep (encSt deadS)) := by
 have hi : i < (dds n).length := by rw [dds_len]; exact h
 have hx : (dds n)[i] = deadS := List.eq_of_mem_replicate (List.getElem_mem hi)
 have := iad_map (f := encSt) (t := 26) (n := 3) (b := 56) (o := o) hi (fun x => encSt_len x)
 rw [hx] at this
 exact this
theorem c_FlowDead (sg : List Sg) (hsl : sg.length ≤ LA) (b : List GS) (hb : cntL b ≤ LB) (hok : ∀ g, g ∈ listL b → g.pr.length ≤ LA ∧ g.a.length ≤ LA) (o o2 : Own) (H : Heap) :
  calls Tryz.prog cfg4 7 [.sl o (sg.map encSg), .sl o2 (encGs b)] H = some (.ret (.lit (.bool true)) H) := by
 refine calls_pure (fn := Tryz.f7) rfl rfl rfl rfl rfl ?_ H
 have rs : Tryz.f7.results.toList = [.tmp 4] := rfl
 have e0 : sanL [AV.sl o (sg.map encSg), .sl o2 (encGs b)] = [.sl .sh (sg.map encSg), .sl .sh (encGs b)] := by
  simp only [sanL, san, sanLL_Sg, sanLL_encGs]
 have hLA : LA = 1000000000000 := rfl
 have hLB : LB = 100000000000 := rfl
 have hf := fun H => f_fixed (H := H)
 have eD : (fun t : List AV => sanL t) [AV.sl .sh (sg.map encSg), .agg [.lit (.bool true), .sl .nil [], .sl .nil []], .sl .sh (encGs b)] = [.sl .sh (sg.map encSg), .agg (encSt deadS), .sl .sh (encGs b)] := by
  simp only [sanL, san, sanLL_Sg, sanLL_encGs]; rfl
 obtain ⟨B, hB, hbig⟩ := f_Big sg hsl b hb .sh .sh
 have hbig' : ∀ H, calls Tryz.prog cfg4 25 [.sl .sh (sg.map encSg), .agg [.lit (.bool true), .sl .nil [], .sl .nil []], .sl .sh (encGs b)] H = some (.ret (.lit (.bool B)) H) := fun H => calls_san rfl rfl rfl rfl (by
  rw [show sanL _ = _ from eD]; exact hbig H)
 obtain ⟨n, hn⟩ := f_loops LB b hb (by omega) .sh
 rw [e0]
 cases B with
 | true => simp only [go_sem, simprocAttr, rs, hf, hbig']
 | false =>
  have hc := hB rfl
  cases d4 : decide ((4 : Int) < n) with
  | true => simp only [go_sem, simprocAttr, rs, hf, hbig', hn, d4]
  | false =>
   have hn4 : n ≤ 4 := by have := of_decide_eq_false d4; omega
   have hbl := f_Block sg hsl b hc hok n hn hn4 .sh .sh
   have hbl' : ∀ H, calls Tryz.prog cfg4 27 [.sl .sh (sg.map encSg), .agg [.lit (.bool true), .sl .nil [], .sl .nil []], .sl .sh (encGs b), .lit (.int .i64 0), .lit (.int .i64 0)] H = some (.ret (.agg (encFl .sh (dds (cntL b)) .sh .sh deadS)) H) := fun H => calls_san rfl rfl rfl rfl (by
    have e1 : sanL [AV.sl .sh (sg.map encSg), .agg [.lit (.bool true), .sl .nil [], .sl .nil []], .sl .sh (encGs b), .lit (.int .i64 0), .lit (.int .i64 0)] = [.sl .sh (sg.map encSg), .agg (encSt deadS), .sl .sh (encGs b), .lit (.int .i64 0), .lit (.int .i64 0)] := by
     simp only [sanL, san, sanLL_Sg, sanLL_encGs]; rfl
    rw [e1]; exact hbl H)
   have hsame := fun H => f_same H deadS deadS_ok
   have hsame1 : ∀ H, calls Tryz.prog cfg4 17 [.agg (encSt deadS), .agg [.lit (.bool true), .sl .nil [], .sl .nil []]] H = some (.ret (.lit (.bool true)) H) := fun H =>
    calls_by rfl (fun H => by
     have e1 : sanL (sanL [AV.agg (encSt deadS), .agg [.lit (.bool true), .sl .nil [], .sl .nil []]]) = [.agg (encSt deadS), .agg (encSt deadS)] := by simp only [sanL, san, sanL_encSt]; rfl
     have e2 : sanL [AV.agg (encSt deadS), .agg [.lit (.bool true), .sl .nil [], .sl .nil []]] = [.agg (encSt deadS), .agg (encSt deadS)] := by simp only [sanL, san, sanL_encSt]; rfl
     first | rw [e1] | rw [e2]
     exact c_sameSt deadS deadS_ok H) (by simp only [san]) H
   have hl := fun H => f_list LB b hb (Nat.le_refl _) .sh H
   unfold encFl at hbl'
   simp only [go_sem, simprocAttr, rs, hf, hbig', hn, d4, hbl', List.length_map, dds_len]
   have hnb : cntL b ≤ 9223372036854775806 := by omega
   have h1 := encSt_one deadS
   have h2 := encSt_len deadS
   have h3 := encSt_take deadS
   have i1 : cfg4.imp 17 = false := rfl
   have i2 : cfg4.imp 28 = false := rfl
   have i3 : cfg4.imp 29 = false := rfl
   refine W_loop_ind (fun k e H => ∃ (i : Nat), k = cntL b - i ∧ i ≤ cntL b ∧ 21 < H.next ∧ H.get 2 = some [.lit (.bool true), .sl .nil [], .sl .nil []] ∧
     H.get 21 = some [.sl .sh (List.map encSt (dds (cntL b))), .sl .sh [], .sl .sh [], .lit (.bool deadS.dead), .sl .sh (List.map encB deadS.vars), .sl .sh (List.map encL deadS.locs)] ∧
     gget .bad e 1 = .sl .sh (encGs b) ∧ gget .bad e 5 = .ptr 2 0 ∧ gget .bad e 6 = .ptr 21 0 ∧ gget .bad e 7 = .lit (.int .i64 (i : Nat)))
    (cntL b) ⟨0, rfl, by omega, by simp only [go_sem, simprocAttr], by simp only [go_sem, simprocAttr], by simp only [go_sem, simprocAttr], by simp only [go_sem, simprocAttr], by simp only [go_sem, simprocAttr], by simp only [go_sem, simprocAttr], by simp only [go_sem, simprocAttr]⟩ ?_
   rintro k ih e H ⟨i, rfl, hle, hx, g2, g21, e1, e5, e6, e7⟩
   obtain ⟨m, hm⟩ : ∃ m, H.next = m + 22 := ⟨H.next - 22, by omega⟩
   have l2 : ¬ m + 22 = 2 := by omega
   by_cases hi : i < cntL b
   ·have d5 : decide ((i : Int) < (cntL b : Nat)) = true := by simp; omega
    have ha := dds_get hi .sh
    have hw1 := wrap1 (show i + 1 ≤ 9223372036854775807 by omega)
    simp only [go_sem, simprocAttr, rs, g2, g21, e1, e5, e6, e7, hm, d5, List.length_map, dds_len]
    refine W_drawH [(1, 5), (4, 5)] (by kernel_rfl) _ (by simp only [go_sem, simprocAttr, hoH]; rfl) ?_
    simp only [go_sem, simprocAttr, rs, g2, g21, e1, e5, e6, e7, hm, d5, ha, h1, h2, h3, hsame1, i1, hw1, List.length_map, dds_len]
    exact ih (cntL b - (i + 1)) (by omega) _ _ ⟨i + 1, rfl, by omega, by simp only [go_sem, simprocAttr, hm]; omega, by simp only [go_sem, simprocAttr, g2], by simp only [go_sem, simprocAttr, g21], by simp only [go_sem, simprocAttr, e1], by simp only [go_sem, simprocAttr, e5], by simp only [go_sem, simprocAttr, e6], by simp only [go_sem, simprocAttr]⟩
   ·have d5 : decide ((i : Int) < (cntL b : Nat)) = false := by simp; omega
    simp only [go_sem, simprocAttr, rs, g2, g21, e1, e5, e6, e7, hm, d5, List.length_map, dds_len]
    refine W_drawH [(1, 4), (21, 22)] (by kernel_rfl) _ (by simp only [go_sem, simprocAttr, hoH]; rfl) ?_
    have ht : encSt deadS = [.lit (.bool deadS.dead), .sl .sh (List.map encB deadS.vars), .sl .sh (List.map encL deadS.locs)] := rfl
    have d6 : decide (((cntL b : Nat) : Int) = ((listL b).length : Nat)) = true := by rw [listL_len]; simp
    rw [ht] at hsame1
    simp only [go_sem, simprocAttr, rs, g2, g21, e1, e5, e6, e7, hm, hl, i1, i2, i3, d6, hsame1, f_Casts, encGs_len, List.length_map, dds_len]
end Go.Proofs.YtnoahchdmkpleaaGreat.VA

/-! Dr -/
namespace Go.Proofs.YtnoahchdmkpleaaGreat.VA
open Go Go.RowKit
set_option linter.unusedSimpArgs false
set_option maxRecDepth 100000

instance : Inhabited Bnd := ⟨⟨⟨#[]⟩, []⟩⟩
instance : Inhabited Fd := ⟨⟨⟨#[]⟩, false, []⟩⟩
instance : Inhabited Lc := ⟨⟨(0, 0), ⟨[], []⟩⟩⟩
theorem cells_read {w : World} {a : Addr} : ∀ (n : Nat) (vs : List Value), ((List.range n).mapM fun i => w.cell? (a.add i)) = some vs → vs.length = n ∧ ∀ j, j < n → w.cell? (a.add j) = vs[j]? := by
 intro n vs h
 have key : ∀ (l : List Nat) (vs : List Value), (l.mapM fun i => w.cell? (a.add i)) = some vs → vs.length = l.length ∧ ∀ j (hj : j < l.length), w.cell? (a.add l[j]) = vs[j]? := by
  intro l
  induction l with
  | nil => intro vs h; simp at h; subst h; exact ⟨rfl, fun j hj => by simp at hj⟩
  | cons i l ih =>
   intro vs h
   rw [List.mapM_cons] at h
   simp only [Option.bind_eq_bind, Option.bind_eq_some_iff] at h
   obtain ⟨v, h1, vs', h2, h3⟩ := h
   simp at h3
   subst h3
   obtain ⟨k1, k2⟩ := ih vs' h2
   refine ⟨by simp [k1], fun j hj => ?_⟩
   cases j with
   | zero => simpa using h1
   | succ j => simpa using k2 j (by simpa using hj)
 obtain ⟨h1, h2⟩ := key _ _ h
 simp at h1
 exact ⟨h1, fun j hj => by have := h2 j (by simpa using hj); simpa using this⟩
theorem bulk_list {H G : Type} (mu : G → Nat) : ∀ (l : List G) (el : List (DataW H)), l.length = el.length → (∀ (i : Nat) g y, l[i]? = some g → el[i]? = some y → mu g ≤ Rows.uptoBulk y) → (l.map mu).sum ≤ Rows.uptoBulkAll el
 | [], el, _, _ => Nat.zero_le _
 | g :: l, [], h, _ => by simp at h
 | g :: l, y :: el, h, k => by
  have h1 := k 0 g y rfl rfl
  have h2 := bulk_list mu l el (by simpa using h) (fun i g y a b => k (i + 1) g y (by simpa using a) (by simpa using b))
  simp only [List.map_cons, List.sum_cons, Rows.uptoBulkAll]
  omega
set_option maxHeartbeats 1000000 in
/-- A slice: what its elements mean, it means. -/
theorem open_slice {H G : Type} [Inhabited G] {enc : TypeId × Value → H} {w : World} {base : Nat} {spare : Nat → Bool} {held : Bool} {fuel : Nat} {t e : TypeId} {sz : Nat}
  (ht : Tryz.prog.underlying t = some (.slice e)) (hsz : Tryz.prog.cellsOf e = sz) (h0 : 0 < sz) (encA : G → List AV) (ok : G → Bool) (mu : G → Nat)
  (each : ∀ n cs x, fuel = n + 1 → DataW.trod enc Tryz.prog w base spare held n e cs = some x → ∃ g, RelL (ghost w) w (encA g) cs ∧ cs.length = sz ∧ (∀ v ∈ cs, v.oneCell' = true) ∧ ok g = true ∧ mu g ≤ Rows.uptoBulk x.1)
  {cs : List Value} {x : DataW H × List MemPlace} (h : DataW.trod enc Tryz.prog w base spare held fuel t cs = some x) :
  ∃ (v : Value) (l : List G), cs = [v] ∧ v.oneCell' = true ∧ Rel (ghost w) w (.sl .sh (l.map encA)) v ∧ l.all ok = true ∧ (l.map mu).sum + 1 ≤ Rows.uptoBulk x.1 := by
 rcases DataW.trod_slice ht h with ⟨rfl, rfl⟩ | ⟨a, len, cap, elems, rest, n, rfl, rfl, rfl, hb, hlc, hcm, hel, hi, _, _⟩
 ·refine ⟨_, [], rfl, rfl, ?_, rfl, by simp [Rows.uptoBulk]⟩
  exact .sl .sh [] none 0 0 0 (fun _ => undef) (by simp) rfl (Nat.le_refl _) (by simp) (by simp) (by simp) (by simp) (fun h => absurd rfl h) (by simp)
 ·rw [hsz] at hi
  have each' : ∀ i, i < len → ∃ (g : G) (cs : List Value) (y : DataW H × List MemPlace), elems[i]? = some y ∧ RelL (ghost w) w (encA g) cs ∧ cs.length = sz ∧ (∀ v ∈ cs, v.oneCell' = true) ∧ ok g = true ∧ mu g ≤ Rows.uptoBulk y.1 ∧ ∀ j, j < sz → w.cell? ((a.add (i * sz)).add j) = cs[j]? := by
   intro i hlt
   have h1 := hi i hlt
   have h2 : elems[i]? = some elems[i] := List.getElem?_eq_getElem (by omega)
   rw [h2] at h1
   simp only [Option.bind_eq_some_iff] at h1
   obtain ⟨cs, h3, h4⟩ := h1
   obtain ⟨g, k1, k2, k3, k4, k5⟩ := each n cs _ rfl h4
   refine ⟨g, cs, _, h2, k1, k2, k3, k4, k5, fun j hj => ?_⟩
   unfold World.cells? at h3
   split at h3
   ·exact (cells_read sz _ h3).2 j hj
   ·cases h3
  let G' : Nat → G := fun i => open Classical in if h : i < len then (each' i h).choose else default
  have hG : ∀ i, i < len → ∃ (cs : List Value) (y : DataW H × List MemPlace), elems[i]? = some y ∧ RelL (ghost w) w (encA (G' i)) cs ∧ cs.length = sz ∧ (∀ v ∈ cs, v.oneCell' = true) ∧ ok (G' i) = true ∧ mu (G' i) ≤ Rows.uptoBulk y.1 ∧ ∀ j, j < sz → w.cell? ((a.add (i * sz)).add j) = cs[j]? := by
   intro i hlt
   have : G' i = (each' i hlt).choose := by simp [G', hlt]
   rw [this]
   exact (each' i hlt).choose_spec
  have addr : ∀ i j, i * sz + j ≠ 0 → (a.add (i * sz)).add j = ⟨a.block, a.off + (i * sz + j), none⟩ := by
   intro i j hij
   unfold Addr.add
   by_cases h1 : i * sz = 0
   ·rw [if_pos h1, if_neg (by omega)]; congr 1; omega
   ·rw [if_neg h1]
    by_cases h2 : j = 0
    ·rw [if_pos h2]; congr 1; omega
    ·rw [if_neg h2]; congr 1; simp only; omega
  have cell : 0 < len → a = ⟨a.block, a.off, none⟩ := by
   intro hl0
   obtain ⟨cs, y, _, _, k2, _, _, _, k6⟩ := hG 0 hl0
   have h1 := k6 0 h0
   have h2 : (a.add (0 * sz)).add 0 = a := by rw [Nat.zero_mul]; rfl
   rw [h2, List.getElem?_eq_getElem (by omega)] at h1
   unfold World.cell? at h1
   split at h1
   ·split at h1
    ·cases h1
    ·rename_i hs
     cases a with
     | mk b o sp => cases sp with
      | none => rfl
      | some s => simp at hs
   ·cases h1
  have hcell : ∀ i, i < len → ∃ cs : List Value, RelL (ghost w) w (encA (G' i)) cs ∧ cs.length = sz ∧ (∀ v ∈ cs, v.oneCell' = true) ∧ ∀ j, j < sz → w.cell? ⟨a.block, a.off + (i * sz + j), none⟩ = cs[j]? := by
   intro i hlt
   obtain ⟨cs, y, _, k1, k2, k3, _, _, k6⟩ := hG i hlt
   refine ⟨cs, k1, k2, k3, fun j hj => ?_⟩
   rw [← k6 j hj]
   by_cases hz : i * sz + j = 0
   ·have e2 : j = 0 := by omega
    have e3 : i * sz = 0 := by omega
    have := cell (by omega)
    rw [e3, e2]
    show w.cell? ⟨a.block, a.off, none⟩ = w.cell? a
    rw [← this]
   ·rw [addr i j hz]
  have split : ∀ k, k < len * sz → ∃ i j, k = i * sz + j ∧ j < sz ∧ i < len := fun k hk =>
   ⟨k / sz, k % sz, (Nat.div_add_mod' k sz).symm, Nat.mod_lt _ h0, Nat.div_lt_of_lt_mul (by rw [Nat.mul_comm]; exact hk)⟩
  refine ⟨_, (List.range len).map G', rfl, rfl, ?_, ?_, ?_⟩
  ·refine .sl .sh _ (some a) len cap sz (fun k => (w.cell? ⟨a.block, a.off + k, none⟩).getD undef) (by simp) (by simp) hlc (by simp) (by simp) ?_ ?_ ?_ ?_
   ·intro e he
    obtain ⟨g, hg, rfl⟩ := List.mem_map.1 he
    obtain ⟨i, hi, rfl⟩ := List.mem_map.1 hg
    obtain ⟨cs, k1, k2, _⟩ := hcell i (List.mem_range.1 hi)
    rw [k1.1, k2]
   ·intro k hk
    obtain ⟨i, j, rfl, hj, hlt⟩ := split k hk
    obtain ⟨cs, k1, k2, k3, k4⟩ := hcell i hlt
    have hjl : j < cs.length := by omega
    rw [k4 j hj, List.getElem?_eq_getElem hjl]
    exact k3 _ (List.getElem_mem hjl)
   ·intro hn0
    have ha := cell (by omega)
    refine ⟨a.block, a.off, by rw [← ha], ?_, ?_⟩
    ·obtain ⟨cs, k1, k2, k3, k4⟩ := hcell (len - 1) (by omega)
     have hlast := k4 (sz - 1) (by omega)
     rw [List.getElem?_eq_getElem (by omega)] at hlast
     have hmul : (len - 1) * sz + sz = len * sz := by
      rw [← Nat.succ_mul]; congr 1; omega
     show a.off + len * sz ≤ cellsIn w a.block
     unfold World.cell? at hlast
     unfold cellsIn
     split at hlast
     ·rename_i c _ _ hheap
      rw [hheap]
      simp only
      simp at hlast
      have := (Array.getElem?_eq_some_iff.1 hlast).1
      omega
     ·cases hlast
    ·intro k hk
     obtain ⟨i, j, rfl, hj, hlt⟩ := split k hk
     obtain ⟨cs, k1, k2, k3, k4⟩ := hcell i hlt
     rw [k4 j hj, List.getElem?_eq_getElem (by omega)]
     rfl
   ·intro i e j x he hx
    rw [List.map_map, List.getElem?_map] at he
    have hlt : i < len := by
     apply Classical.byContradiction
     intro hh
     rw [List.getElem?_eq_none (by simpa using hh)] at he
     cases he
    rw [List.getElem?_range hlt] at he
    simp only [Option.map_some, Option.some.injEq, Function.comp_apply] at he
    subst he
    obtain ⟨cs, k1, k2, k3, k4⟩ := hcell i hlt
    have hj : j < sz := by
     have := (List.getElem?_eq_some_iff.1 hx).1
     rw [k1.1] at this
     omega
    have hjl : j < cs.length := by omega
    rw [k4 j hj, List.getElem?_eq_getElem hjl]
    exact k1.2 j x _ hx (List.getElem?_eq_getElem hjl)
  ·rw [List.all_eq_true]
   intro g hg
   obtain ⟨i, hi, rfl⟩ := List.mem_map.1 hg
   obtain ⟨cs, y, _, _, _, _, k5, _⟩ := hG i (List.mem_range.1 hi)
   exact k5
  ·have := bulk_list mu ((List.range len).map G') (elems.map (·.1)) (by simp [hel]) (fun i g y hg hy => by
    have hlt : i < len := by
     apply Classical.byContradiction
     intro hh
     rw [List.getElem?_eq_none (by simpa using hh)] at hg
     cases hg
    rw [List.getElem?_map, List.getElem?_range hlt] at hg
    simp only [Option.map_some, Option.some.injEq] at hg
    subst hg
    obtain ⟨cs, z, k0, _, _, _, _, k6, _⟩ := hG i hlt
    rw [List.getElem?_map, k0] at hy
    simp only [Option.map_some, Option.some.injEq] at hy
    subst hy
    exact k6)
   simp only [Rows.uptoBulk]
   omega
theorem cells_int : Tryz.prog.cellsOf 3 = 1 := by kernel_rfl
theorem cells_bool : Tryz.prog.cellsOf 4 = 1 := by kernel_rfl
theorem cells_string : Tryz.prog.cellsOf 9 = 1 := by kernel_rfl
theorem cells_atm : Tryz.prog.cellsOf 81 = 2 := by kernel_rfl
theorem cells_bnd : Tryz.prog.cellsOf 76 = 2 := by kernel_rfl
theorem cells_fld : Tryz.prog.cellsOf 85 = 3 := by kernel_rfl
theorem cells_shp : Tryz.prog.cellsOf 79 = 2 := by kernel_rfl
theorem cells_loc : Tryz.prog.cellsOf 83 = 4 := by kernel_rfl
theorem cells_sta : Tryz.prog.cellsOf 26 = 3 := by kernel_rfl
theorem cells_sAtm : Tryz.prog.cellsOf 50 = 1 := by kernel_rfl
theorem cells_sBnd : Tryz.prog.cellsOf 23 = 1 := by kernel_rfl
theorem cells_sFld : Tryz.prog.cellsOf 77 = 1 := by kernel_rfl
theorem cells_sLoc : Tryz.prog.cellsOf 24 = 1 := by kernel_rfl
theorem tk1 (c : Value) (r : List Value) (n : Nat) (h : n = 1) : (c :: r).take n = [c] := by subst h; rfl
theorem tk2 (c d : Value) (r : List Value) (n : Nat) (h : n = 2) : (c :: d :: r).take n = [c, d] := by subst h; rfl
theorem RelL.app {g : Gh} {w : World} {a b : List AV} {c d : List Value} (h : RelL g w a c) (k : RelL g w b d) : RelL g w (a ++ b) (c ++ d) := by
 obtain ⟨h1, h2⟩ := h
 obtain ⟨k1, k2⟩ := k
 refine ⟨by simp [h1, k1], fun i x v hx hv => ?_⟩
 by_cases hi : i < a.length
 ·rw [List.getElem?_append_left hi] at hx
  rw [List.getElem?_append_left (by omega)] at hv
  exact h2 i x v hx hv
 ·rw [List.getElem?_append_right (by omega)] at hx
  rw [List.getElem?_append_right (by omega), ← h1] at hv
  exact k2 (i - a.length) x v hx hv
section
variable {H : Type} {enc : TypeId × Value → H} {w : World} {base : Nat} {spare : Nat → Bool} {held : Bool}
theorem open_atm {fuel : Nat} {cs : List Value} {x : DataW H × List MemPlace} (h : DataW.trod enc Tryz.prog w base spare held fuel 81 cs = some x) :
  ∃ g : Int × Int, RelL (ghost w) w (avA g) cs ∧ cs.length = 2 ∧ (∀ v ∈ cs, v.oneCell' = true) ∧ true = true ∧ 0 ≤ Rows.uptoBulk x.1 := by
 obtain ⟨xs, n, rfl, rfl, hl, hxs, hf⟩ := DataW.trod_struct Tryz.underlying81 h
 rw [cells_atm] at hl
 obtain ⟨c0, c1, rfl⟩ : ∃ c0 c1, cs = [c0, c1] := by
  match cs, hl with
  | [c0, c1], _ => exact ⟨c0, c1, rfl⟩
 obtain ⟨x0, x1, rfl⟩ : ∃ x0 x1, xs = [x0, x1] := by
  match xs, hxs with
  | [x0, x1], _ => exact ⟨x0, x1, rfl⟩
 have f0 : DataW.trod enc Tryz.prog w base spare held n 3 ([c0, c1].take (Tryz.prog.cellsOf 3)) = some x0 := hf 0 _ rfl
 have f1 : DataW.trod enc Tryz.prog w base spare held n 3 ([c1].take (Tryz.prog.cellsOf 3)) = some x1 := hf 1 _ rfl
 rw [tk1 _ _ _ cells_int] at f0 f1
 obtain ⟨k, e0, rfl, _⟩ := DataW.trod_int und_int f0
 obtain ⟨a, e1, rfl, _⟩ := DataW.trod_int und_int f1
 simp only [List.cons.injEq, and_true] at e0 e1
 subst e0; subst e1
 refine ⟨(k, a), .cons (.lit _) (.cons (.lit _) (.nil _ _)), rfl, ?_, rfl, Nat.zero_le _⟩
 intro v hv
 simp only [List.mem_cons, List.not_mem_nil, or_false] at hv
 rcases hv with rfl | rfl <;> rfl
theorem open_atms {fuel : Nat} {cs : List Value} {x : DataW H × List MemPlace} (h : DataW.trod enc Tryz.prog w base spare held fuel 50 cs = some x) :
  ∃ (v : Value) (l : List (Int × Int)), cs = [v] ∧ v.oneCell' = true ∧ Rel (ghost w) w (.sl .sh (encAs l)) v := by
 obtain ⟨v, l, h1, h2, h3, _⟩ := open_slice Tryz.underlying50 cells_atm (by omega) avA (fun _ => true) (fun _ => 0) (fun _ _ _ _ h => open_atm h) h
 exact ⟨v, l, h1, h2, h3⟩
theorem open_bnd {fuel : Nat} {cs : List Value} {x : DataW H × List MemPlace} (h : DataW.trod enc Tryz.prog w base spare held fuel 76 cs = some x) :
  ∃ g : Bnd, RelL (ghost w) w (encB g) cs ∧ cs.length = 2 ∧ (∀ v ∈ cs, v.oneCell' = true) ∧ true = true ∧ 0 ≤ Rows.uptoBulk x.1 := by
 obtain ⟨xs, n, rfl, rfl, hl, hxs, hf⟩ := DataW.trod_struct Tryz.underlying76 h
 rw [cells_bnd] at hl
 obtain ⟨c0, c1, rfl⟩ : ∃ c0 c1, cs = [c0, c1] := by
  match cs, hl with
  | [c0, c1], _ => exact ⟨c0, c1, rfl⟩
 obtain ⟨x0, x1, rfl⟩ : ∃ x0 x1, xs = [x0, x1] := by
  match xs, hxs with
  | [x0, x1], _ => exact ⟨x0, x1, rfl⟩
 have f0 : DataW.trod enc Tryz.prog w base spare held n 9 ([c0, c1].take (Tryz.prog.cellsOf 9)) = some x0 := hf 0 _ rfl
 have f1 : DataW.trod enc Tryz.prog w base spare held n 50 ([c1].take (Tryz.prog.cellsOf 50)) = some x1 := hf 1 _ rfl
 rw [tk1 _ _ _ cells_string] at f0
 rw [tk1 _ _ _ cells_sAtm] at f1
 obtain ⟨s, e0, rfl, _⟩ := DataW.trod_string und_string f0
 obtain ⟨v, l, e1, o1, r1⟩ := open_atms f1
 simp only [List.cons.injEq, and_true] at e0 e1
 subst e0; subst e1
 refine ⟨⟨s, l⟩, .cons (.lit _) (.cons r1 (.nil _ _)), rfl, ?_, rfl, Nat.zero_le _⟩
 intro v hv
 simp only [List.mem_cons, List.not_mem_nil, or_false] at hv
 rcases hv with rfl | rfl
 ·rfl
 ·exact o1
theorem open_fld {fuel : Nat} {cs : List Value} {x : DataW H × List MemPlace} (h : DataW.trod enc Tryz.prog w base spare held fuel 85 cs = some x) :
  ∃ g : Fd, RelL (ghost w) w (encF g) cs ∧ cs.length = 3 ∧ (∀ v ∈ cs, v.oneCell' = true) ∧ true = true ∧ 0 ≤ Rows.uptoBulk x.1 := by
 obtain ⟨xs, n, rfl, rfl, hl, hxs, hf⟩ := DataW.trod_struct Tryz.underlying85 h
 rw [cells_fld] at hl
 obtain ⟨c0, c1, c2, rfl⟩ : ∃ c0 c1 c2, cs = [c0, c1, c2] := by
  match cs, hl with
  | [c0, c1, c2], _ => exact ⟨c0, c1, c2, rfl⟩
 obtain ⟨x0, x1, x2, rfl⟩ : ∃ x0 x1 x2, xs = [x0, x1, x2] := by
  match xs, hxs with
  | [x0, x1, x2], _ => exact ⟨x0, x1, x2, rfl⟩
 have f0 : DataW.trod enc Tryz.prog w base spare held n 9 ([c0, c1, c2].take (Tryz.prog.cellsOf 9)) = some x0 := hf 0 _ rfl
 have f1 : DataW.trod enc Tryz.prog w base spare held n 4 ([c1, c2].take (Tryz.prog.cellsOf 4)) = some x1 := hf 1 _ rfl
 have f2 : DataW.trod enc Tryz.prog w base spare held n 50 ([c2].take (Tryz.prog.cellsOf 50)) = some x2 := hf 2 _ rfl
 rw [tk1 _ _ _ cells_string] at f0
 rw [tk1 _ _ _ cells_bool] at f1
 rw [tk1 _ _ _ cells_sAtm] at f2
 obtain ⟨s, e0, rfl, _⟩ := DataW.trod_string und_string f0
 obtain ⟨b, e1, rfl⟩ := DataW.trod_bool und_bool f1
 obtain ⟨v, l, e2, o2, r2⟩ := open_atms f2
 simp only [List.cons.injEq, and_true] at e0 e1 e2
 subst e0; subst e1; subst e2
 refine ⟨⟨s, b, l⟩, .cons (.lit _) (.cons (.lit _) (.cons r2 (.nil _ _))), rfl, ?_, rfl, Nat.zero_le _⟩
 intro v hv
 simp only [List.mem_cons, List.not_mem_nil, or_false] at hv
 rcases hv with rfl | rfl | rfl
 ·rfl
 ·rfl
 ·exact o2
theorem open_shp {fuel : Nat} {cs : List Value} {x : DataW H × List MemPlace} (h : DataW.trod enc Tryz.prog w base spare held fuel 79 cs = some x) :
  ∃ g : Sh, RelL (ghost w) w (encSh g) cs ∧ cs.length = 2 ∧ (∀ v ∈ cs, v.oneCell' = true) := by
 obtain ⟨xs, n, rfl, rfl, hl, hxs, hf⟩ := DataW.trod_struct Tryz.underlying79 h
 rw [cells_shp] at hl
 obtain ⟨c0, c1, rfl⟩ : ∃ c0 c1, cs = [c0, c1] := by
  match cs, hl with
  | [c0, c1], _ => exact ⟨c0, c1, rfl⟩
 obtain ⟨x0, x1, rfl⟩ : ∃ x0 x1, xs = [x0, x1] := by
  match xs, hxs with
  | [x0, x1], _ => exact ⟨x0, x1, rfl⟩
 have f0 : DataW.trod enc Tryz.prog w base spare held n 77 ([c0, c1].take (Tryz.prog.cellsOf 77)) = some x0 := hf 0 _ rfl
 have f1 : DataW.trod enc Tryz.prog w base spare held n 50 ([c1].take (Tryz.prog.cellsOf 50)) = some x1 := hf 1 _ rfl
 rw [tk1 _ _ _ cells_sFld] at f0
 rw [tk1 _ _ _ cells_sAtm] at f1
 obtain ⟨u, fs, e0, o0, r0, _⟩ := open_slice Tryz.underlying77 cells_fld (by omega) encF (fun _ => true) (fun _ => 0) (fun _ _ _ _ h => open_fld h) f0
 obtain ⟨v, l, e1, o1, r1⟩ := open_atms f1
 simp only [List.cons.injEq, and_true] at e0 e1
 subst e0; subst e1
 refine ⟨⟨fs, l⟩, .cons r0 (.cons r1 (.nil _ _)), rfl, ?_⟩
 intro v hv
 simp only [List.mem_cons, List.not_mem_nil, or_false] at hv
 rcases hv with rfl | rfl
 ·exact o0
 ·exact o1
theorem open_loc {fuel : Nat} {cs : List Value} {x : DataW H × List MemPlace} (h : DataW.trod enc Tryz.prog w base spare held fuel 83 cs = some x) :
  ∃ g : Lc, RelL (ghost w) w (encL g) cs ∧ cs.length = 4 ∧ (∀ v ∈ cs, v.oneCell' = true) ∧ true = true ∧ 0 ≤ Rows.uptoBulk x.1 := by
 obtain ⟨xs, n, rfl, rfl, hl, hxs, hf⟩ := DataW.trod_struct Tryz.underlying83 h
 rw [cells_loc] at hl
 obtain ⟨c0, c1, c2, c3, rfl⟩ : ∃ c0 c1 c2 c3, cs = [c0, c1, c2, c3] := by
  match cs, hl with
  | [c0, c1, c2, c3], _ => exact ⟨c0, c1, c2, c3, rfl⟩
 obtain ⟨x0, x1, rfl⟩ : ∃ x0 x1, xs = [x0, x1] := by
  match xs, hxs with
  | [x0, x1], _ => exact ⟨x0, x1, rfl⟩
 have f0 : DataW.trod enc Tryz.prog w base spare held n 81 ([c0, c1, c2, c3].take (Tryz.prog.cellsOf 81)) = some x0 := hf 0 _ rfl
 have f1 : DataW.trod enc Tryz.prog w base spare held n 79 (([c0, c1, c2, c3].drop (Tryz.prog.cellsOf 81)).take (Tryz.prog.cellsOf 79)) = some x1 := hf 1 _ rfl
 rw [tk2 _ _ _ _ cells_atm] at f0
 rw [cells_atm, show [c0, c1, c2, c3].drop 2 = [c2, c3] from rfl, tk2 _ _ _ _ cells_shp] at f1
 obtain ⟨a, r0, _, o0, _⟩ := open_atm f0
 obtain ⟨s, r1, _, o1⟩ := open_shp f1
 refine ⟨⟨a, s⟩, RelL.app r0 r1, rfl, ?_, rfl, Nat.zero_le _⟩
 intro v hv
 rcases List.mem_append.1 (show v ∈ [c0, c1] ++ [c2, c3] from hv) with hv | hv
 ·exact o0 v hv
 ·exact o1 v hv
theorem open_sta {fuel : Nat} {cs : List Value} {x : DataW H × List MemPlace} (h : DataW.trod enc Tryz.prog w base spare held fuel 26 cs = some x) :
  ∃ g : Sta, RelL (ghost w) w (encSt g) cs := by
 obtain ⟨xs, n, rfl, rfl, hl, hxs, hf⟩ := DataW.trod_struct Tryz.underlying26 h
 rw [cells_sta] at hl
 obtain ⟨c0, c1, c2, rfl⟩ : ∃ c0 c1 c2, cs = [c0, c1, c2] := by
  match cs, hl with
  | [c0, c1, c2], _ => exact ⟨c0, c1, c2, rfl⟩
 obtain ⟨x0, x1, x2, rfl⟩ : ∃ x0 x1 x2, xs = [x0, x1, x2] := by
  match xs, hxs with
  | [x0, x1, x2], _ => exact ⟨x0, x1, x2, rfl⟩
 have f0 : DataW.trod enc Tryz.prog w base spare held n 4 ([c0, c1, c2].take (Tryz.prog.cellsOf 4)) = some x0 := hf 0 _ rfl
 have f1 : DataW.trod enc Tryz.prog w base spare held n 23 ([c1, c2].take (Tryz.prog.cellsOf 23)) = some x1 := hf 1 _ rfl
 have f2 : DataW.trod enc Tryz.prog w base spare held n 24 ([c2].take (Tryz.prog.cellsOf 24)) = some x2 := hf 2 _ rfl
 rw [tk1 _ _ _ cells_bool] at f0
 rw [tk1 _ _ _ cells_sBnd] at f1
 rw [tk1 _ _ _ cells_sLoc] at f2
 obtain ⟨b, e0, rfl⟩ := DataW.trod_bool und_bool f0
 obtain ⟨u, vs, e1, _, r1, _⟩ := open_slice Tryz.underlying23 cells_bnd (by omega) encB (fun _ => true) (fun _ => 0) (fun _ _ _ _ h => open_bnd h) f1
 obtain ⟨v, ls, e2, _, r2, _⟩ := open_slice Tryz.underlying24 cells_loc (by omega) encL (fun _ => true) (fun _ => 0) (fun _ _ _ _ h => open_loc h) f2
 simp only [List.cons.injEq, and_true] at e0 e1 e2
 subst e0; subst e1; subst e2
 exact ⟨⟨b, vs, ls⟩, .cons (.lit _) (.cons r1 (.cons r2 (.nil _ _)))⟩
end
end Go.Proofs.YtnoahchdmkpleaaGreat.VA

/-! Ds -/
namespace Go.Proofs.YtnoahchdmkpleaaGreat.VA
open Go Go.RowKit
set_option linter.unusedSimpArgs false
set_option maxRecDepth 100000

instance : Inhabited Opd := ⟨⟨0, 0, ⟨#[]⟩⟩⟩
instance : Inhabited GS := ⟨.mk 0 ⟨#[]⟩ ⟨#[]⟩ ⟨#[]⟩ [] [] [] []⟩
instance : Inhabited Sg := ⟨⟨⟨#[]⟩, 0, []⟩⟩
mutual
def bG : GS → Nat
 | .mk _ _ _ _ a pr th el => 1 + a.length + pr.length + bGs th + bGs el
def bGs : List GS → Nat
 | [] => 0
 | g :: l => bG g + bGs l
end
theorem bGs_sum : ∀ l : List GS, (l.map bG).sum = bGs l
 | [] => rfl
 | g :: l => by simp only [List.map_cons, List.sum_cons, bGs, bGs_sum l]
theorem sum_1 {T : Type} : ∀ l : List T, (l.map fun _ => 1).sum = l.length
 | [] => rfl
 | _ :: l => by simp only [List.map_cons, List.sum_cons, List.length_cons, sum_1 l]; omega
mutual
theorem cnt_bG : ∀ g : GS, cntG g ≤ bG g
 | .mk op x y p a pr th el => by
  have h1 := cnt_bGs th
  have h2 := cnt_bGs el
  simp only [cntG, bG]
  omega
theorem cnt_bGs : ∀ l : List GS, cntL l ≤ bGs l
 | [] => Nat.le_refl _
 | g :: l => by
  have h1 := cnt_bG g
  have h2 := cnt_bGs l
  simp only [cntL, bGs]
  omega
end
mutual
theorem mem_bG : ∀ (g x : GS), x ∈ listG g → x.pr.length ≤ bG g ∧ x.a.length ≤ bG g
 | .mk op x y p a pr th el, z, h => by
  simp only [listG_eq, GS.th, GS.el, List.mem_cons, List.mem_append] at h
  simp only [bG]
  rcases h with rfl | h | h
  ·simp only [GS.pr, GS.a]; omega
  ·have := mem_bGs th z h; omega
  ·have := mem_bGs el z h; omega
theorem mem_bGs : ∀ (l : List GS) (x : GS), x ∈ listL l → x.pr.length ≤ bGs l ∧ x.a.length ≤ bGs l
 | [], x, h => by simp [listL] at h
 | g :: l, x, h => by
  simp only [listL, List.mem_append] at h
  simp only [bGs]
  rcases h with h | h
  ·have := mem_bG g x h; omega
  ·have := mem_bGs l x h; omega
end
theorem cells_opd : Tryz.prog.cellsOf 48 = 3 := by kernel_rfl
theorem cells_stm : Tryz.prog.cellsOf 31 = 8 := by kernel_rfl
theorem cells_sig : Tryz.prog.cellsOf 74 = 3 := by kernel_rfl
theorem cells_sOpd : Tryz.prog.cellsOf 27 = 1 := by kernel_rfl
theorem cells_sStr : Tryz.prog.cellsOf 28 = 1 := by kernel_rfl
theorem cells_sStm : Tryz.prog.cellsOf 29 = 1 := by kernel_rfl
section
variable {H : Type} {enc : TypeId × Value → H} {w : World} {base : Nat} {spare : Nat → Bool} {held : Bool}
theorem open_opd {fuel : Nat} {cs : List Value} {x : DataW H × List MemPlace} (h : DataW.trod enc Tryz.prog w base spare held fuel 48 cs = some x) :
  ∃ g : Opd, RelL (ghost w) w (encOp g) cs ∧ cs.length = 3 ∧ (∀ v ∈ cs, v.oneCell' = true) ∧ true = true ∧ 1 ≤ Rows.uptoBulk x.1 := by
 obtain ⟨xs, n, rfl, rfl, hl, hxs, hf⟩ := DataW.trod_struct Tryz.underlying48 h
 rw [cells_opd] at hl
 obtain ⟨c0, c1, c2, rfl⟩ : ∃ c0 c1 c2, cs = [c0, c1, c2] := by
  match cs, hl with
  | [c0, c1, c2], _ => exact ⟨c0, c1, c2, rfl⟩
 obtain ⟨x0, x1, x2, rfl⟩ : ∃ x0 x1 x2, xs = [x0, x1, x2] := by
  match xs, hxs with
  | [x0, x1, x2], _ => exact ⟨x0, x1, x2, rfl⟩
 have f0 : DataW.trod enc Tryz.prog w base spare held n 3 ([c0, c1, c2].take (Tryz.prog.cellsOf 3)) = some x0 := hf 0 _ rfl
 have f1 : DataW.trod enc Tryz.prog w base spare held n 3 ([c1, c2].take (Tryz.prog.cellsOf 3)) = some x1 := hf 1 _ rfl
 have f2 : DataW.trod enc Tryz.prog w base spare held n 9 ([c2].take (Tryz.prog.cellsOf 9)) = some x2 := hf 2 _ rfl
 rw [tk1 _ _ _ cells_int] at f0 f1
 rw [tk1 _ _ _ cells_string] at f2
 obtain ⟨k, e0, rfl, _⟩ := DataW.trod_int und_int f0
 obtain ⟨a, e1, rfl, _⟩ := DataW.trod_int und_int f1
 obtain ⟨s, e2, rfl, _⟩ := DataW.trod_string und_string f2
 simp only [List.cons.injEq, and_true] at e0 e1 e2
 subst e0; subst e1; subst e2
 refine ⟨⟨k, a, s⟩, .cons (.lit _) (.cons (.lit _) (.cons (.lit _) (.nil _ _))), rfl, ?_, rfl, by simp only [Rows.uptoBulk]; omega⟩
 intro v hv
 simp only [List.mem_cons, List.not_mem_nil, or_false] at hv
 rcases hv with rfl | rfl | rfl <;> rfl
theorem open_strC {fuel : Nat} {cs : List Value} {x : DataW H × List MemPlace} (h : DataW.trod enc Tryz.prog w base spare held fuel 9 cs = some x) :
  ∃ g : ByteArray, RelL (ghost w) w (enc1 g) cs ∧ cs.length = 1 ∧ (∀ v ∈ cs, v.oneCell' = true) ∧ true = true ∧ 1 ≤ Rows.uptoBulk x.1 := by
 obtain ⟨s, rfl, rfl, _⟩ := DataW.trod_string und_string h
 refine ⟨s, .cons (.lit _) (.nil _ _), rfl, ?_, rfl, by simp only [Rows.uptoBulk]; omega⟩
 intro v hv
 simp only [List.mem_cons, List.not_mem_nil, or_false] at hv
 rcases hv with rfl
 rfl
def StmP (enc : TypeId × Value → H) (w : World) (base : Nat) (spare : Nat → Bool) (held : Bool) (fuel : Nat) : Prop :=
 ∀ (cs : List Value) (x : DataW H × List MemPlace), DataW.trod enc Tryz.prog w base spare held fuel 31 cs = some x →
  ∃ g : GS, RelL (ghost w) w (encG g) cs ∧ cs.length = 8 ∧ (∀ v ∈ cs, v.oneCell' = true) ∧ true = true ∧ bG g ≤ Rows.uptoBulk x.1
theorem stm_step (fuel : Nat) (ih : ∀ m, m < fuel → StmP enc w base spare held m) : StmP enc w base spare held fuel := by
 intro cs x h
 obtain ⟨xs, n, rfl, rfl, hl, hxs, hf⟩ := DataW.trod_struct Tryz.underlying31 h
 rw [cells_stm] at hl
 obtain ⟨c0, c1, c2, c3, c4, c5, c6, c7, rfl⟩ : ∃ c0 c1 c2 c3 c4 c5 c6 c7, cs = [c0, c1, c2, c3, c4, c5, c6, c7] := by
  match cs, hl with
  | [c0, c1, c2, c3, c4, c5, c6, c7], _ => exact ⟨c0, c1, c2, c3, c4, c5, c6, c7, rfl⟩
 obtain ⟨x0, x1, x2, x3, x4, x5, x6, x7, rfl⟩ : ∃ x0 x1 x2 x3 x4 x5 x6 x7, xs = [x0, x1, x2, x3, x4, x5, x6, x7] := by
  match xs, hxs with
  | [x0, x1, x2, x3, x4, x5, x6, x7], _ => exact ⟨x0, x1, x2, x3, x4, x5, x6, x7, rfl⟩
 have f0 : DataW.trod enc Tryz.prog w base spare held n 3 ([c0, c1, c2, c3, c4, c5, c6, c7].take (Tryz.prog.cellsOf 3)) = some x0 := hf 0 _ rfl
 have f1 : DataW.trod enc Tryz.prog w base spare held n 9 ([c1, c2, c3, c4, c5, c6, c7].take (Tryz.prog.cellsOf 9)) = some x1 := hf 1 _ rfl
 have f2 : DataW.trod enc Tryz.prog w base spare held n 9 ([c2, c3, c4, c5, c6, c7].take (Tryz.prog.cellsOf 9)) = some x2 := hf 2 _ rfl
 have f3 : DataW.trod enc Tryz.prog w base spare held n 9 ([c3, c4, c5, c6, c7].take (Tryz.prog.cellsOf 9)) = some x3 := hf 3 _ rfl
 have f4 : DataW.trod enc Tryz.prog w base spare held n 27 ([c4, c5, c6, c7].take (Tryz.prog.cellsOf 27)) = some x4 := hf 4 _ rfl
 have f5 : DataW.trod enc Tryz.prog w base spare held n 28 ([c5, c6, c7].take (Tryz.prog.cellsOf 28)) = some x5 := hf 5 _ rfl
 have f6 : DataW.trod enc Tryz.prog w base spare held n 29 ([c6, c7].take (Tryz.prog.cellsOf 29)) = some x6 := hf 6 _ rfl
 have f7 : DataW.trod enc Tryz.prog w base spare held n 29 ([c7].take (Tryz.prog.cellsOf 29)) = some x7 := hf 7 _ rfl
 rw [tk1 _ _ _ cells_int] at f0
 rw [tk1 _ _ _ cells_string] at f1 f2 f3
 rw [tk1 _ _ _ cells_sOpd] at f4
 rw [tk1 _ _ _ cells_sStr] at f5
 rw [tk1 _ _ _ cells_sStm] at f6 f7
 obtain ⟨op, e0, rfl, _⟩ := DataW.trod_int und_int f0
 obtain ⟨sx, e1, rfl, _⟩ := DataW.trod_string und_string f1
 obtain ⟨sy, e2, rfl, _⟩ := DataW.trod_string und_string f2
 obtain ⟨sp, e3, rfl, _⟩ := DataW.trod_string und_string f3
 obtain ⟨v4, a, e4, o4, r4, _, b4⟩ := open_slice Tryz.underlying27 cells_opd (by omega) encOp (fun _ => true) (fun _ => 1) (fun _ _ _ _ h => open_opd h) f4
 obtain ⟨v5, ps, e5, o5, r5, _, b5⟩ := open_slice Tryz.underlying28 cells_string (by omega) enc1 (fun _ => true) (fun _ => 1) (fun _ _ _ _ h => open_strC h) f5
 obtain ⟨v6, th, e6, o6, r6, _, b6⟩ := open_slice Tryz.underlying29 cells_stm (by omega) encG (fun _ => true) bG (fun m _ _ hm h => ih m (by omega) _ _ h) f6
 obtain ⟨v7, el, e7, o7, r7, _, b7⟩ := open_slice Tryz.underlying29 cells_stm (by omega) encG (fun _ => true) bG (fun m _ _ hm h => ih m (by omega) _ _ h) f7
 simp only [List.cons.injEq, and_true] at e0 e1 e2 e3 e4 e5 e6 e7
 subst e0; subst e1; subst e2; subst e3; subst e4; subst e5; subst e6; subst e7
 rw [sum_1] at b4 b5
 rw [bGs_sum] at b6 b7
 rw [← encGs_map] at r6 r7
 refine ⟨.mk op sx sy sp a ps th el, ?_, rfl, ?_, rfl, ?_⟩
 ·simp only [encG]
  exact .cons (.lit _) (.cons (.lit _) (.cons (.lit _) (.cons (.lit _) (.cons r4 (.cons r5 (.cons r6 (.cons r7 (.nil _ _))))))))
 ·intro v hv
  simp only [List.mem_cons, List.not_mem_nil, or_false] at hv
  rcases hv with rfl | rfl | rfl | rfl | rfl | rfl | rfl | rfl
  ·rfl
  ·rfl
  ·rfl
  ·rfl
  ·exact o4
  ·exact o5
  ·exact o6
  ·exact o7
 ·simp only [bG, List.map_cons, List.map_nil, Rows.uptoBulk, Rows.uptoBulkAll]
  omega
theorem open_stm (fuel : Nat) : StmP enc w base spare held fuel := by
 induction fuel using Nat.strongRecOn with
 | _ fuel ih => exact stm_step fuel ih
theorem open_stms {fuel : Nat} {cs : List Value} {x : DataW H × List MemPlace} (h : DataW.trod enc Tryz.prog w base spare held fuel 29 cs = some x) :
  ∃ (v : Value) (l : List GS), cs = [v] ∧ Rel (ghost w) w (.sl .sh (encGs l)) v ∧ bGs l ≤ Rows.uptoBulk x.1 := by
 obtain ⟨v, l, h1, _, h3, _, h5⟩ := open_slice Tryz.underlying29 cells_stm (by omega) encG (fun _ => true) bG (fun m _ _ hm h => open_stm m _ _ h) h
 rw [bGs_sum] at h5
 exact ⟨v, l, h1, by rw [encGs_map]; exact h3, by omega⟩
theorem open_sig {fuel : Nat} {cs : List Value} {x : DataW H × List MemPlace} (h : DataW.trod enc Tryz.prog w base spare held fuel 74 cs = some x) :
  ∃ g : Sg, RelL (ghost w) w (encSg g) cs ∧ cs.length = 3 ∧ (∀ v ∈ cs, v.oneCell' = true) ∧ true = true ∧ 1 ≤ Rows.uptoBulk x.1 := by
 obtain ⟨xs, n, rfl, rfl, hl, hxs, hf⟩ := DataW.trod_struct Tryz.underlying74 h
 rw [cells_sig] at hl
 obtain ⟨c0, c1, c2, rfl⟩ : ∃ c0 c1 c2, cs = [c0, c1, c2] := by
  match cs, hl with
  | [c0, c1, c2], _ => exact ⟨c0, c1, c2, rfl⟩
 obtain ⟨x0, x1, x2, rfl⟩ : ∃ x0 x1 x2, xs = [x0, x1, x2] := by
  match xs, hxs with
  | [x0, x1, x2], _ => exact ⟨x0, x1, x2, rfl⟩
 have f0 : DataW.trod enc Tryz.prog w base spare held n 9 ([c0, c1, c2].take (Tryz.prog.cellsOf 9)) = some x0 := hf 0 _ rfl
 have f1 : DataW.trod enc Tryz.prog w base spare held n 3 ([c1, c2].take (Tryz.prog.cellsOf 3)) = some x1 := hf 1 _ rfl
 have f2 : DataW.trod enc Tryz.prog w base spare held n 28 ([c2].take (Tryz.prog.cellsOf 28)) = some x2 := hf 2 _ rfl
 rw [tk1 _ _ _ cells_string] at f0
 rw [tk1 _ _ _ cells_int] at f1
 rw [tk1 _ _ _ cells_sStr] at f2
 obtain ⟨s, e0, rfl, _⟩ := DataW.trod_string und_string f0
 obtain ⟨k, e1, rfl, _⟩ := DataW.trod_int und_int f1
 obtain ⟨v, l, e2, o2, r2, _⟩ := open_slice Tryz.underlying28 cells_string (by omega) enc1 (fun _ => true) (fun _ => 1) (fun _ _ _ _ h => open_strC h) f2
 simp only [List.cons.injEq, and_true] at e0 e1 e2
 subst e0; subst e1; subst e2
 refine ⟨⟨s, k, l⟩, .cons (.lit _) (.cons (.lit _) (.cons r2 (.nil _ _))), rfl, ?_, rfl, by simp only [Rows.uptoBulk]; omega⟩
 intro v hv
 simp only [List.mem_cons, List.not_mem_nil, or_false] at hv
 rcases hv with rfl | rfl | rfl
 ·rfl
 ·rfl
 ·exact o2
theorem open_sigs {fuel : Nat} {cs : List Value} {x : DataW H × List MemPlace} (h : DataW.trod enc Tryz.prog w base spare held fuel 22 cs = some x) :
  ∃ (v : Value) (l : List Sg), cs = [v] ∧ Rel (ghost w) w (.sl .sh (l.map encSg)) v ∧ l.length ≤ Rows.uptoBulk x.1 := by
 obtain ⟨v, l, h1, _, h3, _, h5⟩ := open_slice Tryz.underlying22 cells_sig (by omega) encSg (fun _ => true) (fun _ => 1) (fun _ _ _ _ h => open_sig h) h
 rw [sum_1] at h5
 exact ⟨v, l, h1, h3, by omega⟩
end
end Go.Proofs.YtnoahchdmkpleaaGreat.VA
