/- What is proved: state.Set, in the abstract interpreter (VA). Condition: no longer lists than a machine holds.
What is proved: state.Copy, as it is handed out; state.Var, in the abstract interpreter (VA). Condition: no longer lists than a machine holds.
What is proved: May of states, the document's, in the abstract interpreter (VA). Condition: no longer lists than a machine holds.
What is proved: a variable's values, the program's way and the document's, in the abstract interpreter (VA). Condition: no longer lists than a machine holds.
What is proved: the document's Var and Small of states, in the abstract interpreter (VA). Condition: no longer lists than a machine holds, where one is gone through.
What is proved: a state is the same as itself, by the document's Same, in the abstract interpreter (VA). Condition: no longer lists than a machine holds.
What is proved: what step.Do needs of lists of atoms, in the abstract interpreter (VA). Condition: no longer lists than a machine holds.
What is proved: operands' values, and whether they have some, in the abstract interpreter (VA). Condition: operands are variables or numbers; no longer lists than a machine holds.
What is proved: step.just, in the abstract interpreter (VA). Condition: no longer lists than a machine holds.
What is proved: a statement's doer: its values, setting its variable, its faults and casts, in the abstract interpreter (VA). Condition: no longer lists than a machine holds.
What is proved: a statement's doer does what is put out, returned, moved or comes in, in the abstract interpreter (VA). Condition: no longer lists than a machine holds.
What is proved: step.Do, but for what its doer does, in the abstract interpreter (VA). Condition: no longer lists than a machine holds.
What is proved: asking for a cast, and a sum, by a statement's doer, in the abstract interpreter (VA). Condition: no longer lists than a machine holds.
What is proved: the calls whose answers the document fixes for step.Do, in the abstract interpreter (VA). No condition.
What is proved: what the document fixes of the layer step is so, in the abstract interpreter (VA). No condition.
What is proved: the plain law of StepPlainly: what is set is what is read; a list that may be is its own norm. No condition.
What is proved: step.Do and step.Val at the Dead state, in the abstract interpreter (VA). Condition: no longer lists than a machine holds.
What is proved: slices.Grow of the nil slice, at []api.Bind and []api.Atom, walked at this program; what it does in the abstract interpreter (VA). Condition: not more than 10^12 elements.
What is said: trees of statements in memory, and the order in which number.all yields them. No condition. -/
import Derived.Test.YtnoahchdmkpleaaGreatM5
import Derived.Test.YtnoahchdmkpleaaGreatM4
import Derived.Test.YtnoahchdmkpleaaGreatProg
import Derived.Lib.AppendZerosOnto
import Derived.Lib.SliceRun
import Derived.Lib.Walk
import Derived.WalkKit
import Derived.Test.YtnoahchdmkpleaaGreatM1
import Derived.RangeFuncFrom
import Derived.RangeFuncKeeps
import Derived.RangeFuncBound
import Derived.RangeFuncLeaves
import Derived.Below
import Derived.Shelf.Abstract
/-! Se5 -/
namespace Go.Proofs.YtnoahchdmkpleaaGreat.VA
open Go Go.RowKit
attribute [local go_sem] Nat.add_eq_left Nat.left_eq_add true_and and_true ite_true if_false Int.cast_ofNat_Int eq_self Nat.add_assoc Option.some.injEq decide_true decide_false Bool.not_true Bool.not_false List.size_toArray List.length_cons List.length_nil
set_option linter.unusedSimpArgs false
set_option maxRecDepth 100000

theorem c_copyArr (s : Sta) (hs : StOk s) (H0 : Heap) : ∃ v H', calls Tryz.prog cfg2 48 [.agg (encSt s)] H0 = some (.ret v H') ∧
  (∃ A B, v = .agg [.lit (.bool s.dead), A, B] ∧ Frm H0 H' ∧ ArrOf H' H0.next A 2 (s.vars.map encB) ∧ ArrOf H' H0.next B 4 (s.locs.map encL) ∧ ArrDis A B) :=
 calls_arr (fn := Tryz.f48) rfl rfl rfl rfl rfl (copy_W (c := cfg2) rfl rfl rfl rfl s hs H0 (fun A B H' h1 h2 h3 h4 => ⟨A, B, rfl, h1, h2, h3, h4⟩) rfl)
def setT (q : ByteArray) (nd : List (Int × Int)) (s : Sta) : Sta :=
 if mayT s = false then ⟨false, [], []⟩ else if s.dead = true then ⟨true, [], []⟩ else ⟨false, setB q nd s.vars, s.locs⟩
theorem encSt_nil (b : Bool) : encSt ⟨b, [], []⟩ = [.lit (.bool b), .sl .sh [], .sl .sh []] := rfl
theorem c_setT (s : Sta) (hs : StOk s) (hv1 : s.vars.length + 1 ≤ LA) (q : ByteArray) (d : List (Int × Int)) (hd : d.length ≤ LA) (o : Own) (H : Heap) :
  calls Tryz.prog cfg2 115 [.agg (encSt s), .lit (.string q), .sl o (encAs d)] H = some (.ret (.agg (encSt (setT q (normA d) s))) H) := by
 refine calls_frz (fn := Tryz.f115) rfl rfl rfl rfl rfl ?_ H
 have rs : Tryz.f115.results.toList = [.cell 6 26] := rfl
 have hm : ∀ H, calls Tryz.prog cfg2 45 [.agg (encSt s)] H = some (.ret (.lit (.bool (mayT s))) H) := fun H =>
  calls_by rfl (fun H => by simp only [sanL, san, sanL_encSt]; exact c_staMay s hs H) rfl H
 have hs3 : (encSt s).length = 3 := rfl
 have hst : (encSt s).take 3 = encSt s := rfl
 have hso : (encSt s).all AV.one = true := rfl
 have hs0 : (encSt s)[0]? = some (.lit (.bool s.dead)) := rfl
 simp only [go_sem, simprocAttr, rs, hm, hs3, hst, hso, hs0]
 cases hmay : mayT s with
 | false =>
  have hr : setT q (normA d) s = ⟨false, [], []⟩ := by unfold setT; rw [if_pos hmay]
  rw [hr]
  simp only [go_sem, simprocAttr, rs]
  exact ⟨_, rfl, rfl⟩
 | true =>
  cases hdd : s.dead with
  | true =>
   have hr : setT q (normA d) s = ⟨true, [], []⟩ := by unfold setT; rw [if_neg (by rw [hmay]; simp), if_pos hdd]
   rw [hr]
   simp only [go_sem, simprocAttr, rs, hs0, hdd]
   exact ⟨_, rfl, rfl⟩
  | false =>
   have hr : setT q (normA d) s = ⟨false, setB q (normA d) s.vars, s.locs⟩ := by unfold setT; rw [if_neg (by rw [hmay]; simp), if_neg (by rw [hdd]; simp)]
   rw [hr]
   simp only [go_sem, simprocAttr, rs, hs0, hs3, hst, hdd]
   refine goC_ex (c_copyArr s hs _) ?_
   rintro v H1 ⟨A, B, rfl, hF, hA, hB, hD⟩
   rw [hdd]
   have hB1 := hB.one
   simp only [go_sem, simprocAttr, rs]
   refine goC_ex (c_set false s.vars A B q d .sh _ _ (hA.of (Nat.le_refl _) (fun _ _ _ => rfl)) hB1 hd hv1) ?_
   rintro v H2 ⟨A', rfl, hA1, hP, hnx, hho⟩
   have n1 := hA.no (k := 1) (by simp only [go_sem, simprocAttr] <;> omega)
   have hnx1 := hF.nx
   simp only [go_sem, simprocAttr] at hnx1
   have g1 : H2.get 1 = some [.lit (.bool false), .sl .nil [], .sl .nil []] := by
    rw [Heap.get, (hho 1 (by omega) n1).1]
    show H1.get 1 = _
    rw [hF.get (by simp only [go_sem, simprocAttr] <;> omega)]
    simp only [go_sem, simprocAttr]
   have n1' := (hho 1 (by omega) n1).2
   simp only [go_sem, simprocAttr, rs, g1, hA1, hB1]
   refine ⟨_, rfl, ?_⟩
   generalize hH3 : Heap.put _ 1 [.lit (.bool false), A', B] = H3
   have e1 : san (frz H3 A') = .sl .sh ((setB q (normA d) s.vars).map encB) := by
    rw [frz_arrP (es := (setB q (normA d) s.vars).map encB) (by rw [← hH3]; refine ArrP.put ?_ _ n1'; repeat (first | exact hP | refine ArrP.up ?_ _)) (B_unif _) (B_ones _), sanLL_B]
   have e2 : san (frz H3 B) = .sl .sh (s.locs.map encL) := by
    have hB3 : ArrOf H3 0 B 4 (s.locs.map encL) := by
     rcases hB with h | ⟨rb, h1, h2, h3, h4, h5⟩
     ·exact .inl h
     ·have hdis : arrNo A rb := by
       subst h1
       cases A with
       | ar ra a b c => exact fun e => (hD : rb ≠ ra) e.symm
       | _ => trivial
      have hrb : H2.get rb = some (s.locs.map encL).flatten := by rw [Heap.get, (hho rb h5 hdis).1]; exact h3
      have hr1 : ¬ 1 = rb := by simp only [go_sem, simprocAttr] at h4; omega
      exact .inr ⟨rb, h1, h2, by rw [← hH3]; simp only [go_sem, simprocAttr, hr1, hrb], Nat.zero_le _, by rw [← hH3]; simp only [go_sem, simprocAttr]; omega⟩
    rw [frz_arr hB3 (L_unif _) (L_ones _), sanLL_L]
   simp only [oneOr, frz, frzL, san, sanL, e1, e2]
   rfl
end Go.Proofs.YtnoahchdmkpleaaGreat.VA

/-! Vr1 -/
namespace Go.Proofs.YtnoahchdmkpleaaGreat.VA
open Go Go.RowKit
set_option linter.unusedSimpArgs false
set_option maxRecDepth 100000

/-- The table for state.Copy as it is handed out. -/
noncomputable def cfgS : Cfg := mkC Tryz.prog [48] [] [48] [(74, tClone), (75, toldBy Tryz.prog cfgO 75)] []
theorem cfgS_ok : CfgOk Tryz.prog Cond.none cfgS := mkC_ok (by kernel_rfl) (by kernel_rfl) (by
 intro p hp
 simp only [List.mem_cons, List.not_mem_nil, or_false] at hp
 rcases hp with rfl | rfl
 ·exact tClone_ok _
 ·exact toldBy_ok cfgO_ok (fn := Tryz.f75) (by kernel_rfl) (by kernel_rfl) rfl) (by simp)
theorem c_copyS (s : Sta) (hs : StOk s) (H : Heap) : calls Tryz.prog cfgS 48 [.agg (encSt s)] H = some (.ret (.agg (encSt s)) H) := by
 refine calls_frz (fn := Tryz.f48) rfl rfl rfl rfl rfl ?_ H
 have e0 : sanL [AV.agg (encSt s)] = [.agg (encSt s)] := by simp only [sanL, san, sanL_encSt]
 rw [e0]
 refine copy_W (c := cfgS) rfl rfl rfl rfl s hs Heap.empty (fun A B H' h1 h2 h3 h4 => ?_) rfl
 have e1 : san (frz H' A) = .sl .sh (s.vars.map encB) := by rw [frz_arr h2 (B_unif _) (B_ones _), sanLL_B]
 have e2 : san (frz H' B) = .sl .sh (s.locs.map encL) := by rw [frz_arr h3 (L_unif _) (L_ones _), sanLL_L]
 simp only [frz, frzL, san, sanL, e1, e2]
 rfl
end Go.Proofs.YtnoahchdmkpleaaGreat.VA

/-! Ra5 -/
namespace Go.Proofs.YtnoahchdmkpleaaGreat.VA
open Go Go.RowKit
attribute [local go_sem] Nat.add_eq_left Nat.left_eq_add true_and and_true ite_true if_false Int.cast_ofNat_Int eq_self Nat.add_assoc Option.some.injEq decide_true decide_false Bool.not_true Bool.not_false List.size_toArray List.length_cons List.length_nil
set_option linter.unusedSimpArgs false
set_option maxRecDepth 100000

theorem c_rStaMay (s : Sta) (hs : StOk s) (H : Heap) : calls Tryz.prog cfgR 11 [.agg (encSt s)] H = some (.ret (.lit (.bool (mayT s))) H) := by
 refine calls_pure (fn := Tryz.f11) rfl rfl rfl rfl rfl ?_ H
 have rs : Tryz.f11.results.toList = [.tmp 2] := rfl
 obtain ⟨dd, vs, ls⟩ := s
 obtain ⟨hv, hvl, hL, hll⟩ := hs
 simp only at hv hvl hL hll
 generalize hr : mayT ⟨dd, vs, ls⟩ = r
 unfold mayT at hr
 simp only at hr
 unfold encSt
 simp only [go_sem, simprocAttr, rs, List.length_map]
 refine W_loop_ind (fun k e H => ∃ i : Nat, k = vs.length - i ∧ i ≤ vs.length ∧ (upB (prvB vs i) (vs.drop i) && (upL none ls && (!dd || decide (vs.length + ls.length = 0)))) = r ∧ gget .bad e 1 = .ptr 0 0 ∧ gget .bad e 3 = .lit (.int .i64 (i : Nat)) ∧
   H.get 0 = some [.lit (.bool dd), .sl .sh (vs.map encB), .sl .sh (ls.map encL)] ∧ 1 ≤ H.next)
  vs.length ⟨0, rfl, by omega, hr, by simp only [go_sem, simprocAttr], by simp only [go_sem, simprocAttr], by simp only [go_sem, simprocAttr], by simp only [go_sem, simprocAttr]⟩ ?_
 rintro k ih e H ⟨i, rfl, hle, hR, g1, g3, hg, hnx⟩
 obtain ⟨m, hm⟩ : ∃ m, H.next = m + 1 := ⟨H.next - 1, by omega⟩
 by_cases hlt : i < vs.length
 ·have d1 : decide ((i : Int) < (vs.length : Nat)) = true := by simp; omega
  have hw := wrap1 (show i + 1 ≤ 9223372036854775807 by unfold LA at hvl; omega)
  have hA := iad_map (f := encB) (t := 76) (n := 2) (b := 40) (o := .sh) hlt (fun _ => rfl)
  rw [drop_at hlt] at hR
  have hfo := hv vs[i] (List.getElem_mem hlt)
  have hpi : prvB vs (i + 1) = some vs[i].nm := prvB_succ hlt
  generalize hx : vs[i] = x at hA hR hfo hpi
  have hc : ∀ H, calls Tryz.prog cfgR 37 [.sl .sh (encAs x.vals)] H = some (.ret (.lit (.bool (mayA x.vals))) H) := c_rMay x.vals hfo .sh
  have hA' : iad (some (76, 2, 40)) (.sl .sh (vs.map encB)) (some i) = some (.ep [.lit (.string x.nm), .sl .sh (encAs x.vals)]) := hA
  clear hA
  simp only [go_sem, simprocAttr, g1, g3, hm, hg, d1, List.length_map]
  refine W_draw [(13, 20), (18, 20), (13, 24), (18, 24)] (by kernel_rfl) ?_
  cases hv : mayA x.vals with
  | false =>
   have hR' : r = false := by rw [← hR]; simp [upB, hv]
   subst hR'
   simp only [go_sem, simprocAttr, g1, g3, hm, hg, hA', hc, hv, rs]
  | true =>
   by_cases hi0 : i = 0
   ·subst hi0
    have hR' : (upB (prvB vs (0 + 1)) (vs.drop (0 + 1)) && (upL none ls && (!dd || decide (vs.length + ls.length = 0)))) = r := by rw [← hR, hpi]; simp [upB, hv, prvB]
    have d2 : decide ((0 : Int) < 0) = false := rfl
    simp only [go_sem, simprocAttr, g1, g3, hm, hg, hA', hc, hv, d2] at hw ⊢
    exact ih (vs.length - (0 + 1)) (by omega) _ _ ⟨0 + 1, rfl, by omega, hR', by simp only [go_sem, simprocAttr, g1], by simp only [go_sem, simprocAttr, hw] <;> rfl, by simp only [go_sem, simprocAttr, hm, hg], by simp only [go_sem, simprocAttr, hm] <;> omega⟩
   ·have d2 : decide ((0 : Int) < (i : Nat)) = true := by simp; omega
    have hv1 := wrapD (show 0 < i by omega) (by unfold LA at hvl; omega)
    have hi1 : i - 1 < vs.length := by omega
    have hB := iad_map (f := encB) (t := 76) (n := 2) (b := 40) (o := .sh) hi1 (fun _ => rfl)
    have hp0 : prvB vs i = some vs[i - 1].nm := by simp [prvB, hi0, hi1]
    generalize hy : vs[i - 1] = y at hB hp0
    have hB' : iad (some (76, 2, 40)) (.sl .sh (vs.map encB)) (some (i - 1)) = some (.ep [.lit (.string y.nm), .sl .sh (encAs y.vals)]) := hB
    clear hB
    cases hst : strLt y.nm x.nm with
    | false =>
     have hR' : r = false := by rw [← hR, hp0]; simp [upB, hv, hst]
     subst hR'
     simp only [go_sem, simprocAttr, g1, g3, hm, hg, hA', hB', hc, hv, hv1, d2, hst, rs]
    | true =>
     have hR' : (upB (prvB vs (i + 1)) (vs.drop (i + 1)) && (upL none ls && (!dd || decide (vs.length + ls.length = 0)))) = r := by rw [← hR, hp0, hpi]; simp [upB, hv, hst]
     simp only [go_sem, simprocAttr, g1, g3, hm, hg, hA', hB', hc, hv, hv1, d2, hst, hw]
     exact ih (vs.length - (i + 1)) (by omega) _ _ ⟨i + 1, rfl, by omega, hR', by simp only [go_sem, simprocAttr, g1], by simp only [go_sem, simprocAttr], by simp only [go_sem, simprocAttr, hm, hg], by simp only [go_sem, simprocAttr, hm] <;> omega⟩
 ·have d1 : decide ((i : Int) < (vs.length : Nat)) = false := by simp; omega
  rw [List.drop_of_length_le (by omega)] at hR
  have hR' : (upL none ls && (!dd || decide (vs.length + ls.length = 0))) = r := by rw [← hR]; simp [upB]
  clear hR ih
  simp only [go_sem, simprocAttr, g1, g3, hm, hg, d1, List.length_map]
  refine W_loop_ind (fun k e H => ∃ i : Nat, k = ls.length - i ∧ i ≤ ls.length ∧ (upL (prvL ls i) (ls.drop i) && (!dd || decide (vs.length + ls.length = 0))) = r ∧ gget .bad e 1 = .ptr 0 0 ∧ gget .bad e 4 = .lit (.int .i64 (i : Nat)) ∧
    H.get 0 = some [.lit (.bool dd), .sl .sh (vs.map encB), .sl .sh (ls.map encL)] ∧ 1 ≤ H.next)
   ls.length ⟨0, rfl, by omega, hR', by simp only [go_sem, simprocAttr, g1], by simp only [go_sem, simprocAttr], by simp only [go_sem, simprocAttr, hm, hg], by simp only [go_sem, simprocAttr, hm] <;> omega⟩ ?_
  clear hg hm hnx g1 g3
  rintro k ih e H ⟨i, rfl, hle, hR, g1, g4, hg, hnx⟩
  obtain ⟨m, hm⟩ : ∃ m, H.next = m + 1 := ⟨H.next - 1, by omega⟩
  by_cases hlt : i < ls.length
  ·have d1 : decide ((i : Int) < (ls.length : Nat)) = true := by simp; omega
   have hw := wrap1 (show i + 1 ≤ 9223372036854775807 by unfold LA at hll; omega)
   have hA := iad_map (f := encL) (t := 83) (n := 4) (b := 64) (o := .sh) hlt (fun _ => rfl)
   rw [drop_at hlt] at hR
   have hfo := hL ls[i] (List.getElem_mem hlt)
   have hpi : prvL ls (i + 1) = some ls[i].atom := prvL_succ hlt
   generalize hx : ls[i] = x at hA hR hfo hpi
   have hA' : iad (some (83, 4, 64)) (.sl .sh (ls.map encL)) (some i) = some (.ep [.lit (.int .i64 x.atom.1), .lit (.int .i64 x.atom.2), .sl .sh (x.shape.fields.map encF), .sl .sh (encAs x.shape.proto)]) := hA
   clear hA
   have hc1 : ∀ H, calls Tryz.prog cfgR 38 [.agg [.lit (.int .i64 x.atom.1), .lit (.int .i64 x.atom.2)]] H = some (.ret (.lit (.bool (placeA x.atom))) H) := c_rPlace x.atom
   have hc2 : ∀ H, calls Tryz.prog cfgR 39 [.agg [.sl .sh (x.shape.fields.map encF), .sl .sh (encAs x.shape.proto)]] H = some (.ret (.lit (.bool (mayS x.shape))) H) := c_rObjMay x.shape hfo
   simp only [go_sem, simprocAttr, g1, g4, hm, hg, d1, List.length_map]
   refine W_draw [(23, 30), (28, 30), (23, 34), (28, 34)] (by kernel_rfl) ?_
   cases hp : placeA x.atom with
   | false =>
    have hR' : r = false := by rw [← hR]; simp [upL, hp]
    subst hR'
    simp only [go_sem, simprocAttr, g1, g4, hm, hg, hA', hc1, hc2, hp, rs]
   | true =>
    cases hv : mayS x.shape with
    | false =>
     have hR' : r = false := by rw [← hR]; simp [upL, hp, hv]
     subst hR'
     simp only [go_sem, simprocAttr, g1, g4, hm, hg, hA', hc1, hc2, hp, hv, rs]
    | true =>
     by_cases hi0 : i = 0
     ·subst hi0
      have hR' : (upL (prvL ls (0 + 1)) (ls.drop (0 + 1)) && (!dd || decide (vs.length + ls.length = 0))) = r := by rw [← hR, hpi]; simp [upL, hp, hv, prvL]
      have d2 : decide ((0 : Int) < 0) = false := rfl
      simp only [go_sem, simprocAttr, g1, g4, hm, hg, hA', hc1, hc2, hp, hv, d2] at hw ⊢
      exact ih (ls.length - (0 + 1)) (by omega) _ _ ⟨0 + 1, rfl, by omega, hR', by simp only [go_sem, simprocAttr, g1], by simp only [go_sem, simprocAttr, hw] <;> rfl, by simp only [go_sem, simprocAttr, hm, hg], by simp only [go_sem, simprocAttr, hm] <;> omega⟩
     ·have d2 : decide ((0 : Int) < (i : Nat)) = true := by simp; omega
      have hv1 := wrapD (show 0 < i by omega) (by unfold LA at hll; omega)
      have hi1 : i - 1 < ls.length := by omega
      have hB := iad_map (f := encL) (t := 83) (n := 4) (b := 64) (o := .sh) hi1 (fun _ => rfl)
      have hp0 : prvL ls i = some ls[i - 1].atom := by simp [prvL, hi0, hi1]
      generalize hy : ls[i - 1] = y at hB hp0
      have hB' : iad (some (83, 4, 64)) (.sl .sh (ls.map encL)) (some (i - 1)) = some (.ep [.lit (.int .i64 y.atom.1), .lit (.int .i64 y.atom.2), .sl .sh (y.shape.fields.map encF), .sl .sh (encAs y.shape.proto)]) := hB
      clear hB
      have hc3 : ∀ H, calls Tryz.prog cfgR 40 [.agg [.lit (.int .i64 y.atom.1), .lit (.int .i64 y.atom.2)], .agg [.lit (.int .i64 x.atom.1), .lit (.int .i64 x.atom.2)]] H = some (.ret (.lit (.bool (ltA y.atom x.atom))) H) := c_less y.atom x.atom
      cases hst : ltA y.atom x.atom with
      | false =>
       have hR' : r = false := by rw [← hR, hp0]; simp [upL, hp, hv, hst]
       subst hR'
       simp only [go_sem, simprocAttr, g1, g4, hm, hg, hA', hB', hc1, hc2, hc3, hp, hv, hv1, d2, hst, rs]
      | true =>
       have hR' : (upL (prvL ls (i + 1)) (ls.drop (i + 1)) && (!dd || decide (vs.length + ls.length = 0))) = r := by rw [← hR, hp0, hpi]; simp [upL, hp, hv, hst]
       simp only [go_sem, simprocAttr, g1, g4, hm, hg, hA', hB', hc1, hc2, hc3, hp, hv, hv1, d2, hst, hw]
       exact ih (ls.length - (i + 1)) (by omega) _ _ ⟨i + 1, rfl, by omega, hR', by simp only [go_sem, simprocAttr, g1], by simp only [go_sem, simprocAttr], by simp only [go_sem, simprocAttr, hm, hg], by simp only [go_sem, simprocAttr, hm] <;> omega⟩
  ·have d1 : decide ((i : Int) < (ls.length : Nat)) = false := by simp; omega
   rw [List.drop_of_length_le (by omega)] at hR
   have hR' : (!dd || decide (vs.length + ls.length = 0)) = r := by rw [← hR]; simp [upL]
   have hd3 : decide ((vs.length : Int) = 0) = decide (vs.length = 0) := decide_eq_decide.2 (by omega)
   have hd4 : decide ((ls.length : Int) = 0) = decide (ls.length = 0) := decide_eq_decide.2 (by omega)
   cases dd with
   | false =>
    have hR2 : r = true := by rw [← hR']; rfl
    subst hR2
    simp only [go_sem, simprocAttr, g1, g4, hm, hg, d1, rs, List.length_map]
   | true =>
    have hR2 : decide (vs.length + ls.length = 0) = r := by rw [← hR']; rfl
    by_cases hv0 : vs.length = 0
    ·have e1 : decide (vs.length = 0) = true := by simpa using hv0
     have e2 : decide (ls.length = 0) = r := by rw [← hR2]; exact decide_eq_decide.2 (by omega)
     simp only [go_sem, simprocAttr, g1, g4, hm, hg, d1, rs, List.length_map, hd3, hd4, e1, e2]
    ·have e1 : decide (vs.length = 0) = false := decide_eq_false hv0
     have e2 : r = false := by rw [← hR2]; exact decide_eq_false (by omega)
     subst e2
     simp only [go_sem, simprocAttr, g1, g4, hm, hg, d1, rs, List.length_map, hd3, hd4, e1]
end Go.Proofs.YtnoahchdmkpleaaGreat.VA

/-! Vr2 -/
namespace Go.Proofs.YtnoahchdmkpleaaGreat.VA
open Go Go.RowKit
attribute [local go_sem] Nat.add_eq_left Nat.left_eq_add true_and and_true ite_true if_false Int.cast_ofNat_Int eq_self Nat.add_assoc Option.some.injEq decide_true decide_false Bool.not_true Bool.not_false List.size_toArray List.length_cons List.length_nil
set_option linter.unusedSimpArgs false
set_option maxRecDepth 100000

/-- The table for state.Var. -/
noncomputable def cfgV : Cfg := mkC Tryz.prog [110, 65] [154, 155] [] [(74, tClone)] []
theorem cfgV_ok : CfgOk Tryz.prog Cond.none cfgV := mkC_ok (by kernel_rfl) (by kernel_rfl) (by
 intro p hp
 simp only [List.mem_cons, List.not_mem_nil, or_false] at hp
 subst hp
 exact tClone_ok _) (by simp)
def varA (q : ByteArray) (vs : List Bnd) : List (Int × Int) := match vs.find? (fun b => decide (b.nm = q)) with | some b => b.vals | none => [(0, 0)]
theorem varA_none {q : ByteArray} {vs : List Bnd} (h : vs.all (fun b => !decide (b.nm = q)) = true) : varA q vs = [(0, 0)] := by
 unfold varA
 rw [List.find?_eq_none.2 (fun b hb => by have := List.all_eq_true.1 h b hb; simpa using this)]
theorem varA_some {q : ByteArray} {vs : List Bnd} {i : Nat} (hi : i < vs.length) (h : (vs.take i).all (fun b => !decide (b.nm = q)) = true) (hx : vs[i].nm = q) : varA q vs = vs[i].vals := by
 unfold varA
 have e : vs = vs.take i ++ vs[i] :: vs.drop (i + 1) := by rw [← List.drop_eq_getElem_cons hi, List.take_append_drop]
 have hn : (vs.take i).find? (fun b => decide (b.nm = q)) = none := List.find?_eq_none.2 (fun b hb => by have := List.all_eq_true.1 h b hb; simpa using this)
 have hf : vs.find? (fun b => decide (b.nm = q)) = some vs[i] := by
  conv => lhs; rw [e]
  rw [List.find?_append, hn, Option.none_or, List.find?_cons_of_pos (by simp [hx])]
 rw [hf]
theorem c_var1 (x : Bnd) (q : ByteArray) (p : Nat) (H : Heap) (hp : H.get p = some [.lit (.string q)]) (hlt : p < H.next) : ∃ v H', calls Tryz.prog cfgV 155 [.agg (encB x), .ptr p 0] H = some (.ret v H') ∧
  (v = .lit (.bool (decide (x.nm = q))) ∧ Frm H H') := by
 refine calls_imp (fn := Tryz.f155) rfl rfl rfl rfl rfl ?_
 have rs : Tryz.f155.results.toList = [.tmp 3] := rfl
 obtain ⟨m, hm⟩ : ∃ m, H.next = m := ⟨_, rfl⟩
 have n0 : ∀ j, ¬ m + j = p := fun j => by omega
 unfold encB
 simp only [go_sem, simprocAttr, rs, hp, hm, n0]
 exact ⟨_, rfl, rfl, by repeat (first | exact Frm.refl _ | refine Frm.up ?_ _ | refine Frm.put ?_ _ (by omega))⟩
theorem c_idxV (vs : List Bnd) (q : ByteArray) (p : Nat) (H0 : Heap) (hp : H0.get p = some [.lit (.string q)]) (hlt : p < H0.next) (hvl : vs.length ≤ LA) :
  ∃ v H', calls Tryz.prog cfgV 154 [.sl .sh (vs.map encB), .fn 155 [.ptr p 0]] H0 = some (.ret v H') ∧
   ((v = .lit (.int .i64 (-1)) ∧ vs.all (fun b => !decide (b.nm = q)) = true) ∨ ∃ (i : Nat) (h : i < vs.length), v = .lit (.int .i64 (i : Nat)) ∧ (vs.take i).all (fun b => !decide (b.nm = q)) = true ∧ vs[i].nm = q) := by
 refine calls_imp (fn := Tryz.f154) rfl rfl rfl rfl rfl ?_
 have rs : Tryz.f154.results.toList = [.tmp 4] := rfl
 simp only [go_sem, simprocAttr, rs, List.length_map]
 refine W_loop_ind (fun k e H => ∃ i : Nat, k = vs.length - i ∧ i ≤ vs.length ∧ (vs.take i).all (fun b => !decide (b.nm = q)) = true ∧ Frm H0 H ∧ gget .bad e 0 = .sl .sh (vs.map encB) ∧ gget .bad e 1 = .fn 155 [.ptr p 0] ∧ gget .bad e 7 = .lit (.int .i64 (vs.length : Nat)) ∧ gget .bad e 8 = .lit (.int .i64 (i : Nat)))
  vs.length ⟨0, rfl, by omega, rfl, by repeat (first | exact Frm.refl _ | refine Frm.up ?_ _), by simp only [go_sem, simprocAttr], by simp only [go_sem, simprocAttr], by simp only [go_sem, simprocAttr], by simp only [go_sem, simprocAttr]⟩ ?_
 rintro k ih e H ⟨i, rfl, hle, hR, hF, g0, g1, g7, g8⟩
 by_cases hl : i < vs.length
 ·have d1 : decide ((i : Int) < (vs.length : Nat)) = true := by simp; omega
  have ha := iad_map (f := encB) (t := 76) (n := 2) (b := 40) (o := .sh) hl (fun _ => rfl)
  have hw1 := wrap1 (show i + 1 ≤ 9223372036854775807 by unfold LA at hvl; omega)
  have hgp : H.get p = some [.lit (.string q)] := by rw [hF.get hlt]; exact hp
  have hnx := hF.nx
  have hb2 : (encB vs[i]).length = 2 := rfl
  have hb3 : (encB vs[i]).take 2 = encB vs[i] := rfl
  simp only [go_sem, simprocAttr, g0, g1, g7, g8, d1, ha, hb2, hb3]
  refine goC_ex (c_var1 vs[i] q p _ (by simp only [go_sem, simprocAttr, hgp]) (by simp only [go_sem, simprocAttr]; omega)) ?_
  rintro v H1 ⟨rfl, hF1⟩
  have hF2 : Frm H0 H1 := (by repeat (first | exact hF | refine Frm.up ?_ _) : Frm H0 _).trans hF1
  by_cases hx : vs[i].nm = q
  ·have dx : decide (vs[i].nm = q) = true := by simpa using hx
   simp only [go_sem, simprocAttr, g0, g1, g7, g8, rs, dx]
   exact ⟨_, rfl, .inr ⟨i, hl, rfl, hR, hx⟩⟩
  ·have dx : decide (vs[i].nm = q) = false := by simpa using hx
   simp only [go_sem, simprocAttr, g0, g1, g7, g8, hw1, dx]
   exact ih (vs.length - (i + 1)) (by omega) _ _ ⟨i + 1, rfl, by omega, by rw [List.take_succ_eq_append_getElem hl, List.all_append, hR]; simp [hx], by repeat (first | exact hF2 | refine Frm.up ?_ _), by simp only [go_sem, simprocAttr, g0], by simp only [go_sem, simprocAttr, g1], by simp only [go_sem, simprocAttr, g7], by simp only [go_sem, simprocAttr]⟩
 ·have d1 : decide ((i : Int) < (vs.length : Nat)) = false := by simp; omega
  rw [List.take_of_length_le (by omega)] at hR
  simp only [go_sem, simprocAttr, g0, g1, g7, g8, d1, rs]
  exact ⟨_, rfl, .inl ⟨rfl, hR⟩⟩
theorem c_variable (s : Sta) (hs : StOk s) (q : ByteArray) (H : Heap) : (calls Tryz.prog cfgV 110 [.agg (encSt s), .lit (.string q)] H = some (.ret (.lit (.int .i64 (-1))) H) ∧ s.vars.all (fun b => !decide (b.nm = q)) = true) ∨
  ∃ (i : Nat) (h : i < s.vars.length), calls Tryz.prog cfgV 110 [.agg (encSt s), .lit (.string q)] H = some (.ret (.lit (.int .i64 (i : Nat))) H) ∧ (s.vars.take i).all (fun b => !decide (b.nm = q)) = true ∧ s.vars[i].nm = q := by
 have rs : Tryz.f110.results.toList = [.tmp 4] := rfl
 have hso : (encSt s).all AV.one = true := rfl
 have hs1 : (encSt s)[1]? = some (.sl .sh (s.vars.map encB)) := rfl
 obtain ⟨v, H', hc, hv⟩ := c_idxV s.vars q 1 ((((Heap.empty.up 3).put 0 (encSt s)).put 1 [.lit (.string q)]).up 5) (by simp only [go_sem, simprocAttr]) (by simp only [go_sem, simprocAttr] <;> omega) hs.2.1
 rcases hv with ⟨rfl, hall⟩ | ⟨i, hi, rfl, hall, hx⟩
 ·refine .inl ⟨calls_pure (fn := Tryz.f110) rfl rfl rfl rfl rfl ?_ H, hall⟩
  simp only [go_sem, simprocAttr, rs, hso, hs1, hc]
 ·refine .inr ⟨i, hi, calls_pure (fn := Tryz.f110) rfl rfl rfl rfl rfl ?_ H, hall, hx⟩
  simp only [go_sem, simprocAttr, rs, hso, hs1, hc]
@[go_sem] theorem bs1_atm0 : aBuildSlice Tryz.prog 50 1 [(0, .agg [.lit (.int .i64 0), .lit (.int .i64 0)])] = some (.sl .ex [[.lit (.int .i64 0), .lit (.int .i64 0)]]) := bs1_atm (0, 0)
theorem c_Var (s : Sta) (hs : StOk s) (q : ByteArray) (H : Heap) : calls Tryz.prog cfgV 65 [.agg (encSt s), .lit (.string q)] H = some (.ret (.sl .sh (encAs (varA q s.vars))) H) := by
 refine calls_pure (fn := Tryz.f65) rfl rfl rfl rfl rfl ?_ H
 have rs : Tryz.f65.results.toList = [.tmp 4] := rfl
 have hso : (encSt s).all AV.one = true := rfl
 have hs1 : (encSt s)[1]? = some (.sl .sh (s.vars.map encB)) := rfl
 have hs3 : (encSt s).length = 3 := rfl
 have hst : (encSt s).take 3 = encSt s := rfl
 rcases c_variable s hs q Heap.empty with ⟨_, hall⟩ | ⟨i, hi, _, hall, hx⟩
 ·have hc : ∀ H, calls Tryz.prog cfgV 110 [.agg (encSt s), .lit (.string q)] H = some (.ret (.lit (.int .i64 (-1))) H) := fun H => by
   rcases c_variable s hs q H with ⟨h, _⟩ | ⟨i, hi, _, _, hx⟩
   ·exact h
   ·have := List.all_eq_true.1 hall s.vars[i] (List.getElem_mem hi); simp [hx] at this
  have d1 : decide ((0 : Int) ≤ -1) = false := rfl
  rw [varA_none hall]
  simp only [go_sem, simprocAttr, rs, hso, hs1, hs3, hst, hc, d1]
  rfl
 ·have hc : ∀ H, calls Tryz.prog cfgV 110 [.agg (encSt s), .lit (.string q)] H = some (.ret (.lit (.int .i64 (i : Nat))) H) := fun H => by
   rcases c_variable s hs q H with ⟨_, h⟩ | ⟨j, hj, h, hall2, hx2⟩
   ·have := List.all_eq_true.1 h s.vars[i] (List.getElem_mem hi); simp [hx] at this
   ·rcases Nat.lt_trichotomy i j with hij | hij | hij
    ·have := List.all_eq_true.1 hall2 s.vars[i] (List.mem_take_iff_getElem.2 ⟨i, by omega, rfl⟩); simp [hx] at this
    ·subst hij; exact h
    ·have := List.all_eq_true.1 hall s.vars[j] (List.mem_take_iff_getElem.2 ⟨j, by omega, rfl⟩); simp [hx2] at this
  have d1 : decide ((0 : Int) ≤ (i : Nat)) = true := by simp
  have hA := iad_map (f := encB) (t := 76) (n := 2) (b := 40) (o := .sh) hi (fun _ => rfl)
  have hA' : iad (some (76, 2, 40)) (.sl .sh (s.vars.map encB)) (some i) = some (.ep [.lit (.string s.vars[i].nm), .sl .sh (encAs s.vars[i].vals)]) := hA
  have hbo := hs.1 s.vars[i] (List.getElem_mem hi)
  have hcl : ∀ H, calls Tryz.prog cfgV 74 [.sl .sh (encAs s.vars[i].vals)] H = some (.ret (.sl .sh (encAs s.vars[i].vals)) H) := tClone_atm rfl _ (by unfold BOk at hbo; omega) .sh
  rw [varA_some hi hall hx]
  simp only [go_sem, simprocAttr, rs, hso, hs1, hs3, hst, hc, d1, hA', hcl]
end Go.Proofs.YtnoahchdmkpleaaGreat.VA

/-! Ra6 -/
namespace Go.Proofs.YtnoahchdmkpleaaGreat.VA
open Go Go.RowKit
attribute [local go_sem] Nat.add_eq_left Nat.left_eq_add true_and and_true ite_true if_false Int.cast_ofNat_Int eq_self Nat.add_assoc Option.some.injEq decide_true decide_false Bool.not_true Bool.not_false List.size_toArray List.length_cons List.length_nil
set_option linter.unusedSimpArgs false
set_option maxRecDepth 100000

theorem bs1_num : aBuildSlice Tryz.prog 50 1 [(0, .agg [.lit (.int .i64 2), .lit (.int .i64 0)])] = some (.sl .ex [[.lit (.int .i64 2), .lit (.int .i64 0)]]) := bs1_atm (2, 0)
theorem bs1_dyn : aBuildSlice Tryz.prog 50 1 [(0, .agg [.lit (.int .i64 6), .lit (.int .i64 0)])] = some (.sl .ex [[.lit (.int .i64 6), .lit (.int .i64 0)]]) := bs1_atm (6, 0)
theorem c_rNull (H : Heap) : calls Tryz.prog cfgR 33 [] H = some (.ret (.sl .sh (encAs [(0, 0)])) H) := by
 refine calls_pure (fn := Tryz.f33) rfl rfl rfl rfl rfl ?_ H
 have rs : Tryz.f33.results.toList = [.tmp 0] := rfl
 simp only [go_sem, simprocAttr, rs]
 rfl
theorem c_rNum (H : Heap) : calls Tryz.prog cfgR 31 [] H = some (.ret (.sl .sh (encAs [(2, 0)])) H) := by
 refine calls_pure (fn := Tryz.f31) rfl rfl rfl rfl rfl ?_ H
 have rs : Tryz.f31.results.toList = [.tmp 0] := rfl
 simp only [go_sem, simprocAttr, rs, bs1_num]
 rfl
theorem c_rDyn (H : Heap) : calls Tryz.prog cfgR 20 [] H = some (.ret (.sl .sh (encAs [(6, 0)])) H) := by
 refine calls_pure (fn := Tryz.f20) rfl rfl rfl rfl rfl ?_ H
 have rs : Tryz.f20.results.toList = [.tmp 0] := rfl
 simp only [go_sem, simprocAttr, rs, bs1_dyn]
 rfl
theorem c_rVar (s : Sta) (hvl : s.vars.length ≤ LA) (q : ByteArray) (H : Heap) : calls Tryz.prog cfgR 19 [.agg (encSt s), .lit (.string q)] H = some (.ret (.sl .sh (encAs (varA q s.vars))) H) := by
 refine calls_pure (fn := Tryz.f19) rfl rfl rfl rfl rfl ?_ H
 have rs : Tryz.f19.results.toList = [.tmp 4] := rfl
 obtain ⟨dd, vs, ls⟩ := s
 simp only at hvl
 generalize hr : varA q vs = r
 unfold encSt
 simp only [go_sem, simprocAttr, rs]
 refine W_loop_ind (fun k e H => ∃ i : Nat, k = vs.length - i ∧ i ≤ vs.length ∧ (vs.take i).all (fun b => !decide (b.nm = q)) = true ∧ gget .bad e 1 = .lit (.string q) ∧ gget .bad e 2 = .ptr 0 0 ∧ gget .bad e 5 = .lit (.int .i64 (i : Nat)) ∧ H.get 0 = some [.lit (.bool dd), .sl .sh (vs.map encB), .sl .sh (ls.map encL)])
  vs.length ⟨0, rfl, by omega, rfl, by simp only [go_sem, simprocAttr], by simp only [go_sem, simprocAttr], by simp only [go_sem, simprocAttr], by simp only [go_sem, simprocAttr]⟩ ?_
 rintro k ih e H ⟨i, rfl, hle, hR, g1, g2, g5, hg⟩
 by_cases hl : i < vs.length
 ·have d1 : decide ((i : Int) < (vs.length : Nat)) = true := by simp; omega
  have hw1 := wrap1 (show i + 1 ≤ 9223372036854775807 by unfold LA at hvl; omega)
  have hA : iad (some (76, 2, 40)) (.sl .sh (vs.map encB)) (some i) = some (.ep [.lit (.string vs[i].nm), .sl .sh (encAs vs[i].vals)]) := iad_map (f := encB) hl (fun _ => rfl)
  by_cases hx : vs[i].nm = q
  ·have dx : decide (vs[i].nm = q) = true := by simpa using hx
   have hr' : vs[i].vals = r := by rw [← hr]; exact (varA_some hl hR hx).symm
   simp only [go_sem, simprocAttr, g1, g2, g5, hg, d1, hA, dx, rs, List.length_map, hr']
  ·have dx : decide (vs[i].nm = q) = false := by simpa using hx
   simp only [go_sem, simprocAttr, g1, g2, g5, hg, d1, hA, dx, hw1, List.length_map]
   exact ih (vs.length - (i + 1)) (by omega) _ _ ⟨i + 1, rfl, by omega, by rw [List.take_succ_eq_append_getElem hl, List.all_append, hR]; simp [hx], by simp only [go_sem, simprocAttr, g1], by simp only [go_sem, simprocAttr, g2], by simp only [go_sem, simprocAttr], by simp only [go_sem, simprocAttr, hg]⟩
 ·have d1 : decide ((i : Int) < (vs.length : Nat)) = false := by simp; omega
  rw [List.take_of_length_le (by omega)] at hR
  have hr' : r = [(0, 0)] := by rw [← hr]; exact varA_none hR
  subst hr'
  simp only [go_sem, simprocAttr, g1, g2, g5, hg, d1, rs, List.length_map, c_rNull]
def smB (b : Bnd) : Bool := decide (b.vals.length ≤ 40)
def smF (f : Fd) : Bool := decide (f.vals.length ≤ 40)
def smL (l : Lc) : Bool := decide (l.shape.fields.length ≤ 40) && (decide (l.shape.proto.length ≤ 40) && l.shape.fields.all smF)
def smT (s : Sta) : Bool := decide (s.vars.length ≤ 40) && (decide (s.locs.length ≤ 40) && (s.vars.all smB && s.locs.all smL))
theorem gt_le (n : Nat) : decide ((40 : Int) < (n : Nat)) = !decide (n ≤ 40) := by rw [← decide_not]; exact decide_eq_decide.2 (by omega)
theorem c_small (s : Sta) (H : Heap) : calls Tryz.prog cfgR 10 [.agg (encSt s)] H = some (.ret (.lit (.bool (smT s))) H) := by
 refine calls_pure (fn := Tryz.f10) rfl rfl rfl rfl rfl ?_ H
 have rs : Tryz.f10.results.toList = [.tmp 2] := rfl
 obtain ⟨dd, vs, ls⟩ := s
 generalize hr : smT ⟨dd, vs, ls⟩ = r
 unfold smT at hr
 simp only at hr
 unfold encSt
 by_cases hv : vs.length ≤ 40
 ·by_cases hl : ls.length ≤ 40
  ·have dv : decide (vs.length ≤ 40) = true := by simpa using hv
   have dl : decide (ls.length ≤ 40) = true := by simpa using hl
   rw [dv, dl, Bool.true_and, Bool.true_and] at hr
   simp only [go_sem, simprocAttr, rs, List.length_map, gt_le, dv, dl]
   refine W_loop_ind (fun k e H => ∃ i : Nat, k = vs.length - i ∧ i ≤ vs.length ∧ ((vs.drop i).all smB && ls.all smL) = r ∧ gget .bad e 1 = .ptr 0 0 ∧ gget .bad e 3 = .lit (.int .i64 (i : Nat)) ∧ H.get 0 = some [.lit (.bool dd), .sl .sh (vs.map encB), .sl .sh (ls.map encL)])
    vs.length ⟨0, rfl, by omega, hr, by simp only [go_sem, simprocAttr], by simp only [go_sem, simprocAttr], by simp only [go_sem, simprocAttr]⟩ ?_
   rintro k ih e H ⟨i, rfl, hle, hR, g1, g3, hg⟩
   by_cases hlt : i < vs.length
   ·have d1 : decide ((i : Int) < (vs.length : Nat)) = true := by simp; omega
    have hw1 := wrap1 (show i + 1 ≤ 9223372036854775807 by omega)
    have hA : iad (some (76, 2, 40)) (.sl .sh (vs.map encB)) (some i) = some (.ep [.lit (.string vs[i].nm), .sl .sh (encAs vs[i].vals)]) := iad_map (f := encB) hlt (fun _ => rfl)
    rw [drop_at hlt, List.all_cons] at hR
    cases hx : smB vs[i] with
    | true =>
     have hx' : decide (vs[i].vals.length ≤ 40) = true := hx
     rw [hx, Bool.true_and] at hR
     simp only [go_sem, simprocAttr, g1, g3, hg, d1, hA, hw1, List.length_map, gt_le, hx']
     exact ih (vs.length - (i + 1)) (by omega) _ _ ⟨i + 1, rfl, by omega, hR, by simp only [go_sem, simprocAttr, g1], by simp only [go_sem, simprocAttr], by simp only [go_sem, simprocAttr, hg]⟩
    | false =>
     have hx' : decide (vs[i].vals.length ≤ 40) = false := hx
     rw [hx, Bool.false_and, Bool.false_and] at hR
     subst hR
     simp only [go_sem, simprocAttr, g1, g3, hg, d1, hA, hw1, List.length_map, gt_le, hx', rs]
   ·have d1 : decide ((i : Int) < (vs.length : Nat)) = false := by simp; omega
    rw [List.drop_of_length_le (by omega), List.all_nil, Bool.true_and] at hR
    clear ih
    simp only [go_sem, simprocAttr, g1, g3, hg, d1, List.length_map]
    refine W_loop_ind (fun k e H => ∃ i : Nat, k = ls.length - i ∧ i ≤ ls.length ∧ (ls.drop i).all smL = r ∧ gget .bad e 1 = .ptr 0 0 ∧ gget .bad e 4 = .lit (.int .i64 (i : Nat)) ∧ H.get 0 = some [.lit (.bool dd), .sl .sh (vs.map encB), .sl .sh (ls.map encL)])
     ls.length ⟨0, rfl, by omega, hR, by simp only [go_sem, simprocAttr, g1], by simp only [go_sem, simprocAttr], by simp only [go_sem, simprocAttr, hg]⟩ ?_
    clear hg g1 g3 hR
    rintro k ih e H ⟨i, rfl, hle, hR, g1, g4, hg⟩
    by_cases hlt : i < ls.length
    ·have d1 : decide ((i : Int) < (ls.length : Nat)) = true := by simp; omega
     have hw1 := wrap1 (show i + 1 ≤ 9223372036854775807 by omega)
     have hA : iad (some (83, 4, 64)) (.sl .sh (ls.map encL)) (some i) = some (.ep [.lit (.int .i64 ls[i].atom.1), .lit (.int .i64 ls[i].atom.2), .sl .sh (ls[i].shape.fields.map encF), .sl .sh (encAs ls[i].shape.proto)]) := iad_map (f := encL) hlt (fun _ => rfl)
     rw [drop_at hlt, List.all_cons] at hR
     generalize ls[i] = x at hA hR
     by_cases hf : x.shape.fields.length ≤ 40
     ·have df : decide (x.shape.fields.length ≤ 40) = true := by simpa using hf
      by_cases hp : x.shape.proto.length ≤ 40
      ·have dp : decide (x.shape.proto.length ≤ 40) = true := by simpa using hp
       have hR2 : (x.shape.fields.all smF && (ls.drop (i + 1)).all smL) = r := by rw [← hR]; simp [smL, hf, hp]
       simp only [go_sem, simprocAttr, g1, g4, hg, d1, hA, List.length_map, gt_le, df, dp]
       refine W_loop_ind (fun k e H => ∃ j : Nat, k = x.shape.fields.length - j ∧ j ≤ x.shape.fields.length ∧ ((x.shape.fields.drop j).all smF && (ls.drop (i + 1)).all smL) = r ∧ gget .bad e 1 = .ptr 0 0 ∧ gget .bad e 4 = .lit (.int .i64 (i : Nat)) ∧ gget .bad e 5 = .lit (.int .i64 (j : Nat)) ∧ H.get 0 = some [.lit (.bool dd), .sl .sh (vs.map encB), .sl .sh (ls.map encL)])
        x.shape.fields.length ⟨0, rfl, by omega, hR2, by simp only [go_sem, simprocAttr, g1], by simp only [go_sem, simprocAttr, g4], by simp only [go_sem, simprocAttr], by simp only [go_sem, simprocAttr, hg]⟩ ?_
       clear hg g1 g4 hR
       rintro k ih2 e H ⟨j, rfl, hlj, hR, g1, g4, g5, hg⟩
       by_cases hlt2 : j < x.shape.fields.length
       ·have d2 : decide ((j : Int) < (x.shape.fields.length : Nat)) = true := by simp; omega
        have hw2 := wrap1 (show j + 1 ≤ 9223372036854775807 by omega)
        have hB : iad (some (85, 3, 48)) (.sl .sh (x.shape.fields.map encF)) (some j) = some (.ep [.lit (.string x.shape.fields[j].nm), .lit (.bool x.shape.fields[j].sure), .sl .sh (encAs x.shape.fields[j].vals)]) := iad_map (f := encF) hlt2 (fun _ => rfl)
        rw [drop_at hlt2, List.all_cons] at hR
        cases hx : smF x.shape.fields[j] with
        | true =>
         have hx' : decide (x.shape.fields[j].vals.length ≤ 40) = true := hx
         rw [hx, Bool.true_and] at hR
         simp only [go_sem, simprocAttr, g1, g4, g5, hg, d2, hA, hB, hw2, List.length_map, gt_le, hx']
         exact ih2 (x.shape.fields.length - (j + 1)) (by omega) _ _ ⟨j + 1, rfl, by omega, hR, by simp only [go_sem, simprocAttr, g1], by simp only [go_sem, simprocAttr, g4], by simp only [go_sem, simprocAttr], by simp only [go_sem, simprocAttr, hg]⟩
        | false =>
         have hx' : decide (x.shape.fields[j].vals.length ≤ 40) = false := hx
         rw [hx, Bool.false_and, Bool.false_and] at hR
         subst hR
         simp only [go_sem, simprocAttr, g1, g4, g5, hg, d2, hA, hB, hw2, List.length_map, gt_le, hx', rs]
       ·have d2 : decide ((j : Int) < (x.shape.fields.length : Nat)) = false := by simp; omega
        rw [List.drop_of_length_le (by omega), List.all_nil, Bool.true_and] at hR
        simp only [go_sem, simprocAttr, g1, g4, g5, hg, d2, hA, hw1, List.length_map]
        exact ih (ls.length - (i + 1)) (by omega) _ _ ⟨i + 1, rfl, by omega, hR, by simp only [go_sem, simprocAttr, g1], by simp only [go_sem, simprocAttr], by simp only [go_sem, simprocAttr, hg]⟩
      ·have dp : decide (x.shape.proto.length ≤ 40) = false := by simpa using hp
       have hR2 : r = false := by rw [← hR]; simp [smL, hp]
       subst hR2
       simp only [go_sem, simprocAttr, g1, g4, hg, d1, hA, List.length_map, gt_le, df, dp, rs]
     ·have df : decide (x.shape.fields.length ≤ 40) = false := by simpa using hf
      have hR2 : r = false := by rw [← hR]; simp [smL, hf]
      subst hR2
      simp only [go_sem, simprocAttr, g1, g4, hg, d1, hA, List.length_map, gt_le, df, rs]
    ·have d1 : decide ((i : Int) < (ls.length : Nat)) = false := by simp; omega
     rw [List.drop_of_length_le (by omega), List.all_nil] at hR
     subst hR
     simp only [go_sem, simprocAttr, g1, g4, hg, d1, List.length_map, rs]
  ·have dv : decide (vs.length ≤ 40) = true := by simpa using hv
   have dl : decide (ls.length ≤ 40) = false := by simpa using hl
   rw [dl, Bool.false_and, Bool.and_false] at hr
   subst hr
   simp only [go_sem, simprocAttr, rs, List.length_map, gt_le, dv, dl]
 ·have dv : decide (vs.length ≤ 40) = false := by simpa using hv
  rw [dv, Bool.false_and] at hr
  subst hr
  simp only [go_sem, simprocAttr, rs, List.length_map, gt_le, dv]
theorem smT_ok {s : Sta} (h : smT s = true) : StOk s ∧ s.vars.length + 1 ≤ LA := by
 unfold smT at h
 simp only [Bool.and_eq_true, decide_eq_true_eq] at h
 obtain ⟨h1, h2, h3, h4⟩ := h
 refine ⟨⟨fun b hb => ?_, by unfold LA; omega, fun l hl => ?_, by unfold LA; omega⟩, by unfold LA; omega⟩
 ·have := List.all_eq_true.1 h3 b hb
  simp only [smB, decide_eq_true_eq] at this
  unfold BOk LA; omega
 ·have := List.all_eq_true.1 h4 l hl
  simp only [smL, Bool.and_eq_true, decide_eq_true_eq] at this
  obtain ⟨q1, q2, q3⟩ := this
  refine ⟨fun f hf => ?_, by unfold LA; omega, by unfold LA; omega⟩
  have := List.all_eq_true.1 q3 f hf
  simp only [smF, decide_eq_true_eq] at this
  unfold FOk LA; omega
end Go.Proofs.YtnoahchdmkpleaaGreat.VA

/-! Ra7 -/
namespace Go.Proofs.YtnoahchdmkpleaaGreat.VA
open Go Go.RowKit
attribute [local go_sem] Nat.add_eq_left Nat.left_eq_add true_and and_true ite_true if_false Int.cast_ofNat_Int eq_self Nat.add_assoc Option.some.injEq decide_true decide_false Bool.not_true Bool.not_false List.size_toArray List.length_cons List.length_nil
set_option linter.unusedSimpArgs false
set_option maxRecDepth 100000

theorem c_same1 (d : List (Int × Int)) (hd : d.length ≤ LA) (o o' : Own) (H : Heap) : calls Tryz.prog cfgR 18 [.sl o (encAs d), .sl o' (encAs d)] H = some (.ret (.lit (.bool true)) H) := by
 have := c_same d d hd o o' H
 rw [decide_eq_true rfl] at this
 exact this
theorem c_sameSh (s : Sh) (hs : ShOk s) (H : Heap) : calls Tryz.prog cfgR 51 [.agg (encSh s), .agg (encSh s)] H = some (.ret (.lit (.bool true)) H) := by
 refine calls_pure (fn := Tryz.f51) rfl rfl rfl rfl rfl ?_ H
 have rs : Tryz.f51.results.toList = [.tmp 4] := rfl
 obtain ⟨fs, pr⟩ := s
 obtain ⟨hf, hfl, hpl⟩ := hs
 simp only at hf hfl hpl
 have hp := fun H => c_same1 pr (by omega) .sh .sh H
 have dn : ∀ n : Nat, decide ((n : Int) = (n : Nat)) = true := fun n => by simp
 unfold encSh
 simp only [go_sem, simprocAttr, rs, List.length_map, dn, hp]
 refine W_loop_ind (fun k e H => ∃ i : Nat, k = fs.length - i ∧ i ≤ fs.length ∧ gget .bad e 2 = .ptr 0 0 ∧ gget .bad e 3 = .ptr 1 0 ∧ gget .bad e 5 = .lit (.int .i64 (i : Nat)) ∧ H.get 0 = some [.sl .sh (fs.map encF), .sl .sh (encAs pr)] ∧ H.get 1 = some [.sl .sh (fs.map encF), .sl .sh (encAs pr)] ∧ 2 ≤ H.next)
  fs.length ⟨0, rfl, by omega, by simp only [go_sem, simprocAttr], by simp only [go_sem, simprocAttr], by simp only [go_sem, simprocAttr], by simp only [go_sem, simprocAttr], by simp only [go_sem, simprocAttr], by simp only [go_sem, simprocAttr] <;> omega⟩ ?_
 rintro k ih e H ⟨i, rfl, hle, g2, g3, g5, h0, h1, hnx⟩
 obtain ⟨m, hm⟩ : ∃ m, H.next = m + 2 := ⟨H.next - 2, by omega⟩
 by_cases hlt : i < fs.length
 ·have d1 : decide ((i : Int) < (fs.length : Nat)) = true := by simp; omega
  have hw := wrap1 (show i + 1 ≤ 9223372036854775807 by unfold LA at hfl; omega)
  have hfo := hf fs[i] (List.getElem_mem hlt)
  have hA : iad (some (85, 3, 48)) (.sl .sh (fs.map encF)) (some i) = some (.ep [.lit (.string fs[i].nm), .lit (.bool fs[i].sure), .sl .sh (encAs fs[i].vals)]) := iad_map (f := encF) hlt (fun _ => rfl)
  generalize fs[i] = x at hA hfo
  have hv := fun H => c_same1 x.vals (by unfold FOk at hfo; omega) .sh .sh H
  have dx : decide (x.nm = x.nm) = true := decide_eq_true rfl
  have db : (x.sure == x.sure) = true := by simp
  simp only [go_sem, simprocAttr, g2, g3, g5, h0, h1, hm, d1, List.length_map]
  refine W_draw [(1, 6), (4, 6), (1, 9), (4, 9), (1, 10), (4, 10), (6, 10), (9, 10), (1, 11), (4, 11), (6, 11), (9, 11), (10, 11), (6, 12), (9, 12)] (by kernel_rfl) ?_
  simp only [go_sem, simprocAttr, g2, g3, g5, h0, h1, hm, hA, hw, dx, db, hv]
  exact ih (fs.length - (i + 1)) (by omega) _ _ ⟨i + 1, rfl, by omega, by simp only [go_sem, simprocAttr, g2], by simp only [go_sem, simprocAttr, g3], by simp only [go_sem, simprocAttr], by simp only [go_sem, simprocAttr, hm, h0], by simp only [go_sem, simprocAttr, hm, h1], by simp only [go_sem, simprocAttr, hm] <;> omega⟩
 ·have d1 : decide ((i : Int) < (fs.length : Nat)) = false := by simp; omega
  simp only [go_sem, simprocAttr, g2, g3, g5, h0, h1, hm, d1, List.length_map, rs]
theorem c_sameSt (s : Sta) (hs : StOk s) (H : Heap) : calls Tryz.prog cfgR 17 [.agg (encSt s), .agg (encSt s)] H = some (.ret (.lit (.bool true)) H) := by
 refine calls_pure (fn := Tryz.f17) rfl rfl rfl rfl rfl ?_ H
 have rs : Tryz.f17.results.toList = [.tmp 4] := rfl
 obtain ⟨dd, vs, ls⟩ := s
 obtain ⟨hv, hvl, hL, hll⟩ := hs
 simp only at hv hvl hL hll
 have dn : ∀ n : Nat, decide ((n : Int) = (n : Nat)) = true := fun n => by simp
 have db : (dd == dd) = true := by simp
 unfold encSt
 simp only [go_sem, simprocAttr, rs, List.length_map, dn, db]
 refine W_loop_ind (fun k e H => ∃ i : Nat, k = vs.length - i ∧ i ≤ vs.length ∧ gget .bad e 2 = .ptr 0 0 ∧ gget .bad e 3 = .ptr 1 0 ∧ gget .bad e 5 = .lit (.int .i64 (i : Nat)) ∧ H.get 0 = some [.lit (.bool dd), .sl .sh (vs.map encB), .sl .sh (ls.map encL)] ∧ H.get 1 = some [.lit (.bool dd), .sl .sh (vs.map encB), .sl .sh (ls.map encL)])
  vs.length ⟨0, rfl, by omega, by simp only [go_sem, simprocAttr], by simp only [go_sem, simprocAttr], by simp only [go_sem, simprocAttr], by simp only [go_sem, simprocAttr], by simp only [go_sem, simprocAttr]⟩ ?_
 rintro k ih e H ⟨i, rfl, hle, g2, g3, g5, h0, h1⟩
 by_cases hlt : i < vs.length
 ·have d1 : decide ((i : Int) < (vs.length : Nat)) = true := by simp; omega
  have hw := wrap1 (show i + 1 ≤ 9223372036854775807 by unfold LA at hvl; omega)
  have hfo := hv vs[i] (List.getElem_mem hlt)
  have hA : iad (some (76, 2, 40)) (.sl .sh (vs.map encB)) (some i) = some (.ep [.lit (.string vs[i].nm), .sl .sh (encAs vs[i].vals)]) := iad_map (f := encB) hlt (fun _ => rfl)
  generalize vs[i] = x at hA hfo
  have hc := fun H => c_same1 x.vals (by unfold BOk at hfo; omega) .sh .sh H
  have dx : decide (x.nm = x.nm) = true := decide_eq_true rfl
  simp only [go_sem, simprocAttr, g2, g3, g5, h0, h1, d1, List.length_map]
  refine W_draw [(1, 7), (5, 7), (1, 11), (5, 11), (15, 21), (19, 21), (15, 25), (19, 25)] (by kernel_rfl) ?_
  simp only [go_sem, simprocAttr, g2, g3, g5, h0, h1, hA, hw, dx, hc]
  exact ih (vs.length - (i + 1)) (by omega) _ _ ⟨i + 1, rfl, by omega, by simp only [go_sem, simprocAttr, g2], by simp only [go_sem, simprocAttr, g3], by simp only [go_sem, simprocAttr], by simp only [go_sem, simprocAttr, h0], by simp only [go_sem, simprocAttr, h1]⟩
 ·have d1 : decide ((i : Int) < (vs.length : Nat)) = false := by simp; omega
  clear ih
  simp only [go_sem, simprocAttr, g2, g3, g5, h0, h1, d1, List.length_map, rs]
  refine W_loop_ind (fun k e H => ∃ i : Nat, k = ls.length - i ∧ i ≤ ls.length ∧ gget .bad e 2 = .ptr 0 0 ∧ gget .bad e 3 = .ptr 1 0 ∧ gget .bad e 6 = .lit (.int .i64 (i : Nat)) ∧ H.get 0 = some [.lit (.bool dd), .sl .sh (vs.map encB), .sl .sh (ls.map encL)] ∧ H.get 1 = some [.lit (.bool dd), .sl .sh (vs.map encB), .sl .sh (ls.map encL)])
   ls.length ⟨0, rfl, by omega, by simp only [go_sem, simprocAttr, g2], by simp only [go_sem, simprocAttr, g3], by simp only [go_sem, simprocAttr], by simp only [go_sem, simprocAttr, h0], by simp only [go_sem, simprocAttr, h1]⟩ ?_
  clear g2 g3 g5 h0 h1
  rintro k ih e H ⟨i, rfl, hle, g2, g3, g6, h0, h1⟩
  by_cases hlt : i < ls.length
  ·have d1 : decide ((i : Int) < (ls.length : Nat)) = true := by simp; omega
   have hw := wrap1 (show i + 1 ≤ 9223372036854775807 by unfold LA at hll; omega)
   have hfo := hL ls[i] (List.getElem_mem hlt)
   have hA : iad (some (83, 4, 64)) (.sl .sh (ls.map encL)) (some i) = some (.ep [.lit (.int .i64 ls[i].atom.1), .lit (.int .i64 ls[i].atom.2), .sl .sh (ls[i].shape.fields.map encF), .sl .sh (encAs ls[i].shape.proto)]) := iad_map (f := encL) hlt (fun _ => rfl)
   generalize ls[i] = x at hA hfo
   have hc : ∀ H, calls Tryz.prog cfgR 51 [.agg [.sl .sh (x.shape.fields.map encF), .sl .sh (encAs x.shape.proto)], .agg [.sl .sh (x.shape.fields.map encF), .sl .sh (encAs x.shape.proto)]] H = some (.ret (.lit (.bool true)) H) := fun H => c_sameSh x.shape hfo H
   have hn : aBin Tryz.prog .neq 81 (.agg [.lit (.int .i64 x.atom.1), .lit (.int .i64 x.atom.2)]) (.agg [.lit (.int .i64 x.atom.1), .lit (.int .i64 x.atom.2)]) = some (.lit (.bool false)) := by
    have := bin_neatm x.atom x.atom
    rw [decide_eq_true rfl] at this
    exact this
   simp only [go_sem, simprocAttr, g2, g3, g6, h0, h1, d1, List.length_map]
   refine W_draw [(1, 7), (5, 7), (1, 11), (5, 11), (15, 21), (19, 21), (15, 25), (19, 25)] (by kernel_rfl) ?_
   simp only [go_sem, simprocAttr, g2, g3, g6, h0, h1, hA, hw, hn, hc]
   exact ih (ls.length - (i + 1)) (by omega) _ _ ⟨i + 1, rfl, by omega, by simp only [go_sem, simprocAttr, g2], by simp only [go_sem, simprocAttr, g3], by simp only [go_sem, simprocAttr], by simp only [go_sem, simprocAttr, h0], by simp only [go_sem, simprocAttr, h1]⟩
  ·have d1 : decide ((i : Int) < (ls.length : Nat)) = false := by simp; omega
   simp only [go_sem, simprocAttr, g2, g3, g6, h0, h1, d1, List.length_map, rs]
end Go.Proofs.YtnoahchdmkpleaaGreat.VA

/-! St1 -/
namespace Go.Proofs.YtnoahchdmkpleaaGreat.VA
open Go Go.RowKit
attribute [local go_sem] Nat.add_eq_left Nat.left_eq_add true_and and_true ite_true if_false Int.cast_ofNat_Int eq_self Nat.add_assoc Option.some.injEq decide_true decide_false Bool.not_true Bool.not_false List.size_toArray List.length_cons List.length_nil
set_option linter.unusedSimpArgs false
set_option maxRecDepth 100000

/-- The table for step.Do. -/
noncomputable def cfg3 : Cfg := mkC Tryz.prog [14, 44, 36, 63, 61, 106, 152, 201,
 163, 202, 118, 34, 8, 32, 30, 5]
 [46, 73, 47, 49, 76, 77, 78, 80,
 117, 162, 161, 149] []
 [(60, toldBy Tryz.prog cfg1 60), (115, toldBy Tryz.prog cfg2 115), (48, toldBy Tryz.prog cfgS 48), (65, toldBy Tryz.prog cfgV 65),
 (45, toldBy Tryz.prog cfgR 45), (10, toldBy Tryz.prog cfgR 10), (11, toldBy Tryz.prog cfgR 11), (17, toldBy Tryz.prog cfgR 17),
 (18, toldBy Tryz.prog cfgR 18), (19, toldBy Tryz.prog cfgR 19), (20, toldBy Tryz.prog cfgR 20), (31, toldBy Tryz.prog cfgR 31),
 (33, toldBy Tryz.prog cfgR 33), (35, toldBy Tryz.prog cfgR 35), (29, toldBy Tryz.prog cfgR 29)] []
theorem cfg3_ok : CfgOk Tryz.prog Cond.none cfg3 := mkC_ok (by kernel_rfl) (by kernel_rfl) (by
 intro p hp
 simp only [List.mem_cons, List.not_mem_nil, or_false] at hp
 rcases hp with rfl | rfl | rfl | rfl | rfl | rfl | rfl | rfl | rfl | rfl | rfl | rfl | rfl | rfl | rfl
 ·exact toldBy_ok cfg1_ok (fn := Tryz.f60) (by kernel_rfl) (by kernel_rfl) rfl
 ·exact toldBy_ok cfg2_ok (fn := Tryz.f115) (by kernel_rfl) (by kernel_rfl) rfl
 ·exact toldBy_ok cfgS_ok (fn := Tryz.f48) (by kernel_rfl) (by kernel_rfl) rfl
 ·exact toldBy_ok cfgV_ok (fn := Tryz.f65) (by kernel_rfl) (by kernel_rfl) rfl
 ·exact toldBy_ok cfgR_ok (fn := Tryz.f45) (by kernel_rfl) (by kernel_rfl) rfl
 ·exact toldBy_ok cfgR_ok (fn := Tryz.f10) (by kernel_rfl) (by kernel_rfl) rfl
 ·exact toldBy_ok cfgR_ok (fn := Tryz.f11) (by kernel_rfl) (by kernel_rfl) rfl
 ·exact toldBy_ok cfgR_ok (fn := Tryz.f17) (by kernel_rfl) (by kernel_rfl) rfl
 ·exact toldBy_ok cfgR_ok (fn := Tryz.f18) (by kernel_rfl) (by kernel_rfl) rfl
 ·exact toldBy_ok cfgR_ok (fn := Tryz.f19) (by kernel_rfl) (by kernel_rfl) rfl
 ·exact toldBy_ok cfgR_ok (fn := Tryz.f20) (by kernel_rfl) (by kernel_rfl) rfl
 ·exact toldBy_ok cfgR_ok (fn := Tryz.f31) (by kernel_rfl) (by kernel_rfl) rfl
 ·exact toldBy_ok cfgR_ok (fn := Tryz.f33) (by kernel_rfl) (by kernel_rfl) rfl
 ·exact toldBy_ok cfgR_ok (fn := Tryz.f35) (by kernel_rfl) (by kernel_rfl) rfl
 ·exact toldBy_ok cfgR_ok (fn := Tryz.f29) (by kernel_rfl) (by kernel_rfl) rfl) (by simp)
theorem s_norm (d : List (Int × Int)) (hl : d.length ≤ LA) (o : Own) (H : Heap) : calls Tryz.prog cfg3 60 [.sl o (encAs d)] H = some (.ret (.sl .sh (encAs (normA d))) H) :=
 calls_by rfl (fun H => by simp only [sanL, san, sanLL_encAs]; exact c_norm d hl .sh H) (by simp only [san, sanLL_encAs]) H
theorem s_set (s : Sta) (hs : StOk s) (hv1 : s.vars.length + 1 ≤ LA) (q : ByteArray) (d : List (Int × Int)) (hd : d.length ≤ LA) (o : Own) (H : Heap) :
  calls Tryz.prog cfg3 115 [.agg (encSt s), .lit (.string q), .sl o (encAs d)] H = some (.ret (.agg (encSt (setT q (normA d) s))) H) :=
 calls_by rfl (fun H => by simp only [sanL, san, sanLL_encAs, sanL_encSt]; exact c_setT s hs hv1 q d hd .sh H) (by simp only [san, sanL_encSt]) H
theorem s_copy (s : Sta) (hs : StOk s) (H : Heap) : calls Tryz.prog cfg3 48 [.agg (encSt s)] H = some (.ret (.agg (encSt s)) H) :=
 calls_by rfl (fun H => by simp only [sanL, san, sanL_encSt]; exact c_copyS s hs H) (by simp only [san, sanL_encSt]) H
theorem s_var (s : Sta) (hs : StOk s) (q : ByteArray) (H : Heap) : calls Tryz.prog cfg3 65 [.agg (encSt s), .lit (.string q)] H = some (.ret (.sl .sh (encAs (varA q s.vars))) H) :=
 calls_by rfl (fun H => by simp only [sanL, san, sanL_encSt]; exact c_Var s hs q H) (by simp only [san, sanLL_encAs]) H
theorem s_may (s : Sta) (hs : StOk s) (H : Heap) : calls Tryz.prog cfg3 45 [.agg (encSt s)] H = some (.ret (.lit (.bool (mayT s))) H) :=
 calls_by rfl (fun H => by simp only [sanL, san, sanL_encSt]; exact c_staMay s hs H) rfl H
theorem s_small (s : Sta) (H : Heap) : calls Tryz.prog cfg3 10 [.agg (encSt s)] H = some (.ret (.lit (.bool (smT s))) H) :=
 calls_by rfl (fun H => by simp only [sanL, san, sanL_encSt]; exact c_small s H) rfl H
theorem s_rMay (s : Sta) (hs : StOk s) (H : Heap) : calls Tryz.prog cfg3 11 [.agg (encSt s)] H = some (.ret (.lit (.bool (mayT s))) H) :=
 calls_by rfl (fun H => by simp only [sanL, san, sanL_encSt]; exact c_rStaMay s hs H) rfl H
theorem s_sameSt (s : Sta) (hs : StOk s) (H : Heap) : calls Tryz.prog cfg3 17 [.agg (encSt s), .agg (encSt s)] H = some (.ret (.lit (.bool true)) H) :=
 calls_by rfl (fun H => by simp only [sanL, san, sanL_encSt]; exact c_sameSt s hs H) rfl H
theorem s_same1 (d : List (Int × Int)) (hd : d.length ≤ LA) (o o' : Own) (H : Heap) : calls Tryz.prog cfg3 18 [.sl o (encAs d), .sl o' (encAs d)] H = some (.ret (.lit (.bool true)) H) :=
 calls_by rfl (fun H => by simp only [sanL, san, sanLL_encAs]; exact c_same1 d hd .sh .sh H) rfl H
theorem s_rVar (s : Sta) (hvl : s.vars.length ≤ LA) (q : ByteArray) (H : Heap) : calls Tryz.prog cfg3 19 [.agg (encSt s), .lit (.string q)] H = some (.ret (.sl .sh (encAs (varA q s.vars))) H) :=
 calls_by rfl (fun H => by simp only [sanL, san, sanL_encSt]; exact c_rVar s hvl q H) (by simp only [san, sanLL_encAs]) H
theorem s_dyn (H : Heap) : calls Tryz.prog cfg3 20 [] H = some (.ret (.sl .sh (encAs [(6, 0)])) H) := calls_by rfl (fun H => c_rDyn H) (by simp only [san, sanLL_encAs]) H
theorem s_num (H : Heap) : calls Tryz.prog cfg3 31 [] H = some (.ret (.sl .sh (encAs [(2, 0)])) H) := calls_by rfl (fun H => c_rNum H) (by simp only [san, sanLL_encAs]) H
theorem s_null (H : Heap) : calls Tryz.prog cfg3 33 [] H = some (.ret (.sl .sh (encAs [(0, 0)])) H) := calls_by rfl (fun H => c_rNull H) (by simp only [san, sanLL_encAs]) H
def idxP {α : Type} (p : α → Bool) : List α → Int → Int
 | [], _ => -1
 | y :: l, k => if p y = true then k else idxP p l (k + 1)
theorem idxP_pos {α : Type} (p : α → Bool) : ∀ (l : List α) (k : Int), 0 ≤ k → decide (0 ≤ idxP p l k) = l.any p
 | [], k, _ => rfl
 | y :: l, k, h => by
  unfold idxP
  cases hp : p y with
  | true => simp [hp, h]
  | false => simp [hp]; have := idxP_pos p l (k + 1) (by omega); simpa using this
theorem c_index (d : List (Int × Int)) (hl : d.length ≤ LA) (x : Int × Int) (o : Own) (H : Heap) : calls Tryz.prog cfg3 201 [.sl o (encAs d), .agg (avA x)] H = some (.ret (.lit (.int .i64 (idxP (fun y => decide (x = y)) d 0))) H) := by
 refine calls_pure (fn := Tryz.f201) rfl rfl rfl rfl rfl ?_ H
 have rs : Tryz.f201.results.toList = [.tmp 4] := rfl
 generalize hr : idxP (fun y => decide (x = y)) d 0 = r
 have hb6 : (avA x).all AV.one = true := rfl
 simp only [go_sem, simprocAttr, rs, sanL_avA, hb6]
 refine W_loop_ind (fun k e H => ∃ i : Nat, k = d.length - i ∧ i ≤ d.length ∧ idxP (fun y => decide (x = y)) (d.drop i) i = r ∧ gget .bad e 0 = .sl .sh (encAs d) ∧ gget .bad e 3 = .ptr 0 0 ∧ gget .bad e 7 = .lit (.int .i64 (d.length : Nat)) ∧ gget .bad e 8 = .lit (.int .i64 (i : Nat)) ∧ H.get 0 = some (avA x))
  d.length ⟨0, rfl, by omega, hr, by simp only [go_sem, simprocAttr], by simp only [go_sem, simprocAttr], by simp only [go_sem, simprocAttr], by simp only [go_sem, simprocAttr], by simp only [go_sem, simprocAttr]⟩ ?_
 rintro k ih e H ⟨i, rfl, hle, hR, g0, g3, g7, g8, h0⟩
 by_cases hlt : i < d.length
 ·have d1 : decide ((i : Int) < (d.length : Nat)) = true := by simp; omega
  have hw := wrap1 (show i + 1 ≤ 9223372036854775807 by unfold LA at hl; omega)
  have hA := iad_atm (t := 81) (b := 16) (o := .sh) hlt
  have hb2 : (avA x).length = 2 := rfl
  have hb3 : (avA x).take 2 = avA x := rfl
  have hb4 : ∀ y : Int × Int, (avA y).length = 2 := fun _ => rfl
  have hb5 : ∀ y : Int × Int, (avA y).take 2 = avA y := fun _ => rfl
  rw [drop_at hlt] at hR
  unfold idxP at hR
  simp only [go_sem, simprocAttr, g0, g3, g7, g8, d1, h0]
  refine W_draw [(0, 4)] (by kernel_rfl) ?_
  by_cases hx : x = d[i]
  ·rw [if_pos (by simpa using hx)] at hR
   subst hR
   have dx : decide (x = d[i]) = true := by simpa using hx
   simp only [go_sem, simprocAttr, g0, g3, g7, g8, d1, h0, hA, hb4, hb5, dx, rs]
  ·rw [if_neg (by simpa using hx)] at hR
   have dx : decide (x = d[i]) = false := by simpa using hx
   simp only [go_sem, simprocAttr, g0, g3, g7, g8, d1, h0, hA, hb4, hb5, dx, hw]
   exact ih (d.length - (i + 1)) (by omega) _ _ ⟨i + 1, rfl, by omega, hR, by simp only [go_sem, simprocAttr, g0], by simp only [go_sem, simprocAttr, g3], by simp only [go_sem, simprocAttr, g7], by simp only [go_sem, simprocAttr], by simp only [go_sem, simprocAttr, h0]⟩
 ·have d1 : decide ((i : Int) < (d.length : Nat)) = false := by simp; omega
  rw [List.drop_of_length_le (by omega)] at hR
  have hR' : r = -1 := hR.symm
  subst hR'
  simp only [go_sem, simprocAttr, g0, g3, g7, g8, d1, h0, rs]
theorem c_contains (d : List (Int × Int)) (hl : d.length ≤ LA) (x : Int × Int) (o : Own) (H : Heap) : calls Tryz.prog cfg3 152 [.sl o (encAs d), .agg (avA x)] H = some (.ret (.lit (.bool (d.any fun y => decide (x = y)))) H) := by
 refine calls_pure (fn := Tryz.f152) rfl rfl rfl rfl rfl ?_ H
 have rs : Tryz.f152.results.toList = [.tmp 4] := rfl
 have hc := fun H => c_index d hl x .sh H
 have hp := idxP_pos (fun y => decide (x = y)) d 0 (Int.le_refl _)
 have hb4 : (avA x).length = 2 := rfl
 have hb5 : (avA x).take 2 = avA x := rfl
 have hb6 : (avA x).all AV.one = true := rfl
 simp only [go_sem, simprocAttr, rs, hc, hp, hb4, hb5, hb6, sanL_avA]
theorem s_has (d : List (Int × Int)) (hl : d.length ≤ LA) (x : Int × Int) (o : Own) (H : Heap) : calls Tryz.prog cfg3 106 [.sl o (encAs d), .agg (avA x)] H = some (.ret (.lit (.bool (d.any fun y => decide (x = y)))) H) := by
 refine calls_pure (fn := Tryz.f106) rfl rfl rfl rfl rfl ?_ H
 have rs : Tryz.f106.results.toList = [.tmp 4] := rfl
 have hc := fun H => c_contains d hl x .sh H
 have hb4 : (avA x).length = 2 := rfl
 have hb5 : (avA x).take 2 = avA x := rfl
 have hb6 : (avA x).all AV.one = true := rfl
 simp only [go_sem, simprocAttr, rs, hc, hb4, hb5, hb6, sanL_avA]
def dynA (d : List (Int × Int)) : Bool := d.any fun y => decide ((6, 0) = y)
theorem c_dyn (d : List (Int × Int)) (hl : d.length ≤ LA) (o : Own) (H : Heap) : calls Tryz.prog cfg3 61 [.sl o (encAs d)] H = some (.ret (.lit (.bool (dynA d))) H) := by
 refine calls_pure (fn := Tryz.f61) rfl rfl rfl rfl rfl ?_ H
 have rs : Tryz.f61.results.toList = [.tmp 2] := rfl
 have hc : ∀ H, calls Tryz.prog cfg3 106 [.sl .sh (encAs d), .agg [.lit (.int .i64 6), .lit (.int .i64 0)]] H = some (.ret (.lit (.bool (dynA d))) H) := fun H => s_has d hl (6, 0) .sh H
 simp only [go_sem, simprocAttr, rs, hc]
theorem c_one (k : Int) (H : Heap) : calls Tryz.prog cfg3 63 [.lit (.int .i64 k)] H = some (.ret (.sl .sh (encAs [(k, 0)])) H) := by
 refine calls_pure (fn := Tryz.f63) rfl rfl rfl rfl rfl ?_ H
 have rs : Tryz.f63.results.toList = [.tmp 2] := rfl
 have hb : aBuildSlice Tryz.prog 50 1 [(0, .agg [.lit (.int .i64 k), .lit (.int .i64 0)])] = some (.sl .ex [avA (k, 0)]) := bs1_atm (k, 0)
 simp only [go_sem, simprocAttr, rs, hb]
 rfl
end Go.Proofs.YtnoahchdmkpleaaGreat.VA

/-! St2 -/
namespace Go.Proofs.YtnoahchdmkpleaaGreat.VA
open Go Go.RowKit
attribute [local go_sem] Nat.add_eq_left Nat.left_eq_add true_and and_true ite_true if_false Int.cast_ofNat_Int eq_self Nat.add_assoc Option.some.injEq decide_true decide_false Bool.not_true Bool.not_false List.size_toArray List.length_cons List.length_nil
set_option linter.unusedSimpArgs false
set_option maxRecDepth 100000

/-- An operand. -/
structure Opd where
 kind : Int
 n : Int
 nm : ByteArray
def encOp (x : Opd) : List AV := [.lit (.int .i64 x.kind), .lit (.int .i64 x.n), .lit (.string x.nm)]
def Opd.ok (x : Opd) : Prop := x.kind = 2 ∨ x.kind = 4
/-- An operand's value. -/
def valO (s : Sta) (x : Opd) : List (Int × Int) := if x.kind = 4 then varA x.nm s.vars else [(2, 0)]
theorem encSt_one (s : Sta) : (encSt s).all AV.one = true := rfl
theorem encSt_len (s : Sta) : (encSt s).length = 3 := rfl
theorem encSt_take (s : Sta) : (encSt s).take 3 = encSt s := rfl
theorem c_val (l : List (List AV)) (s : Sta) (hs : StOk s) (x : Opd) (hx : x.ok) (o : Own) (H : Heap) : calls Tryz.prog cfg3 36 [.sl o l, .agg (encSt s), .agg (encOp x)] H = some (.ret (.sl .sh (encAs (valO s x))) H) := by
 refine calls_pure (fn := Tryz.f36) rfl rfl rfl rfl rfl ?_ H
 have rs : Tryz.f36.results.toList = [.tmp 6] := rfl
 have hv := fun q H => s_var s hs q H
 have h1 := encSt_one s
 have h2 := encSt_len s
 have h3 := encSt_take s
 obtain ⟨k, n, q⟩ := x
 rcases hx with hk | hk
 ·have hk' : k = 2 := hk
  subst hk'
  have hr : valO s ⟨2, n, q⟩ = [(2, 0)] := rfl
  rw [hr]
  unfold encOp
  have d0 : decide ((2 : Int) = 0) = false := rfl
  have d1 : decide ((2 : Int) = 1) = false := rfl
  have d2 : decide ((2 : Int) = 2) = true := rfl
  have hc := fun H => c_one 2 H
  simp only [go_sem, simprocAttr, rs, sanL_encSt, h1, h2, h3, d0, d1, d2, hc]
 ·have hk' : k = 4 := hk
  subst hk'
  have hr : valO s ⟨4, n, q⟩ = varA q s.vars := rfl
  rw [hr]
  unfold encOp
  have d0 : decide ((4 : Int) = 0) = false := rfl
  have d1 : decide ((4 : Int) = 1) = false := rfl
  have d2 : decide ((4 : Int) = 2) = false := rfl
  have d3 : decide ((4 : Int) = 3) = false := rfl
  have d4 : decide ((4 : Int) = 4) = true := rfl
  simp only [go_sem, simprocAttr, rs, sanL_encSt, h1, h2, h3, d0, d1, d2, d3, d4, hv]
theorem c_do1 (l : List (List AV)) (o : Own) (s : Sta) (hs : StOk s) (x : Opd) (hx : x.ok) (p q : Nat) (H : Heap) (hp : H.get p = some [.sl o l]) (hq : H.get q = some (encSt s)) (hlp : p < H.next) (hlq : q < H.next) :
  ∃ v H', calls Tryz.prog cfg3 47 [.agg (encOp x), .ptr p 0, .ptr q 0] H = some (.ret v H') ∧ (v = .lit (.bool false) ∧ Frm H H') := by
 refine calls_imp (fn := Tryz.f47) rfl rfl rfl rfl rfl ?_
 have rs : Tryz.f47.results.toList = [.tmp 4] := rfl
 obtain ⟨m, hm⟩ : ∃ m, H.next = m := ⟨_, rfl⟩
 have n0 : ∀ j, ¬ m + j = p := fun j => by omega
 have n1 : ∀ j, ¬ m + j = q := fun j => by omega
 have h1 := encSt_one s
 have h2 := encSt_len s
 have h3 := encSt_take s
 obtain ⟨k, n, t⟩ := x
 rcases hx with hk | hk
 ·have hk' : k = 2 := hk
  subst hk'
  have d2 : decide ((2 : Int) = 4) = false := rfl
  have hc : ∀ H, calls Tryz.prog cfg3 36 [.sl o l, .agg (encSt s), .agg [.lit (.int .i64 2), .lit (.int .i64 n), .lit (.string t)]] H = some (.ret (.sl .sh (encAs [(2, 0)])) H) := fun H => c_val l s hs ⟨2, n, t⟩ (.inl rfl) o H
  have hb : aBin Tryz.prog .eql 50 (.sl .sh (encAs [(2, 0)])) (.sl .nil []) = some (.lit (.bool false)) := rfl
  unfold encOp
  simp only [go_sem, simprocAttr, rs, hp, hq, hm, n0, n1, h1, h2, h3, d2, hc, hb]
  exact ⟨_, rfl, rfl, by repeat (first | exact Frm.refl _ | refine Frm.up ?_ _ | refine Frm.put ?_ _ (by omega))⟩
 ·have hk' : k = 4 := hk
  subst hk'
  have d2 : decide ((4 : Int) = 4) = true := rfl
  unfold encOp
  simp only [go_sem, simprocAttr, rs, hp, hq, hm, n0, n1, h1, h2, h3, d2]
  exact ⟨_, rfl, rfl, by repeat (first | exact Frm.refl _ | refine Frm.up ?_ _ | refine Frm.put ?_ _ (by omega))⟩
theorem c_idxO (xs : List Opd) (hxs : ∀ x, x ∈ xs → x.ok) (hl : xs.length ≤ LA) (l : List (List AV)) (o o2 : Own) (s : Sta) (hs : StOk s) (p q : Nat) (H0 : Heap) (hp : H0.get p = some [.sl o l]) (hq : H0.get q = some (encSt s)) (hlp : p < H0.next) (hlq : q < H0.next) :
  ∃ v H', calls Tryz.prog cfg3 73 [.sl o2 (xs.map encOp), .fn 47 [.ptr p 0, .ptr q 0]] H0 = some (.ret v H') ∧ (v = .lit (.int .i64 (-1)) ∧ Frm H0 H') := by
 refine calls_imp (fn := Tryz.f73) rfl rfl rfl rfl rfl ?_
 have rs : Tryz.f73.results.toList = [.tmp 4] := rfl
 simp only [go_sem, simprocAttr, rs, List.length_map]
 refine W_loop_ind (fun k e H => ∃ i : Nat, k = xs.length - i ∧ i ≤ xs.length ∧ Frm H0 H ∧ gget .bad e 0 = .sl o2 (xs.map encOp) ∧ gget .bad e 1 = .fn 47 [.ptr p 0, .ptr q 0] ∧ gget .bad e 7 = .lit (.int .i64 (xs.length : Nat)) ∧ gget .bad e 8 = .lit (.int .i64 (i : Nat)))
  xs.length ⟨0, rfl, by omega, by repeat (first | exact Frm.refl _ | refine Frm.up ?_ _), by simp only [go_sem, simprocAttr], by simp only [go_sem, simprocAttr], by simp only [go_sem, simprocAttr], by simp only [go_sem, simprocAttr]⟩ ?_
 rintro k ih e H ⟨i, rfl, hle, hF, g0, g1, g7, g8⟩
 by_cases hlt : i < xs.length
 ·have d1 : decide ((i : Int) < (xs.length : Nat)) = true := by simp; omega
  have ha := iad_map (f := encOp) (t := 48) (n := 3) (b := 32) (o := o2) hlt (fun _ => rfl)
  have hw1 := wrap1 (show i + 1 ≤ 9223372036854775807 by unfold LA at hl; omega)
  have hgp : H.get p = some [.sl o l] := by rw [hF.get hlp]; exact hp
  have hgq : H.get q = some (encSt s) := by rw [hF.get hlq]; exact hq
  have hnx := hF.nx
  have hb2 : (encOp xs[i]).length = 3 := rfl
  have hb3 : (encOp xs[i]).take 3 = encOp xs[i] := rfl
  simp only [go_sem, simprocAttr, g0, g1, g7, g8, d1, ha, hb2, hb3]
  refine goC_ex (c_do1 l o s hs xs[i] (hxs _ (List.getElem_mem hlt)) p q _ (by simp only [go_sem, simprocAttr, hgp]) (by simp only [go_sem, simprocAttr, hgq]) (by simp only [go_sem, simprocAttr]; omega) (by simp only [go_sem, simprocAttr]; omega)) ?_
  rintro v H1 ⟨rfl, hF1⟩
  have hF2 : Frm H0 H1 := (by repeat (first | exact hF | refine Frm.up ?_ _) : Frm H0 _).trans hF1
  simp only [go_sem, simprocAttr, g0, g1, g7, g8, hw1]
  exact ih (xs.length - (i + 1)) (by omega) _ _ ⟨i + 1, rfl, by omega, by repeat (first | exact hF2 | refine Frm.up ?_ _), by simp only [go_sem, simprocAttr, g0], by simp only [go_sem, simprocAttr, g1], by simp only [go_sem, simprocAttr, g7], by simp only [go_sem, simprocAttr]⟩
 ·have d1 : decide ((i : Int) < (xs.length : Nat)) = false := by simp; omega
  simp only [go_sem, simprocAttr, g0, g1, g7, g8, d1, rs]
  exact ⟨_, rfl, rfl, by repeat (first | exact hF | refine Frm.up ?_ _)⟩
theorem c_conO (xs : List Opd) (hxs : ∀ x, x ∈ xs → x.ok) (hl : xs.length ≤ LA) (l : List (List AV)) (o o2 : Own) (s : Sta) (hs : StOk s) (p q : Nat) (H0 : Heap) (hp : H0.get p = some [.sl o l]) (hq : H0.get q = some (encSt s)) (hlp : p < H0.next) (hlq : q < H0.next) :
  ∃ v H', calls Tryz.prog cfg3 46 [.sl o2 (xs.map encOp), .fn 47 [.ptr p 0, .ptr q 0]] H0 = some (.ret v H') ∧ (v = .lit (.bool false) ∧ Frm H0 H') := by
 refine calls_imp (fn := Tryz.f46) rfl rfl rfl rfl rfl ?_
 have rs : Tryz.f46.results.toList = [.tmp 4] := rfl
 simp only [go_sem, simprocAttr, rs]
 refine goC_ex (c_idxO xs hxs hl l o o2 s hs p q _ (by simp only [go_sem, simprocAttr, hp]) (by simp only [go_sem, simprocAttr, hq]) (by simp only [go_sem, simprocAttr]; omega) (by simp only [go_sem, simprocAttr]; omega)) ?_
 rintro v H1 ⟨rfl, hF1⟩
 have hF2 : Frm H0 H1 := (by repeat (first | exact Frm.refl _ | refine Frm.up ?_ _) : Frm H0 _).trans hF1
 simp only [go_sem, simprocAttr, rs]
 exact ⟨_, rfl, rfl, by repeat (first | exact hF2 | refine Frm.up ?_ _)⟩
end Go.Proofs.YtnoahchdmkpleaaGreat.VA

/-! St3 -/
namespace Go.Proofs.YtnoahchdmkpleaaGreat.VA
open Go Go.RowKit
attribute [local go_sem] Nat.add_eq_left Nat.left_eq_add true_and and_true ite_true if_false Int.cast_ofNat_Int eq_self Nat.add_assoc Option.some.injEq decide_true decide_false Bool.not_true Bool.not_false List.size_toArray List.length_cons List.length_nil
set_option linter.unusedSimpArgs false
set_option maxRecDepth 100000

def encI (k : Int) : List AV := [.lit (.int .i64 k)]
theorem sanLL_I (d : List Int) : sanLL (d.map encI) = d.map encI := by
 induction d with
 | nil => rfl
 | cons x l ih => simp only [List.map_cons, sanLL, ih, encI, sanL, san]
theorem c_idxI (d : List Int) (hl : d.length ≤ LA) (x : Int) (o : Own) (H : Heap) : calls Tryz.prog cfg3 202 [.sl o (d.map encI), .lit (.int .i64 x)] H = some (.ret (.lit (.int .i64 (idxP (fun y => decide (x = y)) d 0))) H) := by
 refine calls_pure (fn := Tryz.f202) rfl rfl rfl rfl rfl ?_ H
 have rs : Tryz.f202.results.toList = [.tmp 4] := rfl
 generalize hr : idxP (fun y => decide (x = y)) d 0 = r
 simp only [go_sem, simprocAttr, rs, sanLL_I, List.length_map]
 refine W_loop_ind (fun k e H => ∃ i : Nat, k = d.length - i ∧ i ≤ d.length ∧ idxP (fun y => decide (x = y)) (d.drop i) i = r ∧ gget .bad e 0 = .sl .sh (d.map encI) ∧ gget .bad e 1 = .lit (.int .i64 x) ∧ gget .bad e 7 = .lit (.int .i64 (d.length : Nat)) ∧ gget .bad e 8 = .lit (.int .i64 (i : Nat)))
  d.length ⟨0, rfl, by omega, hr, by simp only [go_sem, simprocAttr], by simp only [go_sem, simprocAttr], by simp only [go_sem, simprocAttr], by simp only [go_sem, simprocAttr]⟩ ?_
 rintro k ih e H ⟨i, rfl, hle, hR, g0, g3, g7, g8⟩
 by_cases hlt : i < d.length
 ·have d1 : decide ((i : Int) < (d.length : Nat)) = true := by simp; omega
  have hw := wrap1 (show i + 1 ≤ 9223372036854775807 by unfold LA at hl; omega)
  have hA : iad (some (3, 1, 8)) (.sl .sh (d.map encI)) (some i) = some (.ep [.lit (.int .i64 d[i])]) := iad_map (f := encI) hlt (fun _ => rfl)
  rw [drop_at hlt] at hR
  unfold idxP at hR
  simp only [go_sem, simprocAttr, g0, g3, g7, g8, d1]
  by_cases hx : x = d[i]
  ·rw [if_pos (by simpa using hx)] at hR
   subst hR
   have dx : decide (x = d[i]) = true := by simpa using hx
   simp only [go_sem, simprocAttr, g0, g3, g7, g8, d1, hA, dx, rs]
  ·rw [if_neg (by simpa using hx)] at hR
   have dx : decide (x = d[i]) = false := by simpa using hx
   simp only [go_sem, simprocAttr, g0, g3, g7, g8, d1, hA, dx, hw]
   exact ih (d.length - (i + 1)) (by omega) _ _ ⟨i + 1, rfl, by omega, hR, by simp only [go_sem, simprocAttr, g0], by simp only [go_sem, simprocAttr, g3], by simp only [go_sem, simprocAttr, g7], by simp only [go_sem, simprocAttr]⟩
 ·have d1 : decide ((i : Int) < (d.length : Nat)) = false := by simp; omega
  rw [List.drop_of_length_le (by omega)] at hR
  have hR' : r = -1 := hR.symm
  subst hR'
  simp only [go_sem, simprocAttr, g0, g3, g7, g8, d1, rs]
theorem c_conI (d : List Int) (hl : d.length ≤ LA) (x : Int) (o : Own) (H : Heap) : calls Tryz.prog cfg3 163 [.sl o (d.map encI), .lit (.int .i64 x)] H = some (.ret (.lit (.bool (d.any fun y => decide (x = y)))) H) := by
 refine calls_pure (fn := Tryz.f163) rfl rfl rfl rfl rfl ?_ H
 have rs : Tryz.f163.results.toList = [.tmp 4] := rfl
 have hc := fun H => c_idxI d hl x .sh H
 have hp := idxP_pos (fun y => decide (x = y)) d 0 (Int.le_refl _)
 simp only [go_sem, simprocAttr, rs, hc, hp, sanLL_I]
theorem c_just1 (ks : List Int) (hk : ks.length ≤ LA) (o : Own) (x : Int × Int) (p : Nat) (H : Heap) (hp : H.get p = some [.sl o (ks.map encI)]) (hlt : p < H.next) : ∃ v H', calls Tryz.prog cfg3 162 [.agg (avA x), .ptr p 0] H = some (.ret v H') ∧
  (v = .lit (.bool (!(ks.any fun y => decide (x.1 = y)))) ∧ Frm H H') := by
 refine calls_imp (fn := Tryz.f162) rfl rfl rfl rfl rfl ?_
 have rs : Tryz.f162.results.toList = [.tmp 3] := rfl
 obtain ⟨m, hm⟩ : ∃ m, H.next = m := ⟨_, rfl⟩
 have n0 : ∀ j, ¬ m + j = p := fun j => by omega
 have hc := fun H => c_conI ks hk x.1 o H
 unfold avA
 simp only [go_sem, simprocAttr, rs, hp, hm, n0, hc]
 exact ⟨_, rfl, rfl, by repeat (first | exact Frm.refl _ | refine Frm.up ?_ _ | refine Frm.put ?_ _ (by omega))⟩
theorem c_idxJ (d : List (Int × Int)) (hl : d.length ≤ LA) (ks : List Int) (hk : ks.length ≤ LA) (o o2 : Own) (p : Nat) (H0 : Heap) (hp : H0.get p = some [.sl o (ks.map encI)]) (hlp : p < H0.next) :
  ∃ v H', calls Tryz.prog cfg3 149 [.sl o2 (encAs d), .fn 162 [.ptr p 0]] H0 = some (.ret v H') ∧ (v = .lit (.int .i64 (idxP (fun x => !(ks.any fun y => decide (x.1 = y))) d 0)) ∧ Frm H0 H') := by
 refine calls_imp (fn := Tryz.f149) rfl rfl rfl rfl rfl ?_
 have rs : Tryz.f149.results.toList = [.tmp 4] := rfl
 generalize hr : idxP (fun x => !(ks.any fun y => decide (x.1 = y))) d 0 = r
 simp only [go_sem, simprocAttr, rs]
 refine W_loop_ind (fun k e H => ∃ i : Nat, k = d.length - i ∧ i ≤ d.length ∧ idxP (fun x => !(ks.any fun y => decide (x.1 = y))) (d.drop i) i = r ∧ Frm H0 H ∧ gget .bad e 0 = .sl o2 (encAs d) ∧ gget .bad e 1 = .fn 162 [.ptr p 0] ∧ gget .bad e 7 = .lit (.int .i64 (d.length : Nat)) ∧ gget .bad e 8 = .lit (.int .i64 (i : Nat)))
  d.length ⟨0, rfl, by omega, hr, by repeat (first | exact Frm.refl _ | refine Frm.up ?_ _), by simp only [go_sem, simprocAttr], by simp only [go_sem, simprocAttr], by simp only [go_sem, simprocAttr], by simp only [go_sem, simprocAttr]⟩ ?_
 rintro k ih e H ⟨i, rfl, hle, hR, hF, g0, g1, g7, g8⟩
 by_cases hlt : i < d.length
 ·have d1 : decide ((i : Int) < (d.length : Nat)) = true := by simp; omega
  have ha := iad_atm (t := 81) (b := 16) (o := o2) hlt
  have hw1 := wrap1 (show i + 1 ≤ 9223372036854775807 by unfold LA at hl; omega)
  have hgp : H.get p = some [.sl o (ks.map encI)] := by rw [hF.get hlp]; exact hp
  have hnx := hF.nx
  have hb2 : (avA d[i]).length = 2 := rfl
  have hb3 : (avA d[i]).take 2 = avA d[i] := rfl
  rw [drop_at hlt] at hR
  unfold idxP at hR
  simp only [go_sem, simprocAttr, g0, g1, g7, g8, d1, ha, hb2, hb3]
  refine goC_ex (c_just1 ks hk o d[i] p _ (by simp only [go_sem, simprocAttr, hgp]) (by simp only [go_sem, simprocAttr]; omega)) ?_
  rintro v H1 ⟨rfl, hF1⟩
  have hF2 : Frm H0 H1 := (by repeat (first | exact hF | refine Frm.up ?_ _) : Frm H0 _).trans hF1
  cases hx : (!(ks.any fun y => decide (d[i].1 = y))) with
  | true =>
   rw [if_pos hx] at hR
   subst hR
   simp only [go_sem, simprocAttr, g0, g1, g7, g8, rs, hx]
   exact ⟨_, rfl, rfl, by repeat (first | exact hF2 | refine Frm.up ?_ _)⟩
  | false =>
   rw [if_neg (by rw [hx]; simp)] at hR
   simp only [go_sem, simprocAttr, g0, g1, g7, g8, hw1, hx]
   exact ih (d.length - (i + 1)) (by omega) _ _ ⟨i + 1, rfl, by omega, hR, by repeat (first | exact hF2 | refine Frm.up ?_ _), by simp only [go_sem, simprocAttr, g0], by simp only [go_sem, simprocAttr, g1], by simp only [go_sem, simprocAttr, g7], by simp only [go_sem, simprocAttr]⟩
 ·have d1 : decide ((i : Int) < (d.length : Nat)) = false := by simp; omega
  rw [List.drop_of_length_le (by omega)] at hR
  have hR' : r = -1 := hR.symm
  subst hR'
  simp only [go_sem, simprocAttr, g0, g1, g7, g8, d1, rs]
  exact ⟨_, rfl, rfl, by repeat (first | exact hF | refine Frm.up ?_ _)⟩
theorem c_conJ (d : List (Int × Int)) (hl : d.length ≤ LA) (ks : List Int) (hk : ks.length ≤ LA) (o o2 : Own) (p : Nat) (H0 : Heap) (hp : H0.get p = some [.sl o (ks.map encI)]) (hlp : p < H0.next) :
  ∃ v H', calls Tryz.prog cfg3 161 [.sl o2 (encAs d), .fn 162 [.ptr p 0]] H0 = some (.ret v H') ∧ (v = .lit (.bool (d.any fun x => !(ks.any fun y => decide (x.1 = y)))) ∧ Frm H0 H') := by
 refine calls_imp (fn := Tryz.f161) rfl rfl rfl rfl rfl ?_
 have rs : Tryz.f161.results.toList = [.tmp 4] := rfl
 simp only [go_sem, simprocAttr, rs]
 refine goC_ex (c_idxJ d hl ks hk o o2 p _ (by simp only [go_sem, simprocAttr, hp]) (by simp only [go_sem, simprocAttr]; omega)) ?_
 rintro v H1 ⟨rfl, hF1⟩
 have hF2 : Frm H0 H1 := (by repeat (first | exact Frm.refl _ | refine Frm.up ?_ _) : Frm H0 _).trans hF1
 have hq := idxP_pos (fun x => !(ks.any fun y => decide (x.1 = y))) d 0 (Int.le_refl _)
 simp only [go_sem, simprocAttr, rs, hq]
 exact ⟨_, rfl, rfl, by repeat (first | exact hF2 | refine Frm.up ?_ _)⟩
/-- Has a value atoms, all of some kinds? -/
def justA (d : List (Int × Int)) (ks : List Int) : Bool := !d.isEmpty && !(d.any fun x => !(ks.any fun y => decide (x.1 = y)))
theorem c_just (d : List (Int × Int)) (hl : d.length ≤ LA) (ks : List Int) (hk : ks.length ≤ LA) (o o2 : Own) (H : Heap) : calls Tryz.prog cfg3 118 [.sl o (encAs d), .sl o2 (ks.map encI)] H = some (.ret (.lit (.bool (justA d ks))) H) := by
 refine calls_pure (fn := Tryz.f118) rfl rfl rfl rfl rfl ?_ H
 have rs : Tryz.f118.results.toList = [.tmp 4] := rfl
 cases d with
 | nil =>
  have hr : justA [] ks = false := rfl
  have d1 : decide (((encAs []).length : Int) > 0) = false := rfl
  rw [hr]
  simp only [go_sem, simprocAttr, rs, sanLL_I, encAs_len, List.length_nil]
 | cons x d =>
  have hr : justA (x :: d) ks = !((x :: d).any fun x => !(ks.any fun y => decide (x.1 = y))) := rfl
  rw [hr]
  have d1 : decide ((0 : Int) < ((d.length + 1 : Nat) : Int)) = true := decide_eq_true (by omega)
  simp only [go_sem, simprocAttr, rs, sanLL_I, encAs_len, List.length_cons, d1]
  refine goC_ex (c_conJ (x :: d) hl ks hk .sh .sh 0 _ (by simp only [go_sem, simprocAttr]) (by simp only [go_sem, simprocAttr])) ?_
  rintro v H1 ⟨rfl, hF1⟩
  simp only [go_sem, simprocAttr, rs]
end Go.Proofs.YtnoahchdmkpleaaGreat.VA

/-! St4 -/
namespace Go.Proofs.YtnoahchdmkpleaaGreat.VA
open Go Go.RowKit
attribute [local go_sem] Nat.add_eq_left Nat.left_eq_add true_and and_true ite_true if_false Int.cast_ofNat_Int eq_self Nat.add_assoc Option.some.injEq decide_true decide_false Bool.not_true Bool.not_false List.size_toArray List.length_cons List.length_nil
set_option linter.unusedSimpArgs false
set_option maxRecDepth 100000

/-- A block that was written, and what else was there stays. -/
structure Upd (H0 : Heap) (r : Nat) (H : Heap) (cs : List AV) : Prop where
 get : H.get r = some cs
 nx : H0.next ≤ H.next
 ho : ∀ k, k < H0.next → k ≠ r → H.ho k = H0.ho k
 rl : r < H0.next
section
variable {H0 H H' : Heap} {r : Nat} {cs ds : List AV}
theorem Upd.up (h : Upd H0 r H cs) (n : Nat) : Upd H0 r (H.up n) cs := ⟨h.get, Nat.le_trans h.nx (Nat.le_add_right _ _), h.ho, h.rl⟩
theorem Upd.put (h : Upd H0 r H cs) {b : Nat} (xs : List AV) (hb : H0.next ≤ b) : Upd H0 r (H.put b xs) cs :=
 ⟨by rw [Heap.get_put, if_neg (by have := h.rl; omega)]; exact h.get, h.nx, fun k hk hr => by simp only [Heap.put, Heap.ho_set]; rw [if_neg (by omega)]; exact h.ho k hk hr, h.rl⟩
theorem Upd.write (h : Upd H0 r H cs) (ds : List AV) : Upd H0 r (H.put r ds) ds :=
 ⟨by rw [Heap.get_put, if_pos rfl], h.nx, fun k hk hr => by simp only [Heap.put, Heap.ho_set]; rw [if_neg (fun e => hr e.symm)]; exact h.ho k hk hr, h.rl⟩
theorem Upd.frm (h : Upd H0 r H cs) (k : Frm H H') : Upd H0 r H' cs :=
 ⟨by rw [k.get (Nat.lt_of_lt_of_le h.rl h.nx)]; exact h.get, Nat.le_trans h.nx k.nx, fun i hi hr => (k.ho i (Nat.lt_of_lt_of_le hi h.nx)).trans (h.ho i hi hr), h.rl⟩
theorem Upd.trans (h : Upd H0 r H cs) (k : Upd H r H' ds) : Upd H0 r H' ds :=
 ⟨k.get, Nat.le_trans h.nx k.nx, fun i hi hr => (k.ho i (Nat.lt_of_lt_of_le hi h.nx) hr).trans (h.ho i hi hr), h.rl⟩
theorem Upd.start (g : H.get r = some cs) (hr : r < H.next) : Upd H r H cs := ⟨g, Nat.le_refl _, fun _ _ _ => rfl, hr⟩
end
/-- A statement. -/
structure Stm where
 op : Int
 x : ByteArray
 y : ByteArray
 p : ByteArray
 a : List Opd
 pr : List (List AV)
 th : List (List AV)
 el : List (List AV)
def encStm (x : Stm) : List AV := [.lit (.int .i64 x.op), .lit (.string x.x), .lit (.string x.y), .lit (.string x.p), .sl .sh (x.a.map encOp), .sl .sh x.pr, .sl .sh x.th, .sl .sh x.el]
/-- A statement's doer. -/
def encD (l : List (List AV)) (s : Sta) (x : Stm) (site : Int) (cs : AV) (e : Int) : List AV :=
 [.sl .sh l, .lit (.bool s.dead), .sl .sh (s.vars.map encB), .sl .sh (s.locs.map encL), .lit (.int .i64 x.op), .lit (.string x.x), .lit (.string x.y), .lit (.string x.p), .sl .sh (x.a.map encOp), .sl .sh x.pr, .sl .sh x.th, .sl .sh x.el, .lit (.int .i64 site), cs, .lit (.int .i64 e)]
section
variable (l : List (List AV)) (s : Sta) (x : Stm) (site : Int) (cs : AV) (e : Int) (r : Nat) (H0 : Heap)
theorem c_valD (hs : StOk s) (i : Nat) (hi : i < x.a.length) (hok : x.a[i].ok) (hg : H0.get r = some (encD l s x site cs e)) :
  ∃ v H', calls Tryz.prog cfg3 77 [.ptr r 0, .lit (.int .i64 (i : Nat))] H0 = some (.ret v H') ∧ (v = .sl .sh (encAs (valO s x.a[i])) ∧ Frm H0 H') := by
 refine calls_imp (fn := Tryz.f77) rfl rfl rfl rfl rfl ?_
 have rs : Tryz.f77.results.toList = [.tmp 4] := rfl
 have i1 : cfg3.imp 36 = false := rfl
 have hc : ∀ H, calls Tryz.prog cfg3 36 [.sl .sh l, .agg [.lit (.bool s.dead), .sl .sh (s.vars.map encB), .sl .sh (s.locs.map encL)], .agg (encOp x.a[i])] H = some (.ret (.sl .sh (encAs (valO s x.a[i]))) H) := fun H => c_val l s hs x.a[i] hok .sh H
 have ha := iad_map (f := encOp) (t := 48) (n := 3) (b := 32) (o := .sh) hi (fun _ => rfl)
 have hb2 : (encOp x.a[i]).length = 3 := rfl
 have hb3 : (encOp x.a[i]).take 3 = encOp x.a[i] := rfl
 unfold encD at hg
 simp only [go_sem, simprocAttr, rs, hg]
 refine W_draw [(3, 7), (3, 12), (7, 12), (3, 15), (7, 15)] (by kernel_rfl) ?_
 simp only [go_sem, simprocAttr, rs, hg, ha, hb2, hb3, hc, i1]
 exact ⟨_, rfl, by simp only [oneOr, san, sanLL_encAs], by repeat (first | exact Frm.refl _ | refine Frm.up ?_ _ | refine Frm.put ?_ _ (by omega))⟩
theorem c_setD (hs : StOk s) (hv1 : s.vars.length + 1 ≤ LA) (d : List (Int × Int)) (hd : d.length ≤ LA) (o : Own) (hg : H0.get r = some (encD l s x site cs e)) (hr : r < H0.next) :
  ∃ v H', calls Tryz.prog cfg3 76 [.ptr r 0, .sl o (encAs d)] H0 = some (.ret v H') ∧ Upd H0 r H' (encD l (setT x.x (normA d) s) x site cs e) := by
 refine calls_imp (fn := Tryz.f76) rfl rfl rfl rfl rfl ?_
 have rs : Tryz.f76.results.toList = [] := rfl
 have i1 : cfg3.imp 115 = false := rfl
 have hc : ∀ H, calls Tryz.prog cfg3 115 [.agg [.lit (.bool s.dead), .sl .sh (s.vars.map encB), .sl .sh (s.locs.map encL)], .lit (.string x.x), .sl o (encAs d)] H = some (.ret (.agg [.lit (.bool (setT x.x (normA d) s).dead), .sl .sh ((setT x.x (normA d) s).vars.map encB), .sl .sh ((setT x.x (normA d) s).locs.map encL)]) H) := fun H => s_set s hs hv1 x.x d hd o H
 have hu := Upd.start hg hr
 unfold encD at hg ⊢
 generalize hS : setT x.x (normA d) s = S at hc ⊢
 simp only [go_sem, simprocAttr, rs, hg]
 refine W_draw [(4, 9)] (by kernel_rfl) ?_
 simp only [go_sem, simprocAttr, rs, hg, hc, i1]
 exact ⟨_, rfl, (hu.up _).write _⟩
theorem c_fail (k : Int) (hg : H0.get r = some (encD l s x site cs 0)) (hr : r < H0.next) :
  ∃ v H', calls Tryz.prog cfg3 117 [.ptr r 0, .lit (.int .i64 k)] H0 = some (.ret v H') ∧ Upd H0 r H' (encD l s x site cs k) := by
 refine calls_imp (fn := Tryz.f117) rfl rfl rfl rfl rfl ?_
 have rs : Tryz.f117.results.toList = [] := rfl
 have hu := Upd.start hg hr
 have d1 : decide ((0 : Int) = 0) = true := rfl
 unfold encD at hg ⊢
 simp only [go_sem, simprocAttr, rs, hg, d1]
 exact ⟨_, rfl, ((hu.up _).up _).write _⟩
end
end Go.Proofs.YtnoahchdmkpleaaGreat.VA

/-! St5 -/
namespace Go.Proofs.YtnoahchdmkpleaaGreat.VA
open Go Go.RowKit
attribute [local go_sem] Nat.add_eq_left Nat.left_eq_add true_and and_true ite_true if_false Int.cast_ofNat_Int eq_self Nat.add_assoc Option.some.injEq decide_true decide_false Bool.not_true Bool.not_false List.size_toArray List.length_cons List.length_nil
set_option linter.unusedSimpArgs false
set_option maxRecDepth 100000

section
variable (l : List (List AV)) (s : Sta) (x : Stm) (site : Int) (cs : AV) (e : Int) (r : Nat) (H0 : Heap)
theorem c_doOut (ho : x.op = 8) (hg : H0.get r = some (encD l s x site cs e)) (hr : r < H0.next) :
  ∃ v H', calls Tryz.prog cfg3 49 [.ptr r 0] H0 = some (.ret v H') ∧ Upd H0 r H' (encD l s x site cs e) := by
 refine calls_imp (fn := Tryz.f49) rfl rfl rfl rfl rfl ?_
 have rs : Tryz.f49.results.toList = [] := rfl
 have hu := Upd.start hg hr
 unfold encD at hg hu ⊢
 rw [ho] at hg hu ⊢
 have dz : ∀ k : Int, k ≠ 8 → decide ((8 : Int) = k) = false := fun k h => by simpa using fun e : (8 : Int) = k => h e.symm
 have d0 := dz 0 (by decide)
 have d1 := dz 1 (by decide)
 have d2 := dz 2 (by decide)
 have d3 := dz 3 (by decide)
 have d4 := dz 4 (by decide)
 have d5 := dz 5 (by decide)
 have d6 := dz 6 (by decide)
 have d7 := dz 7 (by decide)
 have d11 := dz 11 (by decide)
 simp only [go_sem, simprocAttr, rs, hg, d0, d1, d2, d3, d4, d5, d6, d7, d11]
 exact ⟨_, rfl, by repeat (first | exact hu | refine Upd.up ?_ _)⟩
theorem c_doRet (ho : x.op = 11) (hg : H0.get r = some (encD l s x site cs e)) (hr : r < H0.next) :
  ∃ v H', calls Tryz.prog cfg3 49 [.ptr r 0] H0 = some (.ret v H') ∧ Upd H0 r H' [.sl .sh l, .lit (.bool true), .sl .nil [], .sl .nil [], .lit (.int .i64 x.op), .lit (.string x.x), .lit (.string x.y), .lit (.string x.p), .sl .sh (x.a.map encOp), .sl .sh x.pr, .sl .sh x.th, .sl .sh x.el, .lit (.int .i64 site), cs, .lit (.int .i64 e)] := by
 refine calls_imp (fn := Tryz.f49) rfl rfl rfl rfl rfl ?_
 have rs : Tryz.f49.results.toList = [] := rfl
 have hu := Upd.start hg hr
 unfold encD at hg
 rw [ho] at hg ⊢
 have dz : ∀ k : Int, k ≠ 11 → decide ((11 : Int) = k) = false := fun k h => by simpa using fun e : (11 : Int) = k => h e.symm
 have d0 := dz 0 (by decide)
 have d1 := dz 1 (by decide)
 have d2 := dz 2 (by decide)
 have d3 := dz 3 (by decide)
 have d4 := dz 4 (by decide)
 have d5 := dz 5 (by decide)
 have d6 := dz 6 (by decide)
 have d7 := dz 7 (by decide)
 have d11 : decide ((11 : Int) = 11) = true := rfl
 simp only [go_sem, simprocAttr, rs, hg, d0, d1, d2, d3, d4, d5, d6, d7, d11]
 exact ⟨_, rfl, (((((((((((hu.up _).up _).up _).up _).up _).up _).up _).up _).up _).up _).up _).write _⟩
theorem c_doMove (ho : x.op = 0) (hs : StOk s) (hv1 : s.vars.length + 1 ≤ LA) (hi : 0 < x.a.length) (hok : x.a[0].ok) (hvl : (valO s x.a[0]).length ≤ LA) (hg : H0.get r = some (encD l s x site cs e)) (hr : r < H0.next) :
  ∃ v H', calls Tryz.prog cfg3 49 [.ptr r 0] H0 = some (.ret v H') ∧ Upd H0 r H' (encD l (setT x.x (normA (valO s x.a[0])) s) x site cs e) := by
 refine calls_imp (fn := Tryz.f49) rfl rfl rfl rfl rfl ?_
 have rs : Tryz.f49.results.toList = [] := rfl
 have d0 : decide ((0 : Int) = 0) = true := rfl
 have hg' := hg
 unfold encD at hg'
 rw [ho] at hg'
 simp only [go_sem, simprocAttr, rs, hg', d0]
 refine goC_ex (c_valD l s x site cs e r _ hs 0 hi hok (by simp only [go_sem, simprocAttr, hg])) ?_
 rintro v H1 ⟨rfl, hF⟩
 have hu : Upd H0 r H1 (encD l s x site cs e) := Upd.frm (by repeat (first | exact Upd.start hg hr | refine Upd.up ?_ _)) hF
 simp only [go_sem, simprocAttr]
 refine goC_ex (c_setD l s x site cs e r _ hs hv1 _ hvl .sh (by simp only [go_sem, simprocAttr, hu.get]) (by have := hu.nx; omega)) ?_
 intro v H2 hu2
 simp only [go_sem, simprocAttr, rs]
 exact ⟨_, rfl, by repeat (first | exact hu.trans hu2 | refine Upd.up ?_ _)⟩
theorem c_doIn (ho : x.op = 7) (hs : StOk s) (hv1 : s.vars.length + 1 ≤ LA) (hg : H0.get r = some (encD l s x site cs e)) (hr : r < H0.next) :
  ∃ v H', calls Tryz.prog cfg3 49 [.ptr r 0] H0 = some (.ret v H') ∧ Upd H0 r H' (encD l (setT x.x (normA [(6, 0)]) s) x site cs e) := by
 refine calls_imp (fn := Tryz.f49) rfl rfl rfl rfl rfl ?_
 have rs : Tryz.f49.results.toList = [] := rfl
 have dz : ∀ k : Int, k ≠ 7 → decide ((7 : Int) = k) = false := fun k h => by simpa using fun e : (7 : Int) = k => h e.symm
 have d0 := dz 0 (by decide)
 have d1 := dz 1 (by decide)
 have d2 := dz 2 (by decide)
 have d3 := dz 3 (by decide)
 have d4 := dz 4 (by decide)
 have d5 := dz 5 (by decide)
 have d6 := dz 6 (by decide)
 have d7 : decide ((7 : Int) = 7) = true := rfl
 have hc := fun H => c_one 6 H
 have hg' := hg
 unfold encD at hg'
 rw [ho] at hg'
 simp only [go_sem, simprocAttr, rs, hg', d0, d1, d2, d3, d4, d5, d6, d7, hc]
 refine goC_ex (c_setD l s x site cs e r _ hs hv1 [(6, 0)] (by decide) .sh (by simp only [go_sem, simprocAttr, hg]) (by simp only [go_sem, simprocAttr]; omega)) ?_
 intro v H2 hu2
 simp only [go_sem, simprocAttr, rs]
 have hu3 : Upd H0 r H2 (encD l (setT x.x (normA [(6, 0)]) s) x site cs e) := Upd.trans (cs := encD l s x site cs e) (by repeat (first | exact Upd.start hg hr | refine Upd.up ?_ _)) hu2
 exact ⟨_, rfl, by repeat (first | exact hu3 | refine Upd.up ?_ _)⟩
end
end Go.Proofs.YtnoahchdmkpleaaGreat.VA

/-! St6 -/
namespace Go.Proofs.YtnoahchdmkpleaaGreat.VA
open Go Go.RowKit
attribute [local go_sem] Nat.add_eq_left Nat.left_eq_add true_and and_true ite_true if_false Int.cast_ofNat_Int eq_self Nat.add_assoc Option.some.injEq decide_true decide_false Bool.not_true Bool.not_false List.size_toArray List.length_cons List.length_nil
set_option linter.unusedSimpArgs false
set_option maxRecDepth 100000

theorem sanLL_Op (xs : List Opd) : sanLL (xs.map encOp) = xs.map encOp := by
 induction xs with
 | nil => rfl
 | cons x l ih => simp only [List.map_cons, sanLL, ih, encOp, sanL, san]
def Stm.ok (x : Stm) : Prop := sanLL x.pr = x.pr ∧ sanLL x.th = x.th ∧ sanLL x.el = x.el
theorem sanL_stm {x : Stm} (h : x.ok) : sanL (encStm x) = encStm x := by
 obtain ⟨h1, h2, h3⟩ := h
 simp only [encStm, sanL, san, sanLL_Op, h1, h2, h3]
theorem c_needs (x : Stm) (hx : x.ok) (n : Int) (ho : (x.op = 0 ∨ x.op = 8 ∨ x.op = 11) ∧ n = 1 ∨ x.op = 1 ∧ n = 2 ∨ x.op = 7 ∧ n = 0) (H : Heap) : calls Tryz.prog cfg3 44 [.agg (encStm x)] H = some (.ret (.lit (.int .i64 n)) H) := by
 refine calls_pure (fn := Tryz.f44) rfl rfl rfl rfl rfl ?_ H
 have rs : Tryz.f44.results.toList = [.tmp 2] := rfl
 have hsn := sanL_stm hx
 simp only [sanL, san, hsn]
 unfold encStm
 obtain ⟨k, xx, y, p, a, pr, th, el⟩ := x
 simp only at ho ⊢
 rcases ho with ⟨h, hn⟩ | ⟨h, hn⟩ | ⟨h, hn⟩
 ·rcases h with h | h | h
  all_goals
   subst h
   subst hn
   have d00 : decide ((0 : Int) = 0) = true := rfl
   have d80 : decide ((8 : Int) = 0) = false := rfl
   have d83 : decide ((8 : Int) = 3) = false := rfl
   have d88 : decide ((8 : Int) = 8) = true := rfl
   have db0 : decide ((11 : Int) = 0) = false := rfl
   have db3 : decide ((11 : Int) = 3) = false := rfl
   have db8 : decide ((11 : Int) = 8) = false := rfl
   have dbb : decide ((11 : Int) = 11) = true := rfl
   simp only [go_sem, simprocAttr, rs, d00, d80, d83, d88, db0, db3, db8, dbb]
 ·subst h
  subst hn
  have d0 : decide ((1 : Int) = 0) = false := rfl
  have d3 : decide ((1 : Int) = 3) = false := rfl
  have d8 : decide ((1 : Int) = 8) = false := rfl
  have db : decide ((1 : Int) = 11) = false := rfl
  have d1 : decide ((1 : Int) = 1) = true := rfl
  simp only [go_sem, simprocAttr, rs, d0, d1, d3, d8, db]
 ·subst h
  subst hn
  have d0 : decide ((7 : Int) = 0) = false := rfl
  have d3 : decide ((7 : Int) = 3) = false := rfl
  have d8 : decide ((7 : Int) = 8) = false := rfl
  have db : decide ((7 : Int) = 11) = false := rfl
  have d1 : decide ((7 : Int) = 1) = false := rfl
  have d4 : decide ((7 : Int) = 4) = false := rfl
  have d2 : decide ((7 : Int) = 2) = false := rfl
  have d5 : decide ((7 : Int) = 5) = false := rfl
  have d6 : decide ((7 : Int) = 6) = false := rfl
  have d7 : decide ((7 : Int) = 7) = true := rfl
  simp only [go_sem, simprocAttr, rs, d0, d1, d2, d3, d4, d5, d6, d7, d8, db]
theorem c_Do (l : List (List AV)) (hl : sanLL l = l) (s : Sta) (hs : StOk s) (hmay : mayT s = true) (hd : s.dead = false) (x : Stm) (hx : x.ok) (n : Nat) (hn : (x.op = 0 ∨ x.op = 8 ∨ x.op = 11) ∧ (n : Int) = 1 ∨ x.op = 1 ∧ (n : Int) = 2 ∨ x.op = 7 ∧ (n : Int) = 0)
  (hna : n ≤ x.a.length) (hxs : ∀ a, a ∈ x.a → a.ok) (hla : x.a.length ≤ LA) (dd : Bool) (V L C0 : AV) (E : Int) (hV : V.one = true) (hL : L.one = true)
  (hdo : ∀ r H0, H0.get r = some (encD l s x 0 (.sl .nil []) 0) → r < H0.next → ∃ v H', calls Tryz.prog cfg3 49 [.ptr r 0] H0 = some (.ret v H') ∧
   ∃ CS, san CS = C0 ∧ Upd H0 r H' [.sl .sh l, .lit (.bool dd), V, L, .lit (.int .i64 x.op), .lit (.string x.x), .lit (.string x.y), .lit (.string x.p), .sl .sh (x.a.map encOp), .sl .sh x.pr, .sl .sh x.th, .sl .sh x.el, .lit (.int .i64 0), CS, .lit (.int .i64 E)])
  (o : Own) (H : Heap) :
  calls Tryz.prog cfg3 14 [.sl o l, .agg (encSt s), .agg (encStm x), .lit (.int .i64 0)] H =
   some (.ret (if E = 0 then .tup [.agg [.lit (.bool dd), san V, san L], C0, .lit (.int .i64 0)] else .tup [.agg (encSt ⟨true, [], []⟩), .sl .sh [], .lit (.int .i64 E)]) H) := by
 refine calls_pure (fn := Tryz.f14) rfl rfl rfl rfl rfl ?_ H
 have rs : Tryz.f14.results.toList = [.cell 8 26, .tmp 9, .tmp 10] := rfl
 have hsn := sanL_stm hx
 have hne := fun H => c_needs x hx n hn H
 have hm : ∀ H, calls Tryz.prog cfg3 45 [.agg (encSt s)] H = some (.ret (.lit (.bool true)) H) := fun H => by rw [← hmay]; exact s_may s hs H
 have hcp : ∀ H, calls Tryz.prog cfg3 48 [.agg (encSt s)] H = some (.ret (.agg [.lit (.bool s.dead), .sl .sh (s.vars.map encB), .sl .sh (s.locs.map encL)]) H) := fun H => s_copy s hs H
 have h1 := encSt_one s
 have h2 := encSt_len s
 have h3 := encSt_take s
 have x1 : (encStm x).all AV.one = true := rfl
 have x2 : (encStm x).length = 8 := rfl
 have x3 : (encStm x).take 8 = encStm x := rfl
 have x4 : (encStm x)[4]? = some (.sl .sh (x.a.map encOp)) := rfl
 have hs0 : (encSt s)[0]? = some (.lit (.bool s.dead)) := rfl
 have d0 : decide ((0 : Int) < 0) = false := rfl
 have dn : decide ((n : Int) < 0) = false := by simp
 have da : decide ((x.a.length : Int) < (n : Int)) = false := by simp; omega
 simp only [go_sem, simprocAttr, rs, sanL_encSt, hsn, hl, h1, h2, h3, x1, x2, x3, x4, hne, hm, hs0, hd, d0, dn, da, List.length_map]
 refine goC_ex (c_conO x.a hxs hla l .sh .sh s hs 0 1 _ (by simp only [go_sem, simprocAttr]) (by simp only [go_sem, simprocAttr]) (by simp only [go_sem, simprocAttr]) (by simp only [go_sem, simprocAttr])) ?_
 rintro v H1 ⟨rfl, hF⟩
 have hnx := hF.nx
 have g0 : H1.get 0 = some [.sl .sh l] := by rw [hF.get (by simp only [go_sem, simprocAttr])]; simp only [go_sem, simprocAttr]
 have g1 : H1.get 1 = some (encSt s) := by rw [hF.get (by simp only [go_sem, simprocAttr])]; simp only [go_sem, simprocAttr]
 have g2 : H1.get 2 = some [.lit (.int .i64 x.op), .lit (.string x.x), .lit (.string x.y), .lit (.string x.p), .sl .sh (x.a.map encOp), .sl .sh x.pr, .sl .sh x.th, .sl .sh x.el] := by rw [hF.get (by simp only [go_sem, simprocAttr])]; simp only [go_sem, simprocAttr, encStm]
 have g3 : H1.get 3 = some [.lit (.bool false), .sl .nil [], .sl .nil []] := by rw [hF.get (by simp only [go_sem, simprocAttr])]; simp only [go_sem, simprocAttr]
 simp only [go_sem, simprocAttr] at hnx
 obtain ⟨m, hm2⟩ : ∃ m, H1.next = m + 36 := ⟨H1.next - 36, by omega⟩
 have i1 : cfg3.imp 48 = false := rfl
 simp only [go_sem, simprocAttr, rs]
 refine W_draw [(0, 1), (0, 2), (0, 3), (1, 3), (2, 3)] (by kernel_rfl) ?_
 simp only [go_sem, simprocAttr, rs, g0, g1, g2, g3, h1, h2, h3, x1, x2, x3, hcp, i1, hm2]
 refine goC_ex (hdo (m + 42) _ (by simp only [go_sem, simprocAttr, encD, hd]) (by simp only [go_sem, simprocAttr, hm2]; omega)) ?_
 rintro v H2 ⟨CS, hCS, hu⟩
 subst hCS
 have hnx2 := hu.nx
 have k3 := hu.ho 3 (by simp only [go_sem, simprocAttr, hm2]; omega) (by omega)
 have g3' : H2.get 3 = some [.lit (.bool false), .sl .nil [], .sl .nil []] := by
  rw [Heap.get, k3]
  show Heap.get _ 3 = _
  have n3 : ¬ m + 42 = 3 := by omega
  simp only [go_sem, simprocAttr, g3, n3]
 have gd := hu.get
 clear hu k3 hdo hF g0 g1 g2
 by_cases hE : E = 0
 ·subst hE
  have dE : decide ((0 : Int) = 0) = true := rfl
  rw [if_pos rfl]
  simp only [go_sem, simprocAttr, rs, gd, dE]
  refine W_draw [(3, 7), (7, 8)] (by kernel_rfl) ?_
  simp only [go_sem, simprocAttr, rs, gd, g3', hV, hL]
 ·have dE : decide (E = 0) = false := by simpa using hE
  rw [if_neg hE]
  simp only [go_sem, simprocAttr, rs, gd, dE]
  refine W_draw [(4, 5)] (by kernel_rfl) ?_
  simp only [go_sem, simprocAttr, rs, gd, g3']
  rfl
section
variable (l : List (List AV)) (hl : sanLL l = l) (s : Sta) (hs : StOk s) (hv1 : s.vars.length + 1 ≤ LA) (hmay : mayT s = true) (hd : s.dead = false) (x : Stm) (hx : x.ok) (hxs : ∀ a, a ∈ x.a → a.ok) (hla : x.a.length ≤ LA) (o : Own) (H : Heap)
include hl hs hmay hd hx hxs hla
theorem c_DoOut (ho : x.op = 8) (hi : 1 ≤ x.a.length) : calls Tryz.prog cfg3 14 [.sl o l, .agg (encSt s), .agg (encStm x), .lit (.int .i64 0)] H = some (.ret (.tup [.agg (encSt s), .sl .sh [], .lit (.int .i64 0)]) H) := by
 have := c_Do l hl s hs hmay hd x hx 1 (.inl ⟨.inr (.inl ho), rfl⟩) hi hxs hla s.dead (.sl .sh (s.vars.map encB)) (.sl .sh (s.locs.map encL)) (.sl .sh []) 0 rfl rfl (fun r H0 hg hr => by obtain ⟨v, H', h1, h2⟩ := c_doOut l s x 0 (.sl .nil []) 0 r H0 ho hg hr; exact ⟨v, H', h1, .sl .nil [], rfl, h2⟩) o H
 rw [if_pos rfl] at this
 rw [this]
 simp only [san, sanLL_B, sanLL_L, sanLL]
 rfl
theorem c_DoRet (ho : x.op = 11) (hi : 1 ≤ x.a.length) : calls Tryz.prog cfg3 14 [.sl o l, .agg (encSt s), .agg (encStm x), .lit (.int .i64 0)] H = some (.ret (.tup [.agg (encSt ⟨true, [], []⟩), .sl .sh [], .lit (.int .i64 0)]) H) := by
 have := c_Do l hl s hs hmay hd x hx 1 (.inl ⟨.inr (.inr ho), rfl⟩) hi hxs hla true (.sl .nil []) (.sl .nil []) (.sl .sh []) 0 rfl rfl (fun r H0 hg hr => by obtain ⟨v, H', h1, h2⟩ := c_doRet l s x 0 (.sl .nil []) 0 r H0 ho hg hr; exact ⟨v, H', h1, .sl .nil [], rfl, h2⟩) o H
 rw [if_pos rfl] at this
 rw [this]
 rfl
include hv1
theorem c_DoMove (ho : x.op = 0) (hi : 0 < x.a.length) (hvl : (valO s x.a[0]).length ≤ LA) : calls Tryz.prog cfg3 14 [.sl o l, .agg (encSt s), .agg (encStm x), .lit (.int .i64 0)] H =
  some (.ret (.tup [.agg (encSt (setT x.x (normA (valO s x.a[0])) s)), .sl .sh [], .lit (.int .i64 0)]) H) := by
 have := c_Do l hl s hs hmay hd x hx 1 (.inl ⟨.inl ho, rfl⟩) hi hxs hla (setT x.x (normA (valO s x.a[0])) s).dead (.sl .sh ((setT x.x (normA (valO s x.a[0])) s).vars.map encB)) (.sl .sh ((setT x.x (normA (valO s x.a[0])) s).locs.map encL)) (.sl .sh []) 0 rfl rfl
  (fun r H0 hg hr => by obtain ⟨v, H', h1, h2⟩ := c_doMove l s x 0 (.sl .nil []) 0 r H0 ho hs hv1 hi (hxs _ (List.getElem_mem hi)) hvl hg hr; exact ⟨v, H', h1, .sl .nil [], rfl, h2⟩) o H
 rw [if_pos rfl] at this
 rw [this]
 simp only [san, sanLL_B, sanLL_L, sanLL]
 rfl
theorem c_DoIn (ho : x.op = 7) : calls Tryz.prog cfg3 14 [.sl o l, .agg (encSt s), .agg (encStm x), .lit (.int .i64 0)] H =
  some (.ret (.tup [.agg (encSt (setT x.x (normA [(6, 0)]) s)), .sl .sh [], .lit (.int .i64 0)]) H) := by
 have := c_Do l hl s hs hmay hd x hx 0 (.inr (.inr ⟨ho, rfl⟩)) (Nat.zero_le _) hxs hla (setT x.x (normA [(6, 0)]) s).dead (.sl .sh ((setT x.x (normA [(6, 0)]) s).vars.map encB)) (.sl .sh ((setT x.x (normA [(6, 0)]) s).locs.map encL)) (.sl .sh []) 0 rfl rfl
  (fun r H0 hg hr => by obtain ⟨v, H', h1, h2⟩ := c_doIn l s x 0 (.sl .nil []) 0 r H0 ho hs hv1 hg hr; exact ⟨v, H', h1, .sl .nil [], rfl, h2⟩) o H
 rw [if_pos rfl] at this
 rw [this]
 simp only [san, sanLL_B, sanLL_L, sanLL]
 rfl
end
end Go.Proofs.YtnoahchdmkpleaaGreat.VA

/-! St7 -/
namespace Go.Proofs.YtnoahchdmkpleaaGreat.VA
open Go Go.RowKit
attribute [local go_sem] Nat.add_eq_left Nat.left_eq_add true_and and_true ite_true if_false Int.cast_ofNat_Int eq_self Nat.add_assoc Option.some.injEq decide_true decide_false Bool.not_true Bool.not_false List.size_toArray List.length_cons List.length_nil
set_option linter.unusedSimpArgs false
set_option maxRecDepth 100000

theorem Upd.liv {H0 H : Heap} {r : Nat} {cs : List AV} (h : Upd H0 r H cs) (id : Nat) : Upd H0 r (appU H (ownUs .nil id)) cs := ⟨h.get, h.nx, h.ho, h.rl⟩
section
variable (l : List (List AV)) (s : Sta) (x : Stm) (site : Int) (cs : AV) (e : Int) (r : Nat) (H0 : Heap)
variable (d : List (Int × Int)) (hl : d.length ≤ LA) (ks : List Int) (hk : ks.length ≤ LA) (o o2 : Own) (a b c k : Int) (nm : ByteArray) (n : Int)
/-- A cast. -/
def encC (a b c k : Int) (nm : ByteArray) (n : Int) : List AV := [.lit (.int .i64 a), .lit (.int .i64 b), .lit (.int .i64 c), .lit (.int .i64 k), .lit (.string nm), .lit (.int .i64 n)]
include hl hk
theorem c_askOk (hd : dynA d = false) (hj : justA d ks = true) (hg : H0.get r = some (encD l s x site cs e)) (hr : r < H0.next) :
  ∃ v H', calls Tryz.prog cfg3 80 [.ptr r 0, .sl o (encAs d), .agg (encC a b c k nm n), .sl o2 (ks.map encI)] H0 = some (.ret v H') ∧ Upd H0 r H' (encD l s x site cs e) := by
 refine calls_imp (fn := Tryz.f80) rfl rfl rfl rfl rfl ?_
 have rs : Tryz.f80.results.toList = [] := rfl
 have hc := fun H => c_dyn d hl o H
 have hc2 := fun H => c_just d hl ks hk o o2 H
 rw [hd] at hc
 rw [hj] at hc2
 have hu := Upd.start hg hr
 unfold encC
 simp only [go_sem, simprocAttr, rs, hc, hc2]
 exact ⟨_, rfl, by repeat (first | exact hu | refine Upd.up ?_ _ | refine Upd.put ?_ _ (by omega))⟩
theorem c_askFail (he : e = 0) (hd : dynA d = false) (hj : justA d ks = false) (hg : H0.get r = some (encD l s x site cs e)) (hr : r < H0.next) :
  ∃ v H', calls Tryz.prog cfg3 80 [.ptr r 0, .sl o (encAs d), .agg (encC a b c k nm n), .sl o2 (ks.map encI)] H0 = some (.ret v H') ∧ Upd H0 r H' (encD l s x site cs 150) := by
 subst he
 refine calls_imp (fn := Tryz.f80) rfl rfl rfl rfl rfl ?_
 have rs : Tryz.f80.results.toList = [] := rfl
 have hc := fun H => c_dyn d hl o H
 have hc2 := fun H => c_just d hl ks hk o o2 H
 rw [hd] at hc
 rw [hj] at hc2
 have hu := Upd.start hg hr
 obtain ⟨m, hm⟩ : ∃ m, H0.next = m := ⟨_, rfl⟩
 have n0 : ∀ j, ¬ m + j = r := fun j => by omega
 have n1 : ¬ m = r := by omega
 unfold encC
 simp only [go_sem, simprocAttr, rs, hc, hc2]
 refine goC_ex (c_fail l s x site cs r _ 150 (by simp only [go_sem, simprocAttr, hm, n0, n1, hg]) (by simp only [go_sem, simprocAttr]; omega)) ?_
 intro v H1 hu1
 have hu2 : Upd H0 r H1 (encD l s x site cs 150) := Upd.trans (cs := encD l s x site cs 0) (by repeat (first | exact hu | refine Upd.up ?_ _ | refine Upd.put ?_ _ (by omega))) hu1
 simp only [go_sem, simprocAttr, rs]
 exact ⟨_, rfl, by repeat (first | exact hu2 | refine Upd.up ?_ _)⟩
omit hk in
theorem c_askDyn (hd : dynA d = true) (hg : H0.get r = some (encD l s x site (.sl .nil []) e)) (hr : r < H0.next) :
  ∃ v H', calls Tryz.prog cfg3 80 [.ptr r 0, .sl o (encAs d), .agg (encC a b c k nm n), .sl o2 (ks.map encI)] H0 = some (.ret v H') ∧ ∃ o3, Upd H0 r H' (encD l s x site (.sl o3 [encC a b c k nm n]) e) := by
 refine calls_imp (fn := Tryz.f80) rfl rfl rfl rfl rfl ?_
 have rs : Tryz.f80.results.toList = [] := rfl
 have hc := fun H => c_dyn d hl o H
 rw [hd] at hc
 have hu := Upd.start hg hr
 obtain ⟨m, hm⟩ : ∃ m, H0.next = m := ⟨_, rfl⟩
 have n0 : ∀ j, ¬ m + j = r := fun j => by omega
 have n1 : ¬ m = r := by omega
 have hb : aBuildSlice Tryz.prog 38 1 [(0, .agg (encC a b c k nm n))] = some (.sl .ex [encC a b c k nm n]) := build1 el_sCst (by decide) zr_cst rfl rfl _ rfl rfl
 have g1 : (encC a b c k nm n).all AV.one = true := rfl
 have g2 : (encC a b c k nm n).length = 6 := rfl
 have g3 : (encC a b c k nm n).take 6 = encC a b c k nm n := rfl
 have hap : ∀ H id, aAppend Tryz.prog 38 (.sl .nil []) (.sl .ex [encC a b c k nm n]) H id = some (.sl (.own id 71 6) [encC a b c k nm n], ownUs .nil id, ownRs .nil) := fun H id => by
  rw [append_any (o := .nil) (es := []) el_sCst zo_sCst (by decide) (by simp) (by simp) rfl H id trivial]
  simp [sanLL, encC, sanL, san]
 unfold encD at hg ⊢
 simp only [go_sem, simprocAttr, rs, hc, hg, g1, hm, n0, n1]
 refine W_draw [(4, 5)] (by kernel_rfl) ?_
 simp only [go_sem, simprocAttr, rs, hg, hb, hap, g1, g2, g3, hm, n0, n1]
 exact ⟨_, rfl, _, Upd.write (cs := encD l s x site (.sl .nil []) e) (((((hu.up _).put _ (by omega)).up _).up _).liv _) _⟩
end
section
variable (l : List (List AV)) (s : Sta) (x : Stm) (site : Int) (r : Nat) (H0 : Heap)
theorem c_arith (hp : x.p = ⟨#[43]⟩) (hs : StOk s) (hv1 : s.vars.length + 1 ≤ LA) (ha : 2 ≤ x.a.length) (hok : ∀ a, a ∈ x.a → a.ok) (R1 R2 : AV → Int → Prop)
  (h1 : ∀ H, H.get r = some (encD l s x site (.sl .nil []) 0) → r < H.next → ∃ v H', calls Tryz.prog cfg3 80 [.ptr r 0, .sl .sh (encAs (valO s x.a[0])), .agg (encC 0 0 0 3 ⟨#[]⟩ 0), .sl .ex [encI 2]] H = some (.ret v H') ∧ ∃ cs e, R1 cs e ∧ Upd H r H' (encD l s x site cs e))
  (h2 : ∀ cs e H, R1 cs e → H.get r = some (encD l s x site cs e) → r < H.next → ∃ v H', calls Tryz.prog cfg3 80 [.ptr r 0, .sl .sh (encAs (valO s x.a[1])), .agg (encC 0 0 1 3 ⟨#[]⟩ 0), .sl .ex [encI 2]] H = some (.ret v H') ∧ ∃ cs e, R2 cs e ∧ Upd H r H' (encD l s x site cs e))
  (hg : H0.get r = some (encD l s x site (.sl .nil []) 0)) (hr : r < H0.next) :
  ∃ v H', calls Tryz.prog cfg3 78 [.ptr r 0] H0 = some (.ret v H') ∧ ∃ cs e, R2 cs e ∧ Upd H0 r H' (encD l (setT x.x (normA [(2, 0)]) s) x site cs e) := by
 refine calls_imp (fn := Tryz.f78) rfl rfl rfl rfl rfl ?_
 have rs : Tryz.f78.results.toList = [] := rfl
 have g0 : H0.get r = some [.sl .sh l, .lit (.bool s.dead), .sl .sh (s.vars.map encB), .sl .sh (s.locs.map encL), .lit (.int .i64 x.op), .lit (.string x.x), .lit (.string x.y), .lit (.string ⟨#[43]⟩), .sl .sh (x.a.map encOp), .sl .sh x.pr, .sl .sh x.th, .sl .sh x.el, .lit (.int .i64 site), .sl .nil [], .lit (.int .i64 0)] := by rw [hg, ← hp]; rfl
 have d0 : decide ((0 : Int) < 2) = true := rfl
 have d1 : decide ((1 : Int) < 2) = true := rfl
 have d2 : decide ((2 : Int) < 2) = false := rfl
 have w1 : IntKind.i64.wrap 1 = 1 := by decide
 have w2 : IntKind.i64.wrap 2 = 2 := by decide
 have dp : decide ((⟨#[43]⟩ : ByteArray) = ⟨#[61]⟩) = false := by decide
 have dq : decide ((⟨#[43]⟩ : ByteArray) = ⟨#[60]⟩) = false := by decide
 have hb : aBuildSlice Tryz.prog 141 1 [(0, .lit (.int .i64 2))] = some (.sl .ex [encI 2]) := build1 el_ints (by decide) zr_int rfl rfl _ rfl rfl
 have hc := fun H => c_one 2 H
 have hval1 : ∀ cs e H, H.get r = some (encD l s x site cs e) → ∃ v H', calls Tryz.prog cfg3 77 [.ptr r 0, .lit (.int .i64 1)] H = some (.ret v H') ∧ (v = .sl .sh (encAs (valO s x.a[1])) ∧ Frm H H') :=
  fun cs e H h => c_valD l s x site cs e r H hs 1 (by omega) (hok _ (List.getElem_mem _)) h
 simp only [go_sem, simprocAttr, rs]
 rw [W_loop]
 simp only [go_sem, simprocAttr, rs, g0, d0, dp]
 refine goC_ex (c_valD l s x site (.sl .nil []) 0 r _ hs 0 (by omega) (hok _ (List.getElem_mem _)) (by simp only [go_sem, simprocAttr, hg])) ?_
 rintro v H1 ⟨rfl, hF⟩
 have u1 : Upd H0 r H1 (encD l s x site (.sl .nil []) 0) := Upd.frm (by repeat (first | exact Upd.start hg hr | refine Upd.up ?_ _)) hF
 have n1 := u1.nx
 simp only [go_sem, simprocAttr, rs, hb]
 refine goC_ex (h1 _ u1.get (by omega)) ?_
 rintro v H2 ⟨cs1, e1, hR1, u2⟩
 have u2 := u1.trans u2
 have n2 := u2.nx
 have g2 : H2.get r = some [.sl .sh l, .lit (.bool s.dead), .sl .sh (s.vars.map encB), .sl .sh (s.locs.map encL), .lit (.int .i64 x.op), .lit (.string x.x), .lit (.string x.y), .lit (.string ⟨#[43]⟩), .sl .sh (x.a.map encOp), .sl .sh x.pr, .sl .sh x.th, .sl .sh x.el, .lit (.int .i64 site), cs1, .lit (.int .i64 e1)] := by rw [u2.get, ← hp]; rfl
 simp only [go_sem, simprocAttr, rs, w1]
 rw [W_loop]
 simp only [go_sem, simprocAttr, rs, g2, d1, dp]
 refine goC_ex (hval1 cs1 e1 _ (by simp only [go_sem, simprocAttr, u2.get])) ?_
 rintro v H3 ⟨rfl, hF3⟩
 have u3 : Upd H0 r H3 (encD l s x site cs1 e1) := Upd.frm (by repeat (first | exact u2 | refine Upd.up ?_ _)) hF3
 have n3 := u3.nx
 simp only [go_sem, simprocAttr, rs, hb]
 refine goC_ex (h2 cs1 e1 _ hR1 u3.get (by omega)) ?_
 rintro v H4 ⟨cs2, e2, hR2, u4⟩
 have u4 := u3.trans u4
 have n4 := u4.nx
 have g4 : H4.get r = some [.sl .sh l, .lit (.bool s.dead), .sl .sh (s.vars.map encB), .sl .sh (s.locs.map encL), .lit (.int .i64 x.op), .lit (.string x.x), .lit (.string x.y), .lit (.string ⟨#[43]⟩), .sl .sh (x.a.map encOp), .sl .sh x.pr, .sl .sh x.th, .sl .sh x.el, .lit (.int .i64 site), cs2, .lit (.int .i64 e2)] := by rw [u4.get, ← hp]; rfl
 simp only [go_sem, simprocAttr, rs, w2]
 rw [W_loop]
 simp only [go_sem, simprocAttr, rs, g4, d2, dp, dq, hc]
 refine goC_ex (c_setD l s x site cs2 e2 r _ hs hv1 [(2, 0)] (by decide) .sh u4.get (by have := u4.nx; simp only [go_sem, simprocAttr] at *; omega)) ?_
 intro v H5 u5
 have u6 : Upd H0 r H5 (encD l (setT x.x (normA [(2, 0)]) s) x site cs2 e2) := Upd.trans (cs := encD l s x site cs2 e2) (by repeat (first | exact u4 | refine Upd.up ?_ _)) u5
 simp only [go_sem, simprocAttr, rs]
 exact ⟨_, rfl, cs2, e2, hR2, by repeat (first | exact u6 | refine Upd.up ?_ _)⟩
end
end Go.Proofs.YtnoahchdmkpleaaGreat.VA

/-! St8 -/
namespace Go.Proofs.YtnoahchdmkpleaaGreat.VA
open Go Go.RowKit
attribute [local go_sem] Nat.add_eq_left Nat.left_eq_add true_and and_true ite_true if_false Int.cast_ofNat_Int eq_self Nat.add_assoc Option.some.injEq decide_true decide_false Bool.not_true Bool.not_false List.size_toArray List.length_cons List.length_nil
set_option linter.unusedSimpArgs false
set_option maxRecDepth 100000

section
variable (l : List (List AV)) (s : Sta) (x : Stm) (site : Int) (r : Nat) (H0 : Heap)
theorem c_doArith (ho : x.op = 1) (hp : x.p = ⟨#[43]⟩) (hs : StOk s) (hv1 : s.vars.length + 1 ≤ LA) (ha : 2 ≤ x.a.length) (hok : ∀ a, a ∈ x.a → a.ok) (R1 R2 : AV → Int → Prop)
  (h1 : ∀ H, H.get r = some (encD l s x site (.sl .nil []) 0) → r < H.next → ∃ v H', calls Tryz.prog cfg3 80 [.ptr r 0, .sl .sh (encAs (valO s x.a[0])), .agg (encC 0 0 0 3 ⟨#[]⟩ 0), .sl .ex [encI 2]] H = some (.ret v H') ∧ ∃ cs e, R1 cs e ∧ Upd H r H' (encD l s x site cs e))
  (h2 : ∀ cs e H, R1 cs e → H.get r = some (encD l s x site cs e) → r < H.next → ∃ v H', calls Tryz.prog cfg3 80 [.ptr r 0, .sl .sh (encAs (valO s x.a[1])), .agg (encC 0 0 1 3 ⟨#[]⟩ 0), .sl .ex [encI 2]] H = some (.ret v H') ∧ ∃ cs e, R2 cs e ∧ Upd H r H' (encD l s x site cs e))
  (hg : H0.get r = some (encD l s x site (.sl .nil []) 0)) (hr : r < H0.next) :
  ∃ v H', calls Tryz.prog cfg3 49 [.ptr r 0] H0 = some (.ret v H') ∧ ∃ cs e, R2 cs e ∧ Upd H0 r H' (encD l (setT x.x (normA [(2, 0)]) s) x site cs e) := by
 refine calls_imp (fn := Tryz.f49) rfl rfl rfl rfl rfl ?_
 have rs : Tryz.f49.results.toList = [] := rfl
 have d0 : decide ((1 : Int) = 0) = false := rfl
 have d1 : decide ((1 : Int) = 1) = true := rfl
 have hg' := hg
 unfold encD at hg'
 rw [ho] at hg'
 simp only [go_sem, simprocAttr, rs, hg', d0, d1]
 refine goC_ex (c_arith l s x site r _ hp hs hv1 ha hok R1 R2 h1 h2 (by simp only [go_sem, simprocAttr, hg]) (by simp only [go_sem, simprocAttr]; omega)) ?_
 rintro v H1 ⟨cs, e, hR, hu⟩
 have hu2 : Upd H0 r H1 (encD l (setT x.x (normA [(2, 0)]) s) x site cs e) := Upd.trans (cs := encD l s x site (.sl .nil []) 0) (by repeat (first | exact Upd.start hg hr | refine Upd.up ?_ _)) hu
 simp only [go_sem, simprocAttr, rs]
 exact ⟨_, rfl, cs, e, hR, by repeat (first | exact hu2 | refine Upd.up ?_ _)⟩
end
def opX : Opd := ⟨4, 0, ⟨#[120]⟩⟩
def opN : Opd := ⟨2, 1, ⟨#[]⟩⟩
def sumX : Stm := ⟨1, ⟨#[121]⟩, ⟨#[]⟩, ⟨#[43]⟩, [opX, opN], [], [], []⟩
def oneX (v : List (Int × Int)) : Sta := ⟨false, [⟨⟨#[120]⟩, v⟩], []⟩
theorem c_sum (H : Heap) : calls Tryz.prog cfg3 32 [] H = some (.ret (.agg (encStm sumX)) H) := calls_iff.2 ⟨10, by kernel_rfl⟩
theorem oneX_ok {v : List (Int × Int)} (hv : v.length + 1 ≤ LA) : StOk (oneX v) := ⟨fun b hb => by rw [List.mem_singleton.1 hb]; exact hv, (by decide : 1 ≤ LA), (fun b hb => nomatch hb), (by decide : 0 ≤ LA)⟩
theorem val_x (v : List (Int × Int)) : valO (oneX v) sumX.a[0] = v := by
 show varA ⟨#[120]⟩ [⟨⟨#[120]⟩, v⟩] = v
 simp [varA]
theorem val_n (v : List (Int × Int)) : valO (oneX v) sumX.a[1] = [(2, 0)] := rfl
theorem sumX_ok : sumX.ok := ⟨rfl, rfl, rfl⟩
theorem sumX_a : ∀ a, a ∈ sumX.a → a.ok := fun a ha => by
 simp only [sumX, List.mem_cons, List.not_mem_nil, or_false] at ha
 rcases ha with rfl | rfl
 ·exact .inr rfl
 ·exact .inl rfl
theorem normA_k (k : Int) (h : rightA (k, 0) = true) : normA [(k, 0)] = [(k, 0)] := normA_one h
theorem may_one {v : List (Int × Int)} (h : mayA v = true) : mayT (oneX v) = true := by
 simp [mayT, oneX, upB, upL, h]
theorem set_one {v : List (Int × Int)} (h : mayA v = true) : setT ⟨#[121]⟩ (normA [(2, 0)]) (oneX v) = ⟨false, [⟨⟨#[120]⟩, v⟩, ⟨⟨#[121]⟩, [(2, 0)]⟩], []⟩ := by
 have hl : strLt ⟨#[120]⟩ ⟨#[121]⟩ = true := by decide
 have hb : bef ⟨#[121]⟩ [⟨⟨#[120]⟩, v⟩] = 1 := by simp [bef, hl]
 rw [normA_k 2 rfl, setT, if_neg (by rw [may_one h]; simp), if_neg (by simp [oneX])]
 show (⟨false, setB ⟨#[121]⟩ [(2, 0)] [⟨⟨#[120]⟩, v⟩], []⟩ : Sta) = _
 simp [setB, hb]
theorem txt_one (v : List (Int × Int)) (t : ByteArray) (k : Nat) (hk : call Tryz.prog cfgR k 35 [.agg (encSt ⟨false, [⟨⟨#[120]⟩, v⟩, ⟨⟨#[121]⟩, [(2, 0)]⟩], []⟩)] Heap.empty = some (.ret (.lit (.string t)) Heap.empty)) (H : Heap) :
  calls Tryz.prog cfg3 35 [.agg (encSt ⟨false, [⟨⟨#[120]⟩, v⟩, ⟨⟨#[121]⟩, [(2, 0)]⟩], []⟩)] H = some (.ret (.lit (.string t)) H) := by
 refine calls_told (h := toldBy Tryz.prog cfgR 35) rfl ?_ H
 unfold toldBy
 have e : sanL (sanL [AV.agg (encSt ⟨false, [⟨⟨#[120]⟩, v⟩, ⟨⟨#[121]⟩, [(2, 0)]⟩], []⟩)]) = [.agg (encSt ⟨false, [⟨⟨#[120]⟩, v⟩, ⟨⟨#[121]⟩, [(2, 0)]⟩], []⟩)] := by simp only [sanL, san, sanL_encSt]
 rw [e, calls_iff.2 ⟨k, hk⟩]
 rfl
def txt1 : ByteArray := ⟨#[120, 58, 32, 110, 117, 109, 10, 121, 58, 32, 110, 117, 109, 10]⟩
def txt2 : ByteArray := ⟨#[120, 58, 32, 97, 110, 121, 10, 121, 58, 32, 110, 117, 109, 10]⟩
theorem c_txt1 (H : Heap) : calls Tryz.prog cfg3 35 [.agg (encSt ⟨false, [⟨⟨#[120]⟩, [(2, 0)]⟩, ⟨⟨#[121]⟩, [(2, 0)]⟩], []⟩)] H = some (.ret (.lit (.string txt1)) H) := txt_one [(2, 0)] txt1 60 (by kernel_rfl) H
theorem c_txt2 (H : Heap) : calls Tryz.prog cfg3 35 [.agg (encSt ⟨false, [⟨⟨#[120]⟩, [(6, 0)]⟩, ⟨⟨#[121]⟩, [(2, 0)]⟩], []⟩)] H = some (.ret (.lit (.string txt2)) H) := txt_one [(6, 0)] txt2 60 (by kernel_rfl) H
theorem k_casts : call Tryz.prog cfgR 60 29 [.sl .sh [encC 0 0 0 3 ⟨#[]⟩ 0], .sl .sh [encC 0 0 0 3 ⟨#[]⟩ 0]] Heap.empty = some (.ret (.lit (.bool true)) Heap.empty) := by kernel_rfl
theorem c_casts (o o' : Own) (H : Heap) : calls Tryz.prog cfg3 29 [.sl o [encC 0 0 0 3 ⟨#[]⟩ 0], .sl o' [encC 0 0 0 3 ⟨#[]⟩ 0]] H = some (.ret (.lit (.bool true)) H) := by
 refine calls_told (h := toldBy Tryz.prog cfgR 29) rfl ?_ H
 unfold toldBy
 have e : sanL (sanL [AV.sl o [encC 0 0 0 3 ⟨#[]⟩ 0], .sl o' [encC 0 0 0 3 ⟨#[]⟩ 0]]) = [.sl .sh [encC 0 0 0 3 ⟨#[]⟩ 0], .sl .sh [encC 0 0 0 3 ⟨#[]⟩ 0]] := rfl
 rw [e, calls_iff.2 ⟨60, k_casts⟩]
 rfl
theorem c_lone (v : List (Int × Int)) (o : Own) (H : Heap) : calls Tryz.prog cfg3 30 [.sl o (encAs v)] H = some (.ret (.agg (encSt (oneX v))) H) := by
 refine calls_pure (fn := Tryz.f30) rfl rfl rfl rfl rfl ?_ H
 have rs : Tryz.f30.results.toList = [.cell 2 26] := rfl
 have hb : aBuildSlice Tryz.prog 23 1 [(0, .agg [.lit (.string ⟨#[120]⟩), .sl .sh (encAs v)])] = some (.sl .ex [[.lit (.string ⟨#[120]⟩), .sl .sh (encAs v)]]) := build1 el_sBnd (by decide) zr_bind rfl rfl _ rfl rfl
 simp only [go_sem, simprocAttr, rs, hb]
 rfl
theorem c_DoSum1 (v : List (Int × Int)) (hm : mayA v = true) (hv : v.length + 1 ≤ LA) (C0 : AV) (E : Int) (R1 : AV → Int → Prop)
  (h1 : ∀ r H, H.get r = some (encD [] (oneX v) sumX 0 (.sl .nil []) 0) → r < H.next → ∃ v' H', calls Tryz.prog cfg3 80 [.ptr r 0, .sl .sh (encAs v), .agg (encC 0 0 0 3 ⟨#[]⟩ 0), .sl .ex [encI 2]] H = some (.ret v' H') ∧ ∃ cs e, R1 cs e ∧ Upd H r H' (encD [] (oneX v) sumX 0 cs e))
  (hR : ∀ cs e, R1 cs e → san cs = C0 ∧ e = E) (o : Own) (H : Heap) :
  calls Tryz.prog cfg3 14 [.sl o [], .agg (encSt (oneX v)), .agg (encStm sumX), .lit (.int .i64 0)] H =
   some (.ret (if E = 0 then .tup [.agg (encSt ⟨false, [⟨⟨#[120]⟩, v⟩, ⟨⟨#[121]⟩, [(2, 0)]⟩], []⟩), C0, .lit (.int .i64 0)] else .tup [.agg (encSt ⟨true, [], []⟩), .sl .sh [], .lit (.int .i64 E)]) H) := by
 have hset := set_one hm
 have := c_Do [] rfl (oneX v) (oneX_ok hv) (may_one hm) rfl sumX sumX_ok 2 (.inr (.inl ⟨rfl, rfl⟩)) (by decide) sumX_a (by decide) false (.sl .sh ([⟨⟨#[120]⟩, v⟩, ⟨⟨#[121]⟩, [(2, 0)]⟩].map encB)) (.sl .sh []) C0 E rfl rfl
  (fun r H0 hg hr => by
   obtain ⟨v', H', q1, cs, e, q2, q3⟩ := c_doArith [] (oneX v) sumX 0 r H0 rfl rfl (oneX_ok hv) (show (1 + 1 : Nat) ≤ LA by decide) (by decide) sumX_a R1 R1
    (fun H a b => by rw [val_x]; exact h1 r H a b)
    (fun cs e H hR1 a b => by
     obtain ⟨u, H', w1, w2⟩ := c_askOk [] (oneX v) sumX 0 cs e r H [(2, 0)] (by decide) [2] (by decide) .sh .ex 0 0 1 3 ⟨#[]⟩ 0 rfl rfl a b
     exact ⟨u, H', w1, cs, e, hR1, w2⟩) hg hr
   obtain ⟨z1, z2⟩ := hR cs e q2
   have z4 : setT sumX.x (normA [(2, 0)]) (oneX v) = _ := hset
   rw [z4, z2] at q3
   exact ⟨v', H', q1, cs, z1, q3⟩) o H
 rw [this]
 simp only [san, sanLL_B, sanLL]
 rfl
theorem c_fix1 (o : Own) (H : Heap) : calls Tryz.prog cfg3 14 [.sl o [], .agg (encSt (oneX [(2, 0)])), .agg (encStm sumX), .lit (.int .i64 0)] H = some (.ret (.tup [.agg (encSt ⟨false, [⟨⟨#[120]⟩, [(2, 0)]⟩, ⟨⟨#[121]⟩, [(2, 0)]⟩], []⟩), .sl .sh [], .lit (.int .i64 0)]) H) := by
 have := c_DoSum1 [(2, 0)] (by rw [mayA_one]; rfl) (by decide) (.sl .sh []) 0 (fun cs e => cs = .sl .nil [] ∧ e = 0)
  (fun r H a b => by
   obtain ⟨u, H', w1, w2⟩ := c_askOk [] (oneX [(2, 0)]) sumX 0 (.sl .nil []) 0 r H [(2, 0)] (by decide) [2] (by decide) .sh .ex 0 0 0 3 ⟨#[]⟩ 0 rfl rfl a b
   exact ⟨u, H', w1, _, _, ⟨rfl, rfl⟩, w2⟩) (fun cs e h => by obtain ⟨rfl, rfl⟩ := h; exact ⟨rfl, rfl⟩) o H
 rw [if_pos rfl] at this
 exact this
theorem c_fix2 (o : Own) (H : Heap) : calls Tryz.prog cfg3 14 [.sl o [], .agg (encSt (oneX [(6, 0)])), .agg (encStm sumX), .lit (.int .i64 0)] H = some (.ret (.tup [.agg (encSt ⟨false, [⟨⟨#[120]⟩, [(6, 0)]⟩, ⟨⟨#[121]⟩, [(2, 0)]⟩], []⟩), .sl .sh [encC 0 0 0 3 ⟨#[]⟩ 0], .lit (.int .i64 0)]) H) := by
 have := c_DoSum1 [(6, 0)] (by rw [mayA_one]; rfl) (by decide) (.sl .sh [encC 0 0 0 3 ⟨#[]⟩ 0]) 0 (fun cs e => (∃ o3, cs = .sl o3 [encC 0 0 0 3 ⟨#[]⟩ 0]) ∧ e = 0)
  (fun r H a b => by
   obtain ⟨u, H', w1, o3, w2⟩ := c_askDyn [] (oneX [(6, 0)]) sumX 0 0 r H [(6, 0)] (by decide) [2] .sh .ex 0 0 0 3 ⟨#[]⟩ 0 rfl a b
   exact ⟨u, H', w1, _, _, ⟨⟨_, rfl⟩, rfl⟩, w2⟩) (fun cs e h => by obtain ⟨⟨o3, rfl⟩, rfl⟩ := h; exact ⟨rfl, rfl⟩) o H
 rw [if_pos rfl] at this
 exact this
theorem c_fix3 (o : Own) (H : Heap) : calls Tryz.prog cfg3 14 [.sl o [], .agg (encSt (oneX [(0, 0)])), .agg (encStm sumX), .lit (.int .i64 0)] H = some (.ret (.tup [.agg (encSt ⟨true, [], []⟩), .sl .sh [], .lit (.int .i64 150)]) H) := by
 have := c_DoSum1 [(0, 0)] (by rw [mayA_one]; rfl) (by decide) (.sl .sh []) 150 (fun cs e => cs = .sl .nil [] ∧ e = 150)
  (fun r H a b => by
   obtain ⟨u, H', w1, w2⟩ := c_askFail [] (oneX [(0, 0)]) sumX 0 (.sl .nil []) 0 r H [(0, 0)] (by decide) [2] (by decide) .sh .ex 0 0 0 3 ⟨#[]⟩ 0 rfl rfl rfl a b
   exact ⟨u, H', w1, _, _, ⟨rfl, rfl⟩, w2⟩) (fun cs e h => by obtain ⟨rfl, rfl⟩ := h; exact ⟨rfl, rfl⟩) o H
 rw [if_neg (by decide)] at this
 exact this
end Go.Proofs.YtnoahchdmkpleaaGreat.VA

/-! St9 -/
namespace Go.Proofs.YtnoahchdmkpleaaGreat.VA
open Go Go.RowKit
attribute [local go_sem] Nat.add_eq_left Nat.left_eq_add true_and and_true ite_true if_false Int.cast_ofNat_Int eq_self Nat.add_assoc Option.some.injEq decide_true decide_false Bool.not_true Bool.not_false List.size_toArray List.length_cons List.length_nil
set_option linter.unusedSimpArgs false
set_option maxRecDepth 100000

theorem c_cond (o : Own) (H : Heap) : calls Tryz.prog cfg3 34 [.agg (encSt (oneX [])), .sl o (encAs [(6, 0)])] H = some (.ret (.tup [.lit (.bool true), .lit (.int .i64 0)]) H) := by
 refine calls_pure (fn := Tryz.f34) rfl rfl rfl rfl rfl ?_ H
 have rs : Tryz.f34.results.toList = [.tmp 4, .tmp 5] := rfl
 have hn : ∀ H, calls Tryz.prog cfg3 60 [.sl .sh (encAs [(6, 0)])] H = some (.ret (.sl .sh (encAs [(6, 0)])) H) := fun H => by
  have := s_norm [(6, 0)] (by decide) .sh H
  rw [normA_k 6 rfl] at this
  exact this
 have hd := fun H => c_dyn [(6, 0)] (by decide) .sh H
 have hd1 : dynA [(6, 0)] = true := rfl
 rw [hd1] at hd
 have hso : (encSt (oneX [])).all AV.one = true := rfl
 have hs0 : (encSt (oneX []))[0]? = some (.lit (.bool false)) := rfl
 simp only [go_sem, simprocAttr, rs, hn, hd, hso, hs0, sanL_encSt]
theorem c_fixed (H : Heap) : calls Tryz.prog cfg3 8 [] H = some (.ret (.lit (.bool true)) H) := by
 refine calls_pure (fn := Tryz.f8) rfl rfl rfl rfl rfl ?_ H
 have rs : Tryz.f8.results.toList = [.tmp 0] := rfl
 have a1 := fun H => s_num H
 have a2 := fun H => s_dyn H
 have a3 := fun H => s_null H
 have b1 := fun v o H => c_lone v o H
 have b0 : ∀ H, calls Tryz.prog cfg3 30 [.sl .nil []] H = some (.ret (.agg (encSt (oneX []))) H) := fun H => c_lone [] .nil H
 have c1 := fun o H => c_fix1 o H
 have c2 := fun o H => c_fix2 o H
 have c3 := fun o H => c_fix3 o H
 have e1 := fun H => c_sum H
 have k1 := fun o H => c_cond o H
 have t1 : ∀ H, calls Tryz.prog cfg3 35 [.agg [.lit (.bool false), .sl .sh [encB ⟨⟨#[120]⟩, [(2, 0)]⟩, encB ⟨⟨#[121]⟩, [(2, 0)]⟩], .sl .sh []]] H = some (.ret (.lit (.string txt1)) H) := fun H => c_txt1 H
 have t2 : ∀ H, calls Tryz.prog cfg3 35 [.agg [.lit (.bool false), .sl .sh [encB ⟨⟨#[120]⟩, [(6, 0)]⟩, encB ⟨⟨#[121]⟩, [(2, 0)]⟩], .sl .sh []]] H = some (.ret (.lit (.string txt2)) H) := fun H => c_txt2 H
 have u1 := fun o o' H => c_casts o o' H
 have z1 : ∀ v, encSt ⟨false, [⟨⟨#[120]⟩, v⟩, ⟨⟨#[121]⟩, [(2, 0)]⟩], []⟩ = [.lit (.bool false), .sl .sh [encB ⟨⟨#[120]⟩, v⟩, encB ⟨⟨#[121]⟩, [(2, 0)]⟩], .sl .sh []] := fun v => rfl
 have z2 : encSt ⟨true, [], []⟩ = [.lit (.bool true), .sl .sh [], .sl .sh []] := rfl
 have x1 : ∀ H, calls Tryz.prog cfg3 36 [.sl .nil [], .agg (encSt (oneX [(2, 0)])), .agg [.lit (.int .i64 4), .lit (.int .i64 0), .lit (.string ⟨#[120]⟩)]] H = some (.ret (.sl .sh (encAs [(2, 0)])) H) := fun H => by
  have := c_val [] (oneX [(2, 0)]) (oneX_ok (by decide)) opX (.inr rfl) .nil H
  have e : valO (oneX [(2, 0)]) opX = [(2, 0)] := val_x _
  rw [e] at this
  exact this
 have x2 := fun o o' H => s_same1 [(2, 0)] (by decide) o o' H
 have hcs : aBuildSlice Tryz.prog 38 1 [(0, .agg [.lit (.int .i64 0), .lit (.int .i64 0), .lit (.int .i64 0), .lit (.int .i64 3), .lit (.string ⟨#[]⟩), .lit (.int .i64 0)])] = some (.sl .ex [encC 0 0 0 3 ⟨#[]⟩ 0]) := build1 el_sCst (by decide) zr_cst rfl rfl _ rfl rfl
 have q1 : decide (txt1 = ⟨#[120, 58, 32, 110, 117, 109, 10, 121, 58, 32, 110, 117, 109, 10]⟩) = true := decide_eq_true rfl
 have q2 : decide (txt2 = ⟨#[120, 58, 32, 97, 110, 121, 10, 121, 58, 32, 110, 117, 109, 10]⟩) = true := decide_eq_true rfl
 have q3 : decide ((0 : Int) = 0) = true := rfl
 have q4 : decide ((150 : Int) = 150) = true := rfl
 simp only [go_sem, simprocAttr, rs, q1, q2, q3, q4, a1, a2, a3, b1, b0, c1, c2, c3, e1, k1, u1, x1, x2, z1, z2, t1, t2, hcs]
end Go.Proofs.YtnoahchdmkpleaaGreat.VA

/-! Sta -/
namespace Go.Proofs.YtnoahchdmkpleaaGreat.VA
open Go Go.RowKit
set_option linter.unusedSimpArgs false
set_option maxRecDepth 100000

theorem bytesLess_self : ∀ l : List UInt8, Op.bytesLess l l = false
 | [] => rfl
 | x :: l => by
  have := bytesLess_self l
  simp [Op.bytesLess, this]
theorem strLt_self (q : ByteArray) : strLt q q = false := bytesLess_self _
theorem var_set (q : ByteArray) (nd : List (Int × Int)) (vs : List Bnd) : varA q (setB q nd vs) = nd := by
 have h : ∀ b, b ∈ vs.take (bef q vs) → strLt b.nm q = true := fun b hb => by
  have e : vs.take (bef q vs) = vs.takeWhile fun b => strLt b.nm q := by
   unfold bef
   exact (List.prefix_iff_eq_take.1 (List.takeWhile_prefix _)).symm
  rw [e] at hb
  exact List.all_eq_true.1 List.all_takeWhile b hb
 have hn : (vs.take (bef q vs)).find? (fun b => decide (b.nm = q)) = none := List.find?_eq_none.2 fun b hb hc => by
  have h1 := h b hb
  rw [of_decide_eq_true hc, strLt_self] at h1
  cases h1
 unfold varA setB
 rw [List.append_assoc, List.find?_append, hn, Option.none_or, List.singleton_append, List.find?_cons_of_pos (by simp)]
theorem setB_len (q : ByteArray) (nd : List (Int × Int)) (vs : List Bnd) : (setB q nd vs).length ≤ vs.length + 1 := by
 have hb : bef q vs ≤ vs.length := by unfold bef; exact (List.takeWhile_prefix _).length_le
 unfold setB
 simp only [List.length_append, List.length_take, List.length_singleton]
 split
 ·split
  ·simp only [List.length_drop]; omega
  ·simp only [List.length_drop]; omega
 ·simp only [List.length_nil]; omega
theorem upB_may : ∀ {p : Option ByteArray} {vs : List Bnd}, upB p vs = true → ∀ b, b ∈ vs → mayA b.vals = true
 | _, [], _, b, hb => by cases hb
 | p, f :: l, h, b, hb => by
  unfold upB at h
  simp only [Bool.and_eq_true] at h
  rcases List.mem_cons.1 hb with rfl | hb
  ·exact h.1
  ·exact upB_may h.2.2 b hb
theorem norm_var {s : Sta} (h : mayT s = true) (q : ByteArray) : normA (varA q s.vars) = varA q s.vars := by
 unfold mayT at h
 simp only [Bool.and_eq_true] at h
 unfold varA
 split
 ·rename_i b hb
  exact mayA_eq (upB_may h.1 b (List.mem_of_find?_eq_some hb))
 ·exact normA_k 0 rfl
theorem var_len {s : Sta} (hs : StOk s) (q : ByteArray) : (varA q s.vars).length + 1 ≤ LA := by
 unfold varA
 split
 ·rename_i b hb
  exact hs.1 b (List.mem_of_find?_eq_some hb)
 ·decide
theorem setT_ok {s : Sta} (h : mayT s = true) (hd : s.dead = false) (q : ByteArray) (nd : List (Int × Int)) : setT q nd s = ⟨false, setB q nd s.vars, s.locs⟩ := by
 unfold setT; rw [if_neg (by rw [h]; simp), if_neg (by rw [hd]; simp)]
theorem calls_san {P : Program} {c : Cfg} {f : FuncId} {fn : Func} {args : List AV} {H : Heap} {r : CR} (ht : c.told f = none) (hf : c.fn f = some fn) (hi : c.imp f = false) (ha : c.arr f = false) (h : calls P c f (sanL args) H = some r) : calls P c f args H = some r := by
 have hth : c.th f = none := by simp only [Cfg.th, hi]
 obtain ⟨k, hk⟩ := calls_iff.1 h
 cases k with
 | zero => simp [call] at hk
 | succ k => exact calls_iff.2 ⟨k + 1, by simp only [call, ht, hth, hf, hi, ha, sanL_san] at hk ⊢; exact hk⟩
end Go.Proofs.YtnoahchdmkpleaaGreat.VA

/-! Fl1 -/
namespace Go.Proofs.YtnoahchdmkpleaaGreat.VA
open Go Go.RowKit
attribute [local go_sem] Nat.add_eq_left Nat.left_eq_add true_and and_true ite_true if_false Int.cast_ofNat_Int eq_self Nat.add_assoc Option.some.injEq decide_true decide_false Bool.not_true Bool.not_false List.size_toArray List.length_cons List.length_nil
set_option linter.unusedSimpArgs false
set_option maxRecDepth 100000

theorem c_needsX (x : Stm) (hx : x.ok) (hp : x.pr.length ≤ LA)   : ∃ n : Int, ∀ H : Heap, calls Tryz.prog cfg3 44 [.agg (encStm x)] H = some (.ret (.lit (.int .i64 n)) H) := by
 have rs : Tryz.f44.results.toList = [.tmp 2] := rfl
 have hsn := sanL_stm hx
 have hw := wrap1 (show x.pr.length + 1 ≤ 9223372036854775807 by unfold LA at hp; omega)
 obtain ⟨k, xx, y, p, a, pr, th, el⟩ := x
 simp only at hw
 by_cases e0 : k = 0
 ·have d0 : decide (k = 0) = true := by simp [e0]
  refine ⟨1, fun H => calls_pure (fn := Tryz.f44) rfl rfl rfl rfl rfl ?_ H⟩
  simp only [sanL, san, hsn]
  unfold encStm
  simp only [go_sem, simprocAttr, rs, hw, d0]
 have d0 : decide (k = 0) = false := by simp [e0]
 by_cases e3 : k = 3
 ·have d3 : decide (k = 3) = true := by simp [e3]
  refine ⟨1, fun H => calls_pure (fn := Tryz.f44) rfl rfl rfl rfl rfl ?_ H⟩
  simp only [sanL, san, hsn]
  unfold encStm
  simp only [go_sem, simprocAttr, rs, hw, d0, d3]
 have d3 : decide (k = 3) = false := by simp [e3]
 by_cases e8 : k = 8
 ·have d8 : decide (k = 8) = true := by simp [e8]
  refine ⟨1, fun H => calls_pure (fn := Tryz.f44) rfl rfl rfl rfl rfl ?_ H⟩
  simp only [sanL, san, hsn]
  unfold encStm
  simp only [go_sem, simprocAttr, rs, hw, d0, d3, d8]
 have d8 : decide (k = 8) = false := by simp [e8]
 by_cases e11 : k = 11
 ·have d11 : decide (k = 11) = true := by simp [e11]
  refine ⟨1, fun H => calls_pure (fn := Tryz.f44) rfl rfl rfl rfl rfl ?_ H⟩
  simp only [sanL, san, hsn]
  unfold encStm
  simp only [go_sem, simprocAttr, rs, hw, d0, d3, d8, d11]
 have d11 : decide (k = 11) = false := by simp [e11]
 by_cases e1 : k = 1
 ·have d1 : decide (k = 1) = true := by simp [e1]
  refine ⟨2, fun H => calls_pure (fn := Tryz.f44) rfl rfl rfl rfl rfl ?_ H⟩
  simp only [sanL, san, hsn]
  unfold encStm
  simp only [go_sem, simprocAttr, rs, hw, d0, d3, d8, d11, d1]
 have d1 : decide (k = 1) = false := by simp [e1]
 by_cases e4 : k = 4
 ·have d4 : decide (k = 4) = true := by simp [e4]
  refine ⟨(pr.length + 1 : Nat), fun H => calls_pure (fn := Tryz.f44) rfl rfl rfl rfl rfl ?_ H⟩
  simp only [sanL, san, hsn]
  unfold encStm
  simp only [go_sem, simprocAttr, rs, hw, d0, d3, d8, d11, d1, d4]
 have d4 : decide (k = 4) = false := by simp [e4]
 by_cases e2 : k = 2
 ·have d2 : decide (k = 2) = true := by simp [e2]
  refine ⟨0, fun H => calls_pure (fn := Tryz.f44) rfl rfl rfl rfl rfl ?_ H⟩
  simp only [sanL, san, hsn]
  unfold encStm
  simp only [go_sem, simprocAttr, rs, hw, d0, d3, d8, d11, d1, d4, d2]
 have d2 : decide (k = 2) = false := by simp [e2]
 by_cases e5 : k = 5
 ·have d5 : decide (k = 5) = true := by simp [e5]
  refine ⟨0, fun H => calls_pure (fn := Tryz.f44) rfl rfl rfl rfl rfl ?_ H⟩
  simp only [sanL, san, hsn]
  unfold encStm
  simp only [go_sem, simprocAttr, rs, hw, d0, d3, d8, d11, d1, d4, d2, d5]
 have d5 : decide (k = 5) = false := by simp [e5]
 by_cases e6 : k = 6
 ·have d6 : decide (k = 6) = true := by simp [e6]
  refine ⟨0, fun H => calls_pure (fn := Tryz.f44) rfl rfl rfl rfl rfl ?_ H⟩
  simp only [sanL, san, hsn]
  unfold encStm
  simp only [go_sem, simprocAttr, rs, hw, d0, d3, d8, d11, d1, d4, d2, d5, d6]
 have d6 : decide (k = 6) = false := by simp [e6]
 by_cases e7 : k = 7
 ·have d7 : decide (k = 7) = true := by simp [e7]
  refine ⟨0, fun H => calls_pure (fn := Tryz.f44) rfl rfl rfl rfl rfl ?_ H⟩
  simp only [sanL, san, hsn]
  unfold encStm
  simp only [go_sem, simprocAttr, rs, hw, d0, d3, d8, d11, d1, d4, d2, d5, d6, d7]
 have d7 : decide (k = 7) = false := by simp [e7]
 refine ⟨-1, fun H => calls_pure (fn := Tryz.f44) rfl rfl rfl rfl rfl ?_ H⟩
 simp only [sanL, san, hsn]
 unfold encStm
 simp only [go_sem, simprocAttr, rs, d0, d3, d8, d11, d1, d4, d2, d5, d6, d7]
/-- The Dead state. -/
def deadS : Sta := ⟨true, [], []⟩
theorem deadS_ok : StOk deadS := ⟨(fun b hb => nomatch hb), (by decide : 0 ≤ LA), (fun b hb => nomatch hb), (by decide : 0 ≤ LA)⟩
theorem deadS_may : mayT deadS = true := rfl
theorem c_DoDead (l : List (List AV)) (hl : sanLL l = l) (x : Stm) (hx : x.ok) (hp : x.pr.length ≤ LA) (site : Nat) (o : Own) (H : Heap) :
  calls Tryz.prog cfg3 14 [.sl o l, .agg (encSt deadS), .agg (encStm x), .lit (.int .i64 site)] H = some (.ret (.tup [.agg (encSt deadS), .sl .sh [], .lit (.int .i64 0)]) H) := by
 refine calls_pure (fn := Tryz.f14) rfl rfl rfl rfl rfl ?_ H
 have rs : Tryz.f14.results.toList = [.cell 8 26, .tmp 9, .tmp 10] := rfl
 have hsn := sanL_stm hx
 have e0 : sanL [AV.sl o l, .agg (encSt deadS), .agg (encStm x), .lit (.int .i64 site)] = [.sl .sh l, .agg (encSt deadS), .agg (encStm x), .lit (.int .i64 site)] := by simp only [sanL, san, hsn, hl, sanL_encSt]
 rw [e0]
 obtain ⟨n, hnd⟩ := c_needsX x hx hp
 have hm : ∀ H, calls Tryz.prog cfg3 45 [.agg (encSt deadS)] H = some (.ret (.lit (.bool true)) H) := fun H => s_may deadS deadS_ok H
 have d1 : decide ((site : Int) < 0) = false := by simp
 have h1 := encSt_one deadS
 have h2 := encSt_len deadS
 have h3 := encSt_take deadS
 have x1 : (encStm x).all AV.one = true := rfl
 have x2 : (encStm x).length = 8 := rfl
 have x3 : (encStm x).take 8 = encStm x := rfl
 have hs0 : (encSt deadS)[0]? = some (.lit (.bool true)) := rfl
 simp only [go_sem, simprocAttr, rs, hnd, hm, d1, h1, h2, h3, x1, x2, x3, hs0]
 rfl
end Go.Proofs.YtnoahchdmkpleaaGreat.VA

/-! Gr1 -/
namespace Go.Proofs.YtnoahchdmkpleaaGreat.VA
open Go Go.Shelf Go.RowKit
set_option linter.unusedVariables false
set_option linter.unusedSimpArgs false
/-- slices.Grow of the nil slice. -/
def grwN (e : TypeId) (sz : Nat) (args : List AV) (H : Heap) : Option (AV × List U) :=
 match args with
 | [.sl .nil [], .lit (.int .i64 n)] => if n = 0 then some (.sl .nil [], []) else if 0 < n ∧ n ≤ 1000000000000 then some (.sl (.own H.next e sz) [], [.live H.next true]) else none
 | _ => none
theorem relL2' {g : Gh} {w : World} {x y : AV} {vs : Array Value} (h : RelL g w [x, y] vs.toList) : ∃ a b, vs = #[a, b] ∧ Rel g w x a ∧ Rel g w y b := by
 obtain ⟨h1, h2⟩ := h
 match hv : vs.toList, h1 with
 | [a, b], _ => exact ⟨a, b, by rw [← Array.toArray_toList (xs := vs), hv], h2 0 x a rfl (by rw [hv]; rfl), h2 1 y b rfl (by rw [hv]; rfl)⟩
theorem grw_own {g : Gh} {H : Heap} {w : World} (hi : Inv g H w) (ht : Top g H.next) {e : TypeId} {sz G : Nat} {vs : Array Value} (hG : G ≤ maxLen) (hvs : vs.size = G * sz) :
  ∃ g', Past H.next g w g' (appU { H with next := H.next + 1 } [.live H.next true]) (w.drew.alloc (.cells vs e)) ∧ Rel g' (w.drew.alloc (.cells vs e)) (.sl (.own H.next e sz) []) (.slice (some ⟨w.heap.size, 0, none⟩) 0 G) := by
 obtain ⟨hd1, hd2⟩ := hi.drew
 obtain ⟨he, hinv⟩ := inv_ownNew (H1 := H.setLive H.next true) (n := 0) (cap := G) (sz := sz) (vs := vs) (e := e) hd2 (fresh_next hi ht) (Nat.zero_le _) hG hvs (fun _ => rfl)
  (fun k hk => by rw [Heap.isLive_setLive] at hk; split at hk <;> simp_all)
 have he2 := hd1.trans he
 refine ⟨_, tolH_past (us := [.live H.next true]) ht he2 hinv (fun r hr => ⟨rfl, by simp only [Gh.addOwn]; rw [if_neg hr]⟩), ?_⟩
 refine .sl _ [] _ 0 G sz (fun _ => undef) (by simp) rfl (Nat.zero_le _) (by simp) ?_ (by simp) (by simp) (fun h => absurd rfl h) (by simp)
 intro s e' z hs
 cases hs
 exact ⟨rfl, _, rfl, by simp [Gh.addOwn]⟩
set_option maxHeartbeats 4000000 in
set_option maxRecDepth 100000 in
theorem growBind_zero (w : World) : Calls Tryz.prog 129 #[.slice none 0 0, .int .i64 0] w fun e w' => e = .returned (.slice none 0 0) ∧ w' = w := by
 go_enter Tryz.func129, Tryz.ntmps129
 go_wp2
 go_ret
 exact ⟨rfl, rfl⟩
set_option maxHeartbeats 4000000 in
set_option maxRecDepth 100000 in
theorem growBind_pos (n : Nat) (w : World) (h0 : 0 < n) (hn : n ≤ 1000000000000) : ∃ (G : Nat) (vs : Array Value), G ≤ maxLen ∧ vs.size = G * 2 ∧
  Calls Tryz.prog 129 #[.slice none 0 0, .int .i64 n] w fun e w' => e = .returned (.slice (some ⟨w.heap.size, 0, none⟩) 0 G) ∧ w' = w.drew.alloc (.cells vs 76) := by
 have ht : Tryz.prog.underlying 23 = some (.slice 76) := by kernel_rfl
 have htn : Tryz.prog.underlying 3 = some (.int .i64) := by kernel_rfl
 have hel : tElem Tryz.prog 23 = some (76, 2, 40) := by kernel_rfl
 obtain ⟨hu, i0, hi0, hsz, hby⟩ := tElem_spec hel
 have hzo : zeroOk Tryz.prog 76 2 = true := by kernel_rfl
 obtain ⟨i', z, hi', hz0, hzsz⟩ := zeroOk_spec hzo
 rw [hi0] at hi'
 simp only [Option.some.injEq] at hi'
 subst hi'
 have hold : (Builtin.firstCells i0.size 0 (.slice none 0 0)).run Tryz.prog w.drew = .ok #[] w.drew := run_firstCells_none w.drew i0.size 0 0 0
 have hb40 : (0 + n) * i0.bytes ≤ 140737488355328 := by rw [hby]; omega
 have h := Lib.run_append_grow_zeros w 23 3 23 76 i0 z .i64 .i64 ht htn hi0 hz0 none 0 0 [] hold n (by omega) (by omega) (by omega) (by omega)
  (by rw [hby]; omega) (growslice_fits (by omega) hb40)
 have hG1 := grownCap_ge w (0 + n) 0 76
 have hG2 := grownCap_le_maxLen w (0 + n) 0 76 (by unfold maxLen; omega)
 refine ⟨grownCap w (0 + n) 0 76, (([] : List Value).toArray ++ Builtin.zeroCells z.cells n ++ Builtin.zeroCells z.cells (grownCap w (0 + n) 0 76 - (0 + n))), hG2, ?_, ?_⟩
 rotate_left
 ·obtain ⟨G, hG⟩ : ∃ G, G = grownCap w (0 + n) 0 76 := ⟨_, rfl⟩
  rw [← hG] at h hG1 hG2 ⊢
  simp only [Nat.zero_add] at h hG1
  have hG63 : G ≤ 9223372036854775807 := hG2
  have hn1 : ¬ ((n : Int) < 0) := by omega
  have hn2 : wrap64 (n : Int) = n := by unfold wrap64; omega
  have hn3 : (n : Int) > 0 := by omega
  clear hold hG hb40
  go_enter Tryz.func129, Tryz.ntmps129
  go_wp2_with (at_builtin; refine Lib.wpList_append_run _ rfl _ _ _ _ rfl _ _ rfl rfl _ _ h ?_)
  all_goals (go_ret; exact ⟨rfl, rfl⟩)
 ·simp only [Array.size_append, size_zeroCells, hzsz, List.size_toArray, List.length_nil, Nat.zero_add] at hG1 ⊢
  rw [← Nat.add_mul, Nat.add_sub_cancel' hG1]
theorem growBind_ok (C : Cond) : TolHOk Tryz.prog C 129 (grwN 76 2) := by
 refine ⟨fun vs w => callFunc_enter (fn := Tryz.f129) (by kernel_rfl) (by kernel_rfl) rfl vs w, fun args H v us h g w vs hC hi ht hr => ?_⟩
 unfold grwN at h
 split at h
 ·rename_i n
  obtain ⟨a, b, rfl, ha, hb⟩ := relL2' hr
  have hb' := hb.lit_inv
  subst hb'
  have ha' : a = .slice none 0 0 := by cases ha with
   | nil => rfl
   | sl o es a n cap sz f ho => exact absurd rfl ho
  subst ha'
  split at h
  ·rename_i hn
   subst hn
   simp only [Option.some.injEq, Prod.mk.injEq] at h
   obtain ⟨rfl, rfl⟩ := h
   refine (growBind_zero w).mono fun en w' hp => ?_
   obtain ⟨rfl, rfl⟩ := hp
   exact ⟨_, g, rfl, tolH_past (us := []) ht (Ext.refl g _) hi (fun _ _ => ⟨rfl, rfl⟩), .nil⟩
  ·split at h
   ·rename_i hn
    simp only [Option.some.injEq, Prod.mk.injEq] at h
    obtain ⟨rfl, rfl⟩ := h
    obtain ⟨m, rfl⟩ : ∃ m : Nat, n = (m : Int) := ⟨n.toNat, by omega⟩
    obtain ⟨G, vs, h1, h2, h3⟩ := growBind_pos m w (by omega) (by omega)
    refine h3.mono fun en w' hp => ?_
    obtain ⟨rfl, rfl⟩ := hp
    obtain ⟨g', p1, p2⟩ := grw_own (e := 76) hi ht h1 h2
    exact ⟨_, g', rfl, p1, p2⟩
   ·cases h
 ·cases h
set_option maxHeartbeats 4000000 in
set_option maxRecDepth 100000 in
theorem growAtom_zero (w : World) : Calls Tryz.prog 173 #[.slice none 0 0, .int .i64 0] w fun e w' => e = .returned (.slice none 0 0) ∧ w' = w := by
 go_enter Tryz.func173, Tryz.ntmps173
 go_wp2
 go_ret
 exact ⟨rfl, rfl⟩
set_option maxHeartbeats 4000000 in
set_option maxRecDepth 100000 in
theorem growAtom_pos (n : Nat) (w : World) (h0 : 0 < n) (hn : n ≤ 1000000000000) : ∃ (G : Nat) (vs : Array Value), G ≤ maxLen ∧ vs.size = G * 2 ∧
  Calls Tryz.prog 173 #[.slice none 0 0, .int .i64 n] w fun e w' => e = .returned (.slice (some ⟨w.heap.size, 0, none⟩) 0 G) ∧ w' = w.drew.alloc (.cells vs 81) := by
 have ht : Tryz.prog.underlying 50 = some (.slice 81) := by kernel_rfl
 have htn : Tryz.prog.underlying 3 = some (.int .i64) := by kernel_rfl
 have hel : tElem Tryz.prog 50 = some (81, 2, 16) := by kernel_rfl
 obtain ⟨hu, i0, hi0, hsz, hby⟩ := tElem_spec hel
 have hzo : zeroOk Tryz.prog 81 2 = true := by kernel_rfl
 obtain ⟨i', z, hi', hz0, hzsz⟩ := zeroOk_spec hzo
 rw [hi0] at hi'
 simp only [Option.some.injEq] at hi'
 subst hi'
 have hold : (Builtin.firstCells i0.size 0 (.slice none 0 0)).run Tryz.prog w.drew = .ok #[] w.drew := run_firstCells_none w.drew i0.size 0 0 0
 have hb16 : (0 + n) * i0.bytes ≤ 140737488355328 := by rw [hby]; omega
 have h := Lib.run_append_grow_zeros w 50 3 50 81 i0 z .i64 .i64 ht htn hi0 hz0 none 0 0 [] hold n (by omega) (by omega) (by omega) (by omega)
  (by rw [hby]; omega) (growslice_fits (by omega) hb16)
 have hG1 := grownCap_ge w (0 + n) 0 81
 have hG2 := grownCap_le_maxLen w (0 + n) 0 81 (by unfold maxLen; omega)
 refine ⟨grownCap w (0 + n) 0 81, (([] : List Value).toArray ++ Builtin.zeroCells z.cells n ++ Builtin.zeroCells z.cells (grownCap w (0 + n) 0 81 - (0 + n))), hG2, ?_, ?_⟩
 rotate_left
 ·obtain ⟨G, hG⟩ : ∃ G, G = grownCap w (0 + n) 0 81 := ⟨_, rfl⟩
  rw [← hG] at h hG1 hG2 ⊢
  simp only [Nat.zero_add] at h hG1
  have hG63 : G ≤ 9223372036854775807 := hG2
  have hn1 : ¬ ((n : Int) < 0) := by omega
  have hn2 : wrap64 (n : Int) = n := by unfold wrap64; omega
  have hn3 : (n : Int) > 0 := by omega
  clear hold hG hb16
  go_enter Tryz.func173, Tryz.ntmps173
  go_wp2_with (at_builtin; refine Lib.wpList_append_run _ rfl _ _ _ _ rfl _ _ rfl rfl _ _ h ?_)
  all_goals (go_ret; exact ⟨rfl, rfl⟩)
 ·simp only [Array.size_append, size_zeroCells, hzsz, List.size_toArray, List.length_nil, Nat.zero_add] at hG1 ⊢
  rw [← Nat.add_mul, Nat.add_sub_cancel' hG1]
theorem growAtom_ok (C : Cond) : TolHOk Tryz.prog C 173 (grwN 81 2) := by
 refine ⟨fun vs w => callFunc_enter (fn := Tryz.f173) (by kernel_rfl) (by kernel_rfl) rfl vs w, fun args H v us h g w vs hC hi ht hr => ?_⟩
 unfold grwN at h
 split at h
 ·rename_i n
  obtain ⟨a, b, rfl, ha, hb⟩ := relL2' hr
  have hb' := hb.lit_inv
  subst hb'
  have ha' : a = .slice none 0 0 := by cases ha with
   | nil => rfl
   | sl o es a n cap sz f ho => exact absurd rfl ho
  subst ha'
  split at h
  ·rename_i hn
   subst hn
   simp only [Option.some.injEq, Prod.mk.injEq] at h
   obtain ⟨rfl, rfl⟩ := h
   refine (growAtom_zero w).mono fun en w' hp => ?_
   obtain ⟨rfl, rfl⟩ := hp
   exact ⟨_, g, rfl, tolH_past (us := []) ht (Ext.refl g _) hi (fun _ _ => ⟨rfl, rfl⟩), .nil⟩
  ·split at h
   ·rename_i hn
    simp only [Option.some.injEq, Prod.mk.injEq] at h
    obtain ⟨rfl, rfl⟩ := h
    obtain ⟨m, rfl⟩ : ∃ m : Nat, n = (m : Int) := ⟨n.toNat, by omega⟩
    obtain ⟨G, vs, h1, h2, h3⟩ := growAtom_pos m w (by omega) (by omega)
    refine h3.mono fun en w' hp => ?_
    obtain ⟨rfl, rfl⟩ := hp
    obtain ⟨g', p1, p2⟩ := grw_own (e := 81) hi ht h1 h2
    exact ⟨_, g', rfl, p1, p2⟩
   ·cases h
 ·cases h
end Go.Proofs.YtnoahchdmkpleaaGreat.VA

/-! Rf1 -/
namespace Go.Proofs.YtnoahchdmkpleaaGreat.RF
open Go Go.RowKit

theorem room_of_none {F : Fence} (hd : F.depth = none) (k : Nat) : F.room k := fun d h => by rw [hd] at h; cases h
theorem RoundIn.anyDepth {F : Fence} (hd : F.depth = none) {m m' : Nat} {P : Program} {l : Nat} {f : FuncId} {tmps : Array Value} {assign body : Code} {w : World} {R : Ending → World → Prop}
  (h : RoundIn F m P l f tmps assign body w R) : RoundIn F m' P l f tmps assign body w R := ⟨h.1, fun c cs _ => h.2 c cs (room_of_none hd _)⟩
theorem YieldAt.anyDepth {F : Fence} (hd : F.depth = none) {m : Nat} (m' : Nat) {P : Program} {l : Nat} {args : Array Value} {W : World} {R : Ending → World → Prop} (h : YieldAt F m P l args W R) : YieldAt F m' P l args W R := by
 obtain ⟨fn, tmps, assign, body, hy, hR⟩ := h
 exact ⟨fn, tmps, assign, body, hy, RoundIn.anyDepth hd hR⟩

/-- A statement's eight cells. -/
structure Y where
 op : Int
 v1 : Value
 v2 : Value
 v3 : Value
 v4 : Value
 v5 : Value
 th : Value
 el : Value
 ok : ∀ v, v ∈ [v1, v2, v3, v4, v5, th, el] → v.oneCell' = true
def Y.vs (y : Y) : Array Value := #[.int .i64 y.op, y.v1, y.v2, y.v3, y.v4, y.v5, y.th, y.el]
theorem Y.one (y : Y) : ∀ v, v ∈ y.vs.toList → v.oneCell' = true := by
 intro v hv
 simp only [Y.vs, List.mem_cons, List.not_mem_nil, or_false] at hv
 rcases hv with rfl | hv
 ·rfl
 ·exact y.ok v (by simpa using hv)
def Y.enc (y : Y) : Value := .agg y.vs
inductive GT where
 | node (y : Y) (th el : List GT)
mutual
def ordT : GT → List Y
 | .node y th el => y :: (ordL th ++ ordL el)
def ordL : List GT → List Y
 | [] => []
 | t :: l => ordT t ++ ordL l
end
mutual
def depT : GT → Nat
 | .node _ th el => 1 + max (depL th) (depL el)
def depL : List GT → Nat
 | [] => 0
 | t :: l => max (depT t) (depL l)
end
/-- A slice of so many elements; where it has some, they lie as Q says. -/
def Sli (v : Value) (n : Nat) (Q : Nat → Nat → Prop) : Prop := ∃ a cap, v = .slice a n cap ∧ (n ≠ 0 → ∃ b o, a = some ⟨b, o, none⟩ ∧ Q b o)
mutual
/-- A tree lies at a place of a block, all of it in blocks below n. -/
def AtT (n : Nat) (W : World) (b o : Nat) : GT → Prop
 | .node y th el => W.cell? ⟨b, o, none⟩ = some (.int .i64 y.op) ∧ W.cell? ⟨b, o + 1, none⟩ = some y.v1 ∧ W.cell? ⟨b, o + 2, none⟩ = some y.v2 ∧ W.cell? ⟨b, o + 3, none⟩ = some y.v3 ∧
   W.cell? ⟨b, o + 4, none⟩ = some y.v4 ∧ W.cell? ⟨b, o + 5, none⟩ = some y.v5 ∧ W.cell? ⟨b, o + 6, none⟩ = some y.th ∧ W.cell? ⟨b, o + 7, none⟩ = some y.el ∧
   Sli y.th th.length (fun b' o' => b' < n ∧ AtE n W b' o' th) ∧ Sli y.el el.length (fun b' o' => b' < n ∧ AtE n W b' o' el)
def AtE (n : Nat) (W : World) (b o : Nat) : List GT → Prop
 | [] => True
 | t :: l => AtT n W b o t ∧ AtE n W b (o + 8) l
end
def AtS (n : Nat) (W : World) (v : Value) (l : List GT) : Prop := Sli v l.length (fun b o => b < n ∧ AtE n W b o l)
theorem Sli.mono {v : Value} {n : Nat} {Q Q' : Nat → Nat → Prop} (h : Sli v n Q) (hq : ∀ b o, Q b o → Q' b o) : Sli v n Q' := by
 obtain ⟨a, cap, h1, h2⟩ := h
 refine ⟨a, cap, h1, fun h0 => ?_⟩
 obtain ⟨b, o, h3, h4⟩ := h2 h0
 exact ⟨b, o, h3, hq b o h4⟩
mutual
theorem AtT.below {n : Nat} {A B : World} (h : Below n A B) : ∀ (t : GT) {b o : Nat}, b < n → AtT n A b o t → AtT n B b o t
 | .node y th el, b, o, hb, ht => by
  simp only [AtT] at ht ⊢
  obtain ⟨c0, c1, c2, c3, c4, c5, c6, c7, s1, s2⟩ := ht
  have k : ∀ i, B.cell? ⟨b, i, none⟩ = A.cell? ⟨b, i, none⟩ := fun i => h.cell (p := ⟨b, i, none⟩) hb
  exact ⟨(k _).trans c0, (k _).trans c1, (k _).trans c2, (k _).trans c3, (k _).trans c4, (k _).trans c5, (k _).trans c6, (k _).trans c7,
   s1.mono fun b' o' h' => ⟨h'.1, AtE.below h th h'.1 h'.2⟩, s2.mono fun b' o' h' => ⟨h'.1, AtE.below h el h'.1 h'.2⟩⟩
theorem AtE.below {n : Nat} {A B : World} (h : Below n A B) : ∀ (l : List GT) {b o : Nat}, b < n → AtE n A b o l → AtE n B b o l
 | [], _, _, _, _ => trivial
 | t :: l, b, o, hb, ht => by
  simp only [AtE] at ht ⊢
  exact ⟨AtT.below h t hb ht.1, AtE.below h l hb ht.2⟩
end
theorem AtS.below {n : Nat} {A B : World} (h : Below n A B) {v : Value} {l : List GT} (hs : AtS n A v l) : AtS n B v l :=
 Sli.mono hs fun _ _ h' => ⟨h'.1, AtE.below h l h'.1 h'.2⟩
theorem AtE.get {n : Nat} {W : World} {b : Nat} : ∀ {l : List GT} {o : Nat} (j : Nat) (t : GT), AtE n W b o l → l[j]? = some t → AtT n W b (o + j * 8) t
 | [], _, _, _, _, h => by simp at h
 | x :: l, o, 0, t, ha, h => by
  simp at h; subst h
  simp only [AtE] at ha
  simpa using ha.1
 | x :: l, o, j + 1, t, ha, h => by
  simp only [AtE] at ha
  have := AtE.get j t ha.2 (by simpa using h)
  rw [show o + (j + 1) * 8 = o + 8 + j * 8 by omega]
  exact this
theorem ordL_append (a b : List GT) : ordL (a ++ b) = ordL a ++ ordL b := by
 induction a with
 | nil => rfl
 | cons x a ih => simp [ordL, ih]
theorem ordL_take_succ {l : List GT} {j : Nat} {t : GT} (h : l[j]? = some t) : ordL (l.take (j + 1)) = ordL (l.take j) ++ ordT t := by
 rw [List.take_add_one, h, ordL_append]
 simp [ordL]
theorem depL_get {l : List GT} {j : Nat} {t : GT} (h : l[j]? = some t) : depT t ≤ depL l := by
 induction l generalizing j with
 | nil => simp at h
 | cons x l ih =>
  cases j with
  | zero => simp at h; subst h; simp only [depL]; omega
  | succ j => simp only [depL]; have := ih (j := j) (by simpa using h); omega
theorem ordL_prefix (l : List GT) (j : Nat) : ordL (l.take j) <+: ordL l := by
 refine ⟨ordL (l.drop j), ?_⟩
 rw [← ordL_append, List.take_append_drop]
theorem ordL_len_le {l : List GT} {j : Nat} {t : GT} (h : l[j]? = some t) : (ordL (l.take j)).length + (ordT t).length ≤ (ordL l).length := by
 have := (ordL_prefix l (j + 1)).length_le
 rw [ordL_take_succ h, List.length_append] at this
 exact this
end Go.Proofs.YtnoahchdmkpleaaGreat.RF
