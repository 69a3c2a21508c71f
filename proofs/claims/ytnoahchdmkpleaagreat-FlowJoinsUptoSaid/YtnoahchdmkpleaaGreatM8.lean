/- What is proved: the reference's join of two shapes, in the abstract interpreter (VA). Condition: no longer lists than a machine holds.
What is proved: the reference's variable set in a state, in the abstract interpreter (VA). Condition: no longer lists than a machine holds.
What is proved: the reference's object put into a state, in the abstract interpreter (VA). Condition: no longer lists than a machine holds.
What is proved: the reference's objects of an atom, and its join of two states, in the abstract interpreter (VA). Condition: states of few of each thing.
What is said: trees of statements in memory, and the order in which number.all yields them. No condition.
What is proved: number.all yields a tree's statements, in order. Condition: what the loop's body keeps.
What is proved: number.Count and number.Sites, at a tree of statements in memory: how many there are, and how many are of one kind. Condition: not more than 10^9.
What is proved: number.Count and number.Sites are told to the abstract interpreter (VA). Condition: not more than 10^9 statements.
What is said: tables of the abstract interpreter (VA) in which the kernel itself can reckon closed calls of the flow. No condition.
What is proved: the flow's fixed calls, reckoned by the kernel. No condition.
What is said: flows of any casts and faults; the table for FlowJoins; which rows may be appended to. No condition.
What is proved: a flow behind another one, of any casts and faults, in the abstract interpreter (VA). Condition: no longer lists than a machine holds. -/
import Derived.Test.YtnoahchdmkpleaaGreatM7
import Derived.Test.YtnoahchdmkpleaaGreatM1
import Derived.RangeFuncFrom
import Derived.RangeFuncKeeps
import Derived.RangeFuncBound
import Derived.RangeFuncLeaves
import Derived.Below
import Derived.Shelf.Abstract
import Derived.Test.YtnoahchdmkpleaaGreatProg
import Derived.WalkKit
import Derived.OwnWalkIn
import Derived.TacticsInMore
import Derived.LoopNIn
import Derived.LoopIn
import Derived.RangeFuncBox
import Derived.RangeFuncCalls
import Derived.Test.YtnoahchdmkpleaaGreatM4
import Derived.Test.YtnoahchdmkpleaaGreatM5
import Derived.Test.YtnoahchdmkpleaaGreatM6
/-! Rj3 -/
namespace Go.Proofs.YtnoahchdmkpleaaGreat.VA
open Go Go.RowKit
attribute [local go_sem] Nat.add_eq_left Nat.left_eq_add true_and and_true ite_true if_false Int.cast_ofNat_Int eq_self Nat.add_assoc Option.some.injEq decide_true decide_false Bool.not_true Bool.not_false List.size_toArray List.length_cons List.length_nil
set_option linter.unusedSimpArgs false
set_option linter.unusedVariables false
set_option maxRecDepth 100000

theorem getG_hit {α κ : Type} [DecidableEq κ] {key : α → κ} {q : κ} {l : List α} {i : Nat} (hi : i < l.length) (h : (l.take i).all (fun b => !decide (key b = q)) = true) (hx : key l[i] = q) : getG key q l = some l[i] := by
 unfold getG
 rw [List.find?_eq_some_iff_getElem]
 refine ⟨by simpa using hx, i, hi, rfl, fun j hj => ?_⟩
 exact List.all_eq_true.1 h l[j] (by rw [List.mem_take_iff_getElem]; exact ⟨j, by omega, rfl⟩)
theorem getG_miss {α κ : Type} [DecidableEq κ] {key : α → κ} {q : κ} {l : List α} (h : l.all (fun b => !decide (key b = q)) = true) : getG key q l = none := by
 unfold getG
 rw [List.find?_eq_none]
 intro x hx
 have := List.all_eq_true.1 h x hx
 simpa using this
theorem z_get (s : Sh) (hl : s.fields.length ≤ LA) (q : ByteArray) (H : Heap) : calls Tryz.prog cfgZ 68 [.agg (encSh s), .lit (.string q)] H = some (.ret (.tup [.agg (encF ((getF q s.fields).getD fdZ)), .lit (.bool (getF q s.fields).isSome)]) H) := by
 refine calls_pure (fn := Tryz.f68) rfl rfl rfl rfl rfl ?_ H
 have rs : Tryz.f68.results.toList = [.cell 4 85, .tmp 5] := rfl
 have hLA : LA = 1000000000000 := rfl
 obtain ⟨fs, pr⟩ := s
 simp only at hl
 unfold encSh
 simp only [go_sem, simprocAttr, rs]
 refine W_loop_ind (fun k e H => ∃ i : Nat, k = fs.length - i ∧ i ≤ fs.length ∧ (fs.take i).all (fun b => !decide (b.nm = q)) = true ∧ H.get 0 = some [.sl .sh (fs.map encF), .sl .sh (encAs pr)] ∧ H.get 1 = some [.lit (.string ⟨#[]⟩), .lit (.bool false), .sl .nil []] ∧ 2 ≤ H.next ∧
   gget .bad e 1 = .lit (.string q) ∧ gget .bad e 2 = .ptr 0 0 ∧ gget .bad e 4 = .ptr 1 0 ∧ gget .bad e 6 = .lit (.int .i64 (i : Nat)))
  fs.length ⟨0, rfl, by omega, rfl, by simp only [go_sem, simprocAttr], by simp only [go_sem, simprocAttr], by simp only [go_sem, simprocAttr] <;> omega, by simp only [go_sem, simprocAttr], by simp only [go_sem, simprocAttr], by simp only [go_sem, simprocAttr], by simp only [go_sem, simprocAttr]⟩ ?_
 rintro k ih e H ⟨i, rfl, hle, hR, g0, g1, hnx, e1, e2, e4, e6⟩
 obtain ⟨m, hm⟩ : ∃ m, H.next = m + 2 := ⟨H.next - 2, by omega⟩
 by_cases hlt : i < fs.length
 ·have d1 : decide ((i : Int) < (fs.length : Nat)) = true := by simp; omega
  have hw := wrap1 (show i + 1 ≤ 9223372036854775807 by omega)
  have hI := iad_map (f := encF) (t := 85) (n := 3) (b := 48) (o := .sh) hlt (fun _ => rfl)
  have y1 : (encF fs[i]).length = 3 := rfl
  have y2 : (encF fs[i]).take 3 = encF fs[i] := rfl
  have y3 := F_one fs[i]
  have y4 : (encF fs[i])[0]? = some (.lit (.string fs[i].nm)) := rfl
  have y5 := sanL_encF fs[i]
  by_cases hx : fs[i].nm = q
  ·have dx : decide (fs[i].nm = q) = true := by simpa using hx
   rw [show getF q fs = some fs[i] from getG_hit hlt hR hx]
   simp only [go_sem, simprocAttr, rs, List.length_map, hm, d1, g0, g1, e1, e2, e4, e6, hI, y1, y2, y3, y4, y5, dx]
   rfl
  ·have dx : decide (fs[i].nm = q) = false := by simpa using hx
   simp only [go_sem, simprocAttr, rs, List.length_map, hm, d1, g0, g1, e1, e2, e4, e6, hI, y1, y2, y3, y4, y5, dx, hw]
   exact ih (fs.length - (i + 1)) (by omega) _ _ ⟨i + 1, rfl, by omega, by rw [List.take_succ_eq_append_getElem hlt, List.all_append, hR]; simp [hx], by simp only [go_sem, simprocAttr, g0], by simp only [go_sem, simprocAttr, g1], by simp only [go_sem, simprocAttr, hm] <;> omega, by simp only [go_sem, simprocAttr, e1], by simp only [go_sem, simprocAttr, e2], by simp only [go_sem, simprocAttr, e4], by simp only [go_sem, simprocAttr]⟩
 ·have d1 : decide ((i : Int) < (fs.length : Nat)) = false := by simp; omega
  rw [List.take_of_length_le (by omega)] at hR
  rw [show getF q fs = none from getG_miss hR]
  simp only [go_sem, simprocAttr, rs, List.length_map, hm, d1, g0, g1, e1, e2, e4, e6]
  rfl
theorem foldput_len (F : ByteArray → Fd) : ∀ (ns : List ByteArray) (out : List Fd), (ns.foldl (fun out n => putF (F n) out) out).length ≤ out.length + ns.length
 | [], out => by simp
 | n :: ns, out => by
  have h1 := foldput_len F ns (putF (F n) out)
  have h2 : (putF (F n) out).length ≤ out.length + 1 := putG_len
  simp only [List.foldl_cons, List.length_cons]
  omega
set_option maxHeartbeats 1600000 in
theorem z_oJoin (a b : Sh) (ha : a.fields.length ≤ 40 ∧ a.proto.length ≤ 40 ∧ ∀ f, f ∈ a.fields → f.vals.length ≤ 40) (hb : b.fields.length ≤ 40 ∧ b.proto.length ≤ 40 ∧ ∀ f, f ∈ b.fields → f.vals.length ≤ 40) (H : Heap) :
  calls Tryz.prog cfgZ 94 [.agg (encSh a), .agg (encSh b)] H = some (.ret (.agg (encSh (joinSh a b))) H) := by
 refine calls_pure (fn := Tryz.f94) rfl rfl rfl rfl rfl ?_ H
 have rs : Tryz.f94.results.toList = [.cell 4 79] := rfl
 have hLA : LA = 1000000000000 := rfl
 have oa : ShOk a := ⟨fun f hf => by have := ha.2.2 f hf; unfold FOk; omega, by omega, by omega⟩
 have ob : ShOk b := ⟨fun f hf => by have := hb.2.2 f hf; unfold FOk; omega, by omega, by omega⟩
 have e0 : sanL [AV.agg (encSh a), .agg (encSh b)] = [.agg (encSh a), .agg (encSh b)] := by simp only [sanL, san, sanL_encSh]
 have a1 : (encSh a).length = 2 := rfl
 have a2 : (encSh a).take 2 = encSh a := rfl
 have a3 : (encSh a).all AV.one = true := rfl
 have a4 : (encSh a)[0]? = some (.sl .sh (a.fields.map encF)) := rfl
 have a5 : (encSh a)[1]? = some (.sl .sh (encAs a.proto)) := rfl
 have b1 : (encSh b).length = 2 := rfl
 have b2 : (encSh b).take 2 = encSh b := rfl
 have b3 : (encSh b).all AV.one = true := rfl
 have b4 : (encSh b)[0]? = some (.sl .sh (b.fields.map encF)) := rfl
 have b5 : (encSh b)[1]? = some (.sl .sh (encAs b.proto)) := rfl
 have hma := fun H => z_mayS a oa H
 have hmb := fun H => z_mayS b ob H
 rw [e0]
 cases ma : mayS a with
 | false =>
  have hj : joinSh a b = ⟨[], []⟩ := by unfold joinSh; rw [if_neg (by rw [ma]; simp)]
  rw [ma] at hma
  rw [hj]
  simp only [go_sem, simprocAttr, rs, hma, hmb, a1, a2, a3, b1, b2, b3]
  rfl
 | true =>
  cases mb : mayS b with
  | false =>
   have hj : joinSh a b = ⟨[], []⟩ := by unfold joinSh; rw [if_neg (by rw [mb]; simp)]
   rw [ma] at hma
   rw [mb] at hmb
   rw [hj]
   simp only [go_sem, simprocAttr, rs, hma, hmb, a1, a2, a3, b1, b2, b3]
   rfl
  | true =>
   have ua : UpF a.fields := by unfold mayS at ma; rw [Bool.and_eq_true] at ma; exact (upF_may ma.1).2.1
   have ub : UpF b.fields := by unfold mayS at mb; rw [Bool.and_eq_true] at mb; exact (upF_may mb.1).2.1
   have na : ∀ f, f ∈ a.fields → normA f.vals = f.vals := by
    unfold mayS at ma; rw [Bool.and_eq_true] at ma
    exact fun f hf => mayA_eq ((upF_may ma.1).1 f hf)
   have hj : joinSh a b = ⟨joinR a.fields b.fields, normA (a.proto ++ b.proto)⟩ := by unfold joinSh; rw [if_pos ⟨ma, mb⟩, join_eq ua ub na]
   rw [ma] at hma
   rw [mb] at hmb
   have hun := fun H => z_union a.proto b.proto (by omega) .sh .sh H
   rw [hj]
   unfold joinR
   generalize hns : (a.fields ++ b.fields).map Fd.nm = ns
   have hnl : ns.length = a.fields.length + b.fields.length := by rw [← hns]; simp
   simp only [go_sem, simprocAttr, rs, hma, hmb, a1, a2, a3, a5, b1, b2, b3, b5, hun]
   refine W_loop_ind (fun k e H => ∃ (i : Nat) (o : Own), k = ns.length - i ∧ i ≤ ns.length ∧ H.get 0 = some (encSh a) ∧ H.get 1 = some (encSh b) ∧ H.get 2 = some [.sl .nil [], .sl .nil []] ∧
     H.get 17 = some [.sl o (((ns.take i).foldl (fun out n => putF (fldR a.fields b.fields n) out) []).map encF), .sl .sh (encAs (normA (a.proto ++ b.proto)))] ∧ 18 ≤ H.next ∧
     gget .bad e 2 = .ptr 0 0 ∧ gget .bad e 3 = .ptr 1 0 ∧ gget .bad e 4 = .ptr 2 0 ∧ gget .bad e 5 = .ptr 17 0 ∧ gget .bad e 6 = .lit (.int .i64 (i : Nat)))
    ns.length ⟨0, .nil, rfl, by omega, by simp only [go_sem, simprocAttr], by simp only [go_sem, simprocAttr], by simp only [go_sem, simprocAttr], by simp only [go_sem, simprocAttr]; rfl, by simp only [go_sem, simprocAttr] <;> omega, by simp only [go_sem, simprocAttr], by simp only [go_sem, simprocAttr], by simp only [go_sem, simprocAttr], by simp only [go_sem, simprocAttr], by simp only [go_sem, simprocAttr]⟩ ?_
   rintro k ih e H ⟨i, o, rfl, hle, g0, g1, g2, g17, hnx, e2, e3, e4, e5, e6⟩
   obtain ⟨m, hm⟩ : ∃ m, H.next = m + 18 := ⟨H.next - 18, by omega⟩
   have w1 : IntKind.wrap .i64 (((a.fields.length : Nat) : Int) + ((b.fields.length : Nat) : Int)) = ((ns.length : Nat) : Int) := by rw [hnl, wrapI ⟨by omega, by omega⟩]; omega
   obtain ⟨hup, hgp⟩ := fold_put (fldR a.fields b.fields) (fun _ => rfl) (ns.take i) [] List.Pairwise.nil
   have hal := foldput_len (fldR a.fields b.fields) (ns.take i) []
   rw [List.length_take, Nat.min_eq_left hle, List.length_nil] at hal
   by_cases hlt : i < ns.length
   ·have d1 : decide ((i : Int) < (ns.length : Nat)) = true := by simp; omega
    have hw := wrap1 (show i + 1 ≤ 9223372036854775807 by omega)
    have hsucc : (ns.take (i + 1)).foldl (fun out n => putF (fldR a.fields b.fields n) out) [] = putF (fldR a.fields b.fields ns[i]) ((ns.take i).foldl (fun out n => putF (fldR a.fields b.fields n) out) []) := by rw [List.take_succ_eq_append_getElem hlt, List.foldl_append]; rfl
    generalize hacc : (ns.take i).foldl (fun out n => putF (fldR a.fields b.fields n) out) [] = acc at *
    obtain ⟨q, hq⟩ : ∃ q, q = ns[i] := ⟨_, rfl⟩
    rw [← hq] at hsucc
    have hga := fun H => z_get a (by omega) q H
    have hgb := fun H => z_get b (by omega) q H
    have hfa : ((getF q a.fields).getD fdZ).vals.length ≤ 40 := by
     cases h : getF q a.fields with
     | none => simp [fdZ]
     | some f => exact ha.2.2 f (getF_nm h).2
    have hfb : ((getF q b.fields).getD fdZ).vals.length ≤ 40 := by
     cases h : getF q b.fields with
     | none => simp [fdZ]
     | some f => exact hb.2.2 f (getF_nm h).2
    have hfr : fldR a.fields b.fields q = ⟨q, ((getF q a.fields).isSome && (getF q b.fields).isSome) && (((getF q a.fields).getD fdZ).sure && ((getF q b.fields).getD fdZ).sure), normA (((getF q a.fields).getD fdZ).vals ++ ((getF q b.fields).getD fdZ).vals)⟩ := rfl
    generalize (getF q a.fields).getD fdZ = fa at hga hfa hfr
    generalize (getF q b.fields).getD fdZ = fb at hgb hfb hfr
    have hu2 := fun H => z_union fa.vals fb.vals (by omega) .sh .sh H
    have hwith := fun H => z_with ⟨acc, normA (a.proto ++ b.proto)⟩ (fldR a.fields b.fields q) (by show acc.length + 1 ≤ LA; omega) o H
    have hput : withG Fd.nm strLt (fldR a.fields b.fields q) false acc = putF (fldR a.fields b.fields q) acc := withG_put ordB hup
    simp only [hput] at hwith
    have n25 : True := trivial
    by_cases hla : i < a.fields.length
    ·have d2 : decide ((i : Int) < (a.fields.length : Nat)) = true := by simp; omega
     have hqa : q = a.fields[i].nm := by rw [hq]; simp only [← hns, List.map_append]; rw [List.getElem_append_left (by simpa using hla)]; simp
     have hI := iad_map (f := encF) (t := 85) (n := 3) (b := 48) (o := .sh) hla (fun _ => rfl)
     have y1 : (encF a.fields[i]).length = 3 := rfl
     have y4 : (encF a.fields[i])[0]? = some (.lit (.string q)) := by rw [hqa]; rfl
     cases hp : (getF q a.fields).isSome <;> cases hp2 : (getF q b.fields).isSome <;> cases hs : fa.sure
     all_goals rw [hp] at hga hfr
     all_goals rw [hp2] at hgb hfr
     all_goals
      have x1 : encF fa = [.lit (.string fa.nm), .lit (.bool fa.sure), .sl .sh (encAs fa.vals)] := rfl
      have x2 : encF fb = [.lit (.string fb.nm), .lit (.bool fb.sure), .sl .sh (encAs fb.vals)] := rfl
      rw [hs] at x1 hfr
      rw [x1] at hga
      rw [x2] at hgb
      simp only [Bool.true_and, Bool.false_and] at hfr
      rw [hfr] at hwith hsucc
      simp only [encF, encSh] at hwith
      simp only [go_sem, simprocAttr, rs, List.length_map, hm, d1, d2, w1, g0, g1, g2, g17, e2, e3, e4, e5, e6, a1, a2, a3, a4, b1, b2, b3, b4, hI, y1, y4, hga, hgb]
      refine W_draw [(0, 8), (0, 12), (0, 15), (8, 15), (12, 15), (0, 17), (8, 17), (12, 17), (15, 17), (0, 18), (12, 18)] (by kernel_rfl) ?_
      have r1 : ¬ m + 46 = m + 55 := by omega
      have r2 : ¬ m + 55 = m + 46 := by omega
      have r3 : ∀ k, k < 18 → ¬ m + 46 = k := fun k hk => by omega
      have r4 : ∀ k, k < 18 → ¬ m + 55 = k := fun k hk => by omega
      have r5 := r3 17 (by omega)
      have r6 := r4 17 (by omega)
      simp only [go_sem, simprocAttr, rs, List.length_map, hm, d1, d2, w1, g0, g1, g2, g17, e2, e3, e4, e5, e6, a1, a2, a3, a4, b1, b2, b3, b4, hI, y1, y4, hga, hgb, r1, r2, r5, r6, hu2, hwith, hw]
      exact ih (ns.length - (i + 1)) (by omega) _ _ ⟨i + 1, .sh, rfl, by omega, by simp only [go_sem, simprocAttr, r3 0 (by omega), r4 0 (by omega), g0], by simp only [go_sem, simprocAttr, r3 1 (by omega), r4 1 (by omega), g1], by simp only [go_sem, simprocAttr, r3 2 (by omega), r4 2 (by omega), g2],
       by rw [hsucc]; simp only [go_sem, simprocAttr], by simp only [go_sem, simprocAttr, hm] <;> omega, by simp only [go_sem, simprocAttr, e2], by simp only [go_sem, simprocAttr, e3], by simp only [go_sem, simprocAttr, e4], by simp only [go_sem, simprocAttr, e5], by simp only [go_sem, simprocAttr]⟩
    ·have d2 : decide ((i : Int) < (a.fields.length : Nat)) = false := by simp; omega
     have hlb : i - a.fields.length < b.fields.length := by omega
     have hqa : q = b.fields[i - a.fields.length].nm := by rw [hq]; simp only [← hns, List.map_append]; rw [List.getElem_append_right (by simpa using hla)]; simp
     have hI := iad_map (f := encF) (t := 85) (n := 3) (b := 48) (o := .sh) hlb (fun _ => rfl)
     have y1 : (encF b.fields[i - a.fields.length]).length = 3 := rfl
     have y4 : (encF b.fields[i - a.fields.length])[0]? = some (.lit (.string q)) := by rw [hqa]; rfl
     have w2 : IntKind.wrap .i64 ((i : Int) - ((a.fields.length : Nat) : Int)) = ((i - a.fields.length : Nat) : Int) := by rw [wrapI ⟨by omega, by omega⟩]; omega
     cases hp : (getF q a.fields).isSome <;> cases hp2 : (getF q b.fields).isSome <;> cases hs : fa.sure
     all_goals rw [hp] at hga hfr
     all_goals rw [hp2] at hgb hfr
     all_goals
      have x1 : encF fa = [.lit (.string fa.nm), .lit (.bool fa.sure), .sl .sh (encAs fa.vals)] := rfl
      have x2 : encF fb = [.lit (.string fb.nm), .lit (.bool fb.sure), .sl .sh (encAs fb.vals)] := rfl
      rw [hs] at x1 hfr
      rw [x1] at hga
      rw [x2] at hgb
      simp only [Bool.true_and, Bool.false_and] at hfr
      rw [hfr] at hwith hsucc
      simp only [encF, encSh] at hwith
      simp only [go_sem, simprocAttr, rs, List.length_map, hm, d1, d2, w1, w2, g0, g1, g2, g17, e2, e3, e4, e5, e6, a1, a2, a3, a4, b1, b2, b3, b4, hI, y1, y4, hga, hgb]
      refine W_draw [(0, 8), (0, 12), (0, 15), (8, 15), (12, 15), (0, 17), (8, 17), (12, 17), (15, 17), (0, 18), (12, 18)] (by kernel_rfl) ?_
      have r1 : ¬ m + 49 = m + 58 := by omega
      have r2 : ¬ m + 58 = m + 49 := by omega
      have r3 : ∀ k, k < 18 → ¬ m + 49 = k := fun k hk => by omega
      have r4 : ∀ k, k < 18 → ¬ m + 58 = k := fun k hk => by omega
      have r5 := r3 17 (by omega)
      have r6 := r4 17 (by omega)
      simp only [go_sem, simprocAttr, rs, List.length_map, hm, d1, d2, w1, w2, g0, g1, g2, g17, e2, e3, e4, e5, e6, a1, a2, a3, a4, b1, b2, b3, b4, hI, y1, y4, hga, hgb, r1, r2, r5, r6, hu2, hwith, hw]
      exact ih (ns.length - (i + 1)) (by omega) _ _ ⟨i + 1, .sh, rfl, by omega, by simp only [go_sem, simprocAttr, r3 0 (by omega), r4 0 (by omega), g0], by simp only [go_sem, simprocAttr, r3 1 (by omega), r4 1 (by omega), g1], by simp only [go_sem, simprocAttr, r3 2 (by omega), r4 2 (by omega), g2],
       by rw [hsucc]; simp only [go_sem, simprocAttr], by simp only [go_sem, simprocAttr, hm] <;> omega, by simp only [go_sem, simprocAttr, e2], by simp only [go_sem, simprocAttr, e3], by simp only [go_sem, simprocAttr, e4], by simp only [go_sem, simprocAttr, e5], by simp only [go_sem, simprocAttr]⟩
   ·have d1 : decide ((i : Int) < (ns.length : Nat)) = false := by simp; omega
    have hi : i = ns.length := by omega
    subst hi
    rw [List.take_length] at g17
    simp only [go_sem, simprocAttr, rs, List.length_map, hm, d1, w1, g0, g1, g2, g17, e2, e3, e4, e5, e6, a1, a2, a3, a4, b1, b2, b3, b4]
    rfl
end Go.Proofs.YtnoahchdmkpleaaGreat.VA

/-! Rj4 -/
namespace Go.Proofs.YtnoahchdmkpleaaGreat.VA
open Go Go.RowKit
attribute [local go_sem] Nat.add_eq_left Nat.left_eq_add true_and and_true ite_true if_false Int.cast_ofNat_Int eq_self Nat.add_assoc Option.some.injEq decide_true decide_false Bool.not_true Bool.not_false List.size_toArray List.length_cons List.length_nil
set_option linter.unusedSimpArgs false
set_option linter.unusedVariables false
set_option maxRecDepth 100000

theorem z_set (s : Sta) (hs : StOk s) (hm0 : mayT s = true) (hd0 : s.dead = false) (q : ByteArray) (d : List (Int × Int)) (hd : d.length + 1 ≤ LA) (o : Own) (H : Heap) :
  calls Tryz.prog cfgZ 92 [.agg (encSt s), .lit (.string q), .sl o (encAs d)] H = some (.ret (.agg (encSt ⟨false, withG Bnd.nm strLt ⟨q, normA d⟩ false s.vars, s.locs⟩)) H) := by
 refine calls_frz (fn := Tryz.f92) rfl rfl rfl rfl rfl ?_ H
 have rs : Tryz.f92.results.toList = [.cell 6 26] := rfl
 have hLA : LA = 1000000000000 := rfl
 have hma := fun H => z_mayT s hs H
 have hnd := fun H => z_norm d hd .sh H
 rw [hm0] at hma
 obtain ⟨dd, vs, ls⟩ := s
 simp only at hd0
 subst hd0
 have hvl : vs.length ≤ LA := hs.2.1
 unfold encSt at hma ⊢
 simp only [go_sem, simprocAttr, rs, hma, hnd]
 have e16 : [AV.lit (.string q), .sl .sh (encAs (normA d))] = encB ⟨q, normA d⟩ := rfl
 rw [e16]
 generalize hx : (⟨q, normA d⟩ : Bnd) = x
 have hqn : q = Bnd.nm x := by rw [← hx]
 have ap : ∀ (acc : List Bnd) (g : Bnd) (A : AV) (H H' : Heap), acc.length ≤ 2 * LA → ArrOf H 20 A 2 (acc.map encB) → arrGet A H' = arrGet A H → ∀ id, aAppend Tryz.prog 23 A (.sl .ex [encB g]) H' id = some (.ar id 0 (acc.length + 1) 2, arrUs A id ((acc ++ [g]).map encB).flatten, arrRs A) := by
  intro acc g A H H' hal hA hg id
  have := app_arr (P := Tryz.prog) (x := encB g) (o := .ex) el_sBnd rfl (by decide) zo_sBnd (by rw [List.length_map]; omega) (by rw [List.length_map]; omega) rfl rfl (B_unif _) hA id hg
  rw [List.length_map] at this
  rw [this, List.map_append]; rfl
 have bsF : ∀ g : Bnd, aBuildSlice Tryz.prog 23 1 [(0, .agg (encB g))] = some (.sl .ex [encB g]) := fun g => build1 el_sBnd (by decide) zr_bind rfl rfl _ rfl rfl
 refine W_loop_ind (fun k e H => ∃ (i : Nat) (A : AV) (acc : List Bnd) (laid : Bool), k = vs.length - i ∧ i ≤ vs.length ∧ acc ++ withG Bnd.nm strLt x laid (vs.drop i) = withG Bnd.nm strLt x false vs ∧ acc.length ≤ 2 * i ∧
   H.get 0 = some [.lit (.bool false), .sl .sh (vs.map encB), .sl .sh (ls.map encL)] ∧ H.get 1 = some [.lit (.bool false), .sl .nil [], .sl .nil []] ∧ H.get 10 = some [.lit (.bool false), A, .sl .sh (ls.map encL)] ∧ H.get 16 = some (encB x) ∧ 20 ≤ H.next ∧ ArrOf H 20 A 2 (acc.map encB) ∧ gget .bad e 1 = .lit (.string (Bnd.nm x)) ∧ gget .bad e 3 = .ptr 0 0 ∧ gget .bad e 6 = .ptr 1 0 ∧ gget .bad e 7 = .ptr 10 0 ∧ gget .bad e 8 = .ptr 16 0 ∧ gget .bad e 9 = .lit (.bool laid) ∧ gget .bad e 10 = .lit (.int .i64 (i : Nat)))
  vs.length ⟨0, .sl .nil [], [], false, rfl, by omega, rfl, by simp, by simp only [go_sem, simprocAttr], by simp only [go_sem, simprocAttr], by simp only [go_sem, simprocAttr], by simp only [go_sem, simprocAttr], by simp only [go_sem, simprocAttr] <;> omega, .inl ⟨rfl, rfl⟩, by simp only [go_sem, simprocAttr, hqn], by simp only [go_sem, simprocAttr], by simp only [go_sem, simprocAttr], by simp only [go_sem, simprocAttr], by simp only [go_sem, simprocAttr], by simp only [go_sem, simprocAttr], by simp only [go_sem, simprocAttr]⟩ ?_
 rintro k ih e H ⟨i, A, acc, laid, rfl, hle, hR, hal, g0, g1, g10, g16, hnx, hA, e1, e3, e6, e7, e8, e9, e10⟩
 obtain ⟨m, hm⟩ : ∃ m, H.next = m + 20 := ⟨H.next - 20, by omega⟩
 have hA1 := hA.one
 by_cases hlt : i < vs.length
 ·have d1 : decide ((i : Int) < (vs.length : Nat)) = true := by simp; omega
  have hw := wrap1 (show i + 1 ≤ 9223372036854775807 by omega)
  have hI := iad_map (f := encB) (t := 76) (n := 2) (b := 40) (o := .sh) hlt (fun _ => rfl)
  rw [withG_drop hlt] at hR
  generalize hy : vs[i] = y at hI hR
  have x1 : (encB x).length = 2 := rfl
  have x2 : (encB x).take 2 = encB x := rfl
  have x3 : (encB x).all AV.one = true := rfl
  have y1 : (encB y).length = 2 := rfl
  have y2 : (encB y).take 2 = encB y := rfl
  have y3 : (encB y).all AV.one = true := rfl
  have y4 : (encB y)[0]? = some (.lit (.string (Bnd.nm y))) := rfl
  have ap1 := fun (H' : Heap) (id : Nat) (hg : arrGet A H' = arrGet A H) => ap acc x A H H' (by omega) hA hg id
  cases laid with
  | false =>
   cases hlt3 : strLt (Bnd.nm y) (Bnd.nm x) with
   | false =>
    rw [hlt3] at hR
    have hgk : ∀ k, k < 20 → ∀ (H' : Heap) (cs : List AV), (appU H' (arrUs A (m + 41) cs)).get k = H'.get k := fun k hk H' cs => arrUs_get (by omega) (hA.no (by omega))
    have hgO := hgk 10 (by omega)
    have nbh : ¬ 10 = m + 41 := by omega
    have hgc0 := hgk 0 (by omega)
    have hgc1 := hgk 1 (by omega)
    have hgc10 := hgk 10 (by omega)
    have hgc16 := hgk 16 (by omega)
    obtain ⟨HX, hHX⟩ : ∃ HX, HX = ((appU (((H.up 5).up 12).up 7) (arrUs A (m + 41) ((acc ++ [x]).map encB).flatten)).put 10 [.lit (.bool false), .ar (m + 41) 0 (acc.length + 1) 2, .sl .sh (ls.map encL)]) := ⟨_, rfl⟩
    have h0 : HX.get 0 = some [.lit (.bool false), .sl .sh (vs.map encB), .sl .sh (ls.map encL)] := by rw [hHX]; simp only [go_sem, simprocAttr, hgk 0 (by omega), g0]
    have h1 : HX.get 1 = some [.lit (.bool false), .sl .nil [], .sl .nil []] := by rw [hHX]; simp only [go_sem, simprocAttr, hgk 1 (by omega), g1]
    have h10 : HX.get 10 = some [.lit (.bool false), (.ar (m + 41) 0 (acc.length + 1) 2), .sl .sh (ls.map encL)] := by rw [hHX]; simp only [go_sem, simprocAttr]
    have h16 : HX.get 16 = some (encB x) := by rw [hHX]; simp only [go_sem, simprocAttr, hgk 16 (by omega), g16]
    have hXn : HX.next = m + 44 := by rw [hHX]; simp only [go_sem, simprocAttr, hm]
    have hXA : ArrOf HX 20 (.ar (m + 41) 0 (acc.length + 1) 2) 2 ((acc ++ [x]).map encB) := .inr ⟨m + 41, by simp, by simp, by rw [hHX]; simp only [go_sem, simprocAttr, arrUs_new, nbh], by omega, by rw [hXn]; omega⟩
    by_cases hq : Bnd.nm y = Bnd.nm x
    ·have dq : decide (Bnd.nm y = Bnd.nm x) = true := by simpa using hq
     simp only [hq, if_true, List.nil_append] at hR
     simp only [go_sem, simprocAttr, rs, List.length_map, hm, d1, g0, g1, g10, g16, e1, e3, e6, e7, e8, e9, e10, hI, x1, x2, x3, y1, y2, y3, y4, hlt3, bsF, ap1, hgO, hgc0, hgc1, hgc10, hgc16, dq, hw]
     rw [← hHX]
     clear hHX
     exact ih (vs.length - (i + 1)) (by omega) _ _ ⟨i + 1, (.ar (m + 41) 0 (acc.length + 1) 2), acc ++ [x], true, rfl, by omega, by simpa using hR, by first | omega | (simp; omega), by simp only [go_sem, simprocAttr, h0], by simp only [go_sem, simprocAttr, h1], by simp only [go_sem, simprocAttr, h10], by simp only [go_sem, simprocAttr, h16], by simp only [go_sem, simprocAttr, hXn] <;> omega,
      by repeat (first | exact hXA | refine ArrOf.of (H := _) ?_ (Nat.le_add_right _ _) (fun _ _ _ => rfl)), by simp only [go_sem, simprocAttr, e1], by simp only [go_sem, simprocAttr, e3], by simp only [go_sem, simprocAttr, e6], by simp only [go_sem, simprocAttr, e7], by simp only [go_sem, simprocAttr, e8], by simp only [go_sem, simprocAttr, e9], by simp only [go_sem, simprocAttr]⟩
    ·have dq : decide (Bnd.nm y = Bnd.nm x) = false := by simpa using hq
     simp only [hq, if_false] at hR
     simp only [go_sem, simprocAttr, rs, List.length_map, hm, d1, g0, g1, g10, g16, e1, e3, e6, e7, e8, e9, e10, hI, x1, x2, x3, y1, y2, y3, y4, hlt3, bsF, ap1, hgO, hgc0, hgc1, hgc10, hgc16, dq]
     rw [← hHX]
     clear hHX
     refine W_draw [(1, 3), (1, 6)] (by kernel_rfl) ?_
     have ap2 := fun (H' : Heap) (id : Nat) (hg : arrGet (.ar (m + 41) 0 (acc.length + 1) 2) H' = arrGet (.ar (m + 41) 0 (acc.length + 1) 2) HX) => ap (acc ++ [x]) y (.ar (m + 41) 0 (acc.length + 1) 2) HX H' (by first | omega | (simp; omega)) hXA hg id
     have hgk : ∀ k, k < 20 → ∀ (H' : Heap) (cs : List AV), (appU H' (arrUs (.ar (m + 41) 0 (acc.length + 1) 2) (m + 61) cs)).get k = H'.get k := fun k hk H' cs => arrUs_get (by omega) (hXA.no (by omega))
     have hg0 := hgk 0 (by omega)
     have hg1 := hgk 1 (by omega)
     have hg10 := hgk 10 (by omega)
     have hg16 := hgk 16 (by omega)
     have nO : arrNo (.ar (m + 41) 0 (acc.length + 1) 2) 10 := hXA.no (by omega)
     have nb : ¬ 10 = m + 61 := by omega
     simp only [go_sem, simprocAttr, rs, List.length_map, hXn, h0, h1, h10, h16, e1, e3, e6, e7, e8, e9, e10, hI, x1, x2, x3, y1, y2, y3, y4, dq, hw, bsF, ap2, hg10, nO]
     refine ih (vs.length - (i + 1)) (by omega) _ _ ⟨i + 1, .ar (m + 61) 0 ((acc ++ [x]).length + 1) 2, acc ++ [x] ++ [y], true, rfl, by omega, by simpa using hR, by first | omega | (simp; omega), by simp only [go_sem, simprocAttr, hg0, h0], by simp only [go_sem, simprocAttr, hg1, h1], by simp only [go_sem, simprocAttr], by simp only [go_sem, simprocAttr, hg16, h16], by simp only [go_sem, simprocAttr, hXn] <;> omega,
      .inr ⟨m + 61, by simp, by simp, by simp only [go_sem, simprocAttr, arrUs_new, nb], by omega, by simp only [go_sem, simprocAttr, hXn] <;> omega⟩, by simp only [go_sem, simprocAttr, e1], by simp only [go_sem, simprocAttr, e3], by simp only [go_sem, simprocAttr, e6], by simp only [go_sem, simprocAttr, e7], by simp only [go_sem, simprocAttr, e8], by simp only [go_sem, simprocAttr, e9], by simp only [go_sem, simprocAttr]⟩
   | true =>
    rw [hlt3] at hR
    have h0 := g0
    have h1 := g1
    have h10 := g10
    have h16 := g16
    have hXA := hA
    by_cases hq : Bnd.nm y = Bnd.nm x
    ·have dq : decide (Bnd.nm y = Bnd.nm x) = true := by simpa using hq
     simp only [hq, if_true, List.nil_append] at hR
     simp only [go_sem, simprocAttr, rs, List.length_map, hm, d1, hlt3, h0, h1, h10, h16, e1, e3, e6, e7, e8, e9, e10, hI, x1, x2, x3, y1, y2, y3, y4, dq, hw]
     exact ih (vs.length - (i + 1)) (by omega) _ _ ⟨i + 1, A, acc, false, rfl, by omega, by simpa using hR, by first | omega | (simp; omega), by simp only [go_sem, simprocAttr, h0], by simp only [go_sem, simprocAttr, h1], by simp only [go_sem, simprocAttr, h10], by simp only [go_sem, simprocAttr, h16], by simp only [go_sem, simprocAttr, hm] <;> omega,
      by repeat (first | exact hXA | refine ArrOf.of (H := _) ?_ (Nat.le_add_right _ _) (fun _ _ _ => rfl)), by simp only [go_sem, simprocAttr, e1], by simp only [go_sem, simprocAttr, e3], by simp only [go_sem, simprocAttr, e6], by simp only [go_sem, simprocAttr, e7], by simp only [go_sem, simprocAttr, e8], by simp only [go_sem, simprocAttr, e9], by simp only [go_sem, simprocAttr]⟩
    ·have dq : decide (Bnd.nm y = Bnd.nm x) = false := by simpa using hq
     simp only [hq, if_false] at hR
     simp only [go_sem, simprocAttr, rs, List.length_map, hm, d1, hlt3, h0, h1, h10, h16, e1, e3, e6, e7, e8, e9, e10, hI, x1, x2, x3, y1, y2, y3, y4, dq]
     refine W_draw [(1, 3), (1, 6)] (by kernel_rfl) ?_
     have ap2 := fun (H' : Heap) (id : Nat) (hg : arrGet A H' = arrGet A H) => ap (acc) y A H H' (by first | omega | (simp; omega)) hXA hg id
     have hgk : ∀ k, k < 20 → ∀ (H' : Heap) (cs : List AV), (appU H' (arrUs A (m + 53) cs)).get k = H'.get k := fun k hk H' cs => arrUs_get (by omega) (hXA.no (by omega))
     have hg0 := hgk 0 (by omega)
     have hg1 := hgk 1 (by omega)
     have hg10 := hgk 10 (by omega)
     have hg16 := hgk 16 (by omega)
     have nO : arrNo A 10 := hXA.no (by omega)
     have nb : ¬ 10 = m + 53 := by omega
     simp only [go_sem, simprocAttr, rs, List.length_map, hm, d1, hlt3, h0, h1, h10, h16, e1, e3, e6, e7, e8, e9, e10, hI, x1, x2, x3, y1, y2, y3, y4, dq, hw, bsF, ap2, hg10, nO]
     refine ih (vs.length - (i + 1)) (by omega) _ _ ⟨i + 1, .ar (m + 53) 0 ((acc).length + 1) 2, acc ++ [y], false, rfl, by omega, by simpa using hR, by first | omega | (simp; omega), by simp only [go_sem, simprocAttr, hg0, h0], by simp only [go_sem, simprocAttr, hg1, h1], by simp only [go_sem, simprocAttr], by simp only [go_sem, simprocAttr, hg16, h16], by simp only [go_sem, simprocAttr, hm] <;> omega,
      .inr ⟨m + 53, by simp, by simp, by simp only [go_sem, simprocAttr, arrUs_new, nb], by omega, by simp only [go_sem, simprocAttr, hm] <;> omega⟩, by simp only [go_sem, simprocAttr, e1], by simp only [go_sem, simprocAttr, e3], by simp only [go_sem, simprocAttr, e6], by simp only [go_sem, simprocAttr, e7], by simp only [go_sem, simprocAttr, e8], by simp only [go_sem, simprocAttr, e9], by simp only [go_sem, simprocAttr]⟩
  | true =>
   have h0 := g0
   have h1 := g1
   have h10 := g10
   have h16 := g16
   have hXA := hA
   by_cases hq : Bnd.nm y = Bnd.nm x
   ·have dq : decide (Bnd.nm y = Bnd.nm x) = true := by simpa using hq
    simp only [hq, if_true, List.nil_append] at hR
    simp only [go_sem, simprocAttr, rs, List.length_map, hm, d1, h0, h1, h10, h16, e1, e3, e6, e7, e8, e9, e10, hI, x1, x2, x3, y1, y2, y3, y4, dq, hw]
    exact ih (vs.length - (i + 1)) (by omega) _ _ ⟨i + 1, A, acc, true, rfl, by omega, by simpa using hR, by first | omega | (simp; omega), by simp only [go_sem, simprocAttr, h0], by simp only [go_sem, simprocAttr, h1], by simp only [go_sem, simprocAttr, h10], by simp only [go_sem, simprocAttr, h16], by simp only [go_sem, simprocAttr, hm] <;> omega,
     by repeat (first | exact hXA | refine ArrOf.of (H := _) ?_ (Nat.le_add_right _ _) (fun _ _ _ => rfl)), by simp only [go_sem, simprocAttr, e1], by simp only [go_sem, simprocAttr, e3], by simp only [go_sem, simprocAttr, e6], by simp only [go_sem, simprocAttr, e7], by simp only [go_sem, simprocAttr, e8], by simp only [go_sem, simprocAttr, e9], by simp only [go_sem, simprocAttr]⟩
   ·have dq : decide (Bnd.nm y = Bnd.nm x) = false := by simpa using hq
    simp only [hq, if_false] at hR
    simp only [go_sem, simprocAttr, rs, List.length_map, hm, d1, h0, h1, h10, h16, e1, e3, e6, e7, e8, e9, e10, hI, x1, x2, x3, y1, y2, y3, y4, dq]
    refine W_draw [(1, 3), (1, 6)] (by kernel_rfl) ?_
    have ap2 := fun (H' : Heap) (id : Nat) (hg : arrGet A H' = arrGet A H) => ap (acc) y A H H' (by first | omega | (simp; omega)) hXA hg id
    have hgk : ∀ k, k < 20 → ∀ (H' : Heap) (cs : List AV), (appU H' (arrUs A (m + 53) cs)).get k = H'.get k := fun k hk H' cs => arrUs_get (by omega) (hXA.no (by omega))
    have hg0 := hgk 0 (by omega)
    have hg1 := hgk 1 (by omega)
    have hg10 := hgk 10 (by omega)
    have hg16 := hgk 16 (by omega)
    have nO : arrNo A 10 := hXA.no (by omega)
    have nb : ¬ 10 = m + 53 := by omega
    simp only [go_sem, simprocAttr, rs, List.length_map, hm, d1, h0, h1, h10, h16, e1, e3, e6, e7, e8, e9, e10, hI, x1, x2, x3, y1, y2, y3, y4, dq, hw, bsF, ap2, hg10, nO]
    refine ih (vs.length - (i + 1)) (by omega) _ _ ⟨i + 1, .ar (m + 53) 0 ((acc).length + 1) 2, acc ++ [y], true, rfl, by omega, by simpa using hR, by first | omega | (simp; omega), by simp only [go_sem, simprocAttr, hg0, h0], by simp only [go_sem, simprocAttr, hg1, h1], by simp only [go_sem, simprocAttr], by simp only [go_sem, simprocAttr, hg16, h16], by simp only [go_sem, simprocAttr, hm] <;> omega,
     .inr ⟨m + 53, by simp, by simp, by simp only [go_sem, simprocAttr, arrUs_new, nb], by omega, by simp only [go_sem, simprocAttr, hm] <;> omega⟩, by simp only [go_sem, simprocAttr, e1], by simp only [go_sem, simprocAttr, e3], by simp only [go_sem, simprocAttr, e6], by simp only [go_sem, simprocAttr, e7], by simp only [go_sem, simprocAttr, e8], by simp only [go_sem, simprocAttr, e9], by simp only [go_sem, simprocAttr]⟩
 ·have d1 : decide ((i : Int) < (vs.length : Nat)) = false := by simp; omega
  rw [List.drop_of_length_le (by omega)] at hR
  have ap1 := fun (H' : Heap) (id : Nat) (hg : arrGet A H' = arrGet A H) => ap acc x A H H' (by omega) hA hg id
  have x1 : (encB x).length = 2 := rfl
  have x2 : (encB x).take 2 = encB x := rfl
  have x3 : (encB x).all AV.one = true := rfl
  cases laid with
  | true =>
   have hR' : acc = withG Bnd.nm strLt x false vs := by rw [← hR]; simp [withG]
   rw [← hR']
   simp only [go_sem, simprocAttr, rs, List.length_map, hm, d1, g0, g1, g10, g16, e1, e3, e6, e7, e8, e9, e10, hA1]
   refine ⟨_, rfl, ?_⟩
   generalize hHF : Heap.put _ 1 _ = HF
   have hfr := frz_arr (H' := HF) (hA.of (H' := HF) (by rw [← hHF]; simp only [go_sem, simprocAttr] <;> omega) (fun k h1 h2 => by rw [← hHF, Heap.get_put, if_neg (by omega)]; rfl)) (B_unif acc) (B_ones acc)
   rw [sanLL_B] at hfr
   exact frz_three rfl hfr (by show san (.sl .sh (ls.map encL)) = _; simp only [san, sanLL_L])
  | false =>
   have hR' : acc ++ [x] = withG Bnd.nm strLt x false vs := by rw [← hR]; simp [withG]
   rw [← hR']
   have hgk : ∀ k, k < 20 → ∀ (H' : Heap) (cs : List AV), (appU H' (arrUs A (m + 31) cs)).get k = H'.get k := fun k hk H' cs => arrUs_get (by omega) (hA.no (by omega))
   have hg0 := hgk 0 (by omega)
   have hg1 := hgk 1 (by omega)
   have hg10 := hgk 10 (by omega)
   have hg16 := hgk 16 (by omega)
   have nb1 : ¬ 10 = m + 31 := by omega
   have nb2 : ¬ 1 = m + 31 := by omega
   simp only [go_sem, simprocAttr, rs, List.length_map, hm, d1, g0, g1, g10, g16, e1, e3, e6, e7, e8, e9, e10, x1, x2, x3, hA1, bsF, ap1, hg1, hg10, hg16]
   refine ⟨_, rfl, ?_⟩
   generalize hHF : Heap.put _ 1 _ = HF
   have hfr := frz_arr (H' := HF) (lo := 20) (sz := 2) (A := .ar (m + 31) 0 (acc.length + 1) 2) (es := (acc ++ [x]).map encB) (.inr ⟨m + 31, by simp, by simp, by rw [← hHF]; simp only [go_sem, simprocAttr, arrUs_new, nb1, nb2], by omega, by rw [← hHF]; simp only [go_sem, simprocAttr, hm] <;> omega⟩) (B_unif _) (B_ones _)
   rw [sanLL_B] at hfr
   exact frz_three rfl hfr (by show san (.sl .sh (ls.map encL)) = _; simp only [san, sanLL_L])
end Go.Proofs.YtnoahchdmkpleaaGreat.VA

/-! Rj5 -/
namespace Go.Proofs.YtnoahchdmkpleaaGreat.VA
open Go Go.RowKit
attribute [local go_sem] Nat.add_eq_left Nat.left_eq_add true_and and_true ite_true if_false Int.cast_ofNat_Int eq_self Nat.add_assoc Option.some.injEq decide_true decide_false Bool.not_true Bool.not_false List.size_toArray List.length_cons List.length_nil
set_option linter.unusedSimpArgs false
set_option linter.unusedVariables false
set_option maxRecDepth 100000

theorem z_put (s : Sta) (hs : StOk s) (hm0 : mayT s = true) (hd0 : s.dead = false) (q : Int × Int) (o : Sh) (ho : ShOk o) (hq0 : placeA q = true) (ho0 : mayS o = true) (H : Heap) :
  calls Tryz.prog cfgZ 95 [.agg (encSt s), .agg (avA q), .agg (encSh o)] H = some (.ret (.agg (encSt ⟨false, s.vars, withG Lc.atom ltA ⟨q, o⟩ false s.locs⟩)) H) := by
 refine calls_frz (fn := Tryz.f95) rfl rfl rfl rfl rfl ?_ H
 have rs : Tryz.f95.results.toList = [.cell 6 26] := rfl
 have hLA : LA = 1000000000000 := rfl
 have hma := fun H => z_mayT s hs H
 have hmo := fun H => z_mayS o ho H
 have hpl := fun H => z_place q H
 rw [hm0] at hma
 rw [ho0] at hmo
 rw [hq0] at hpl
 obtain ⟨dd, ws, vs⟩ := s
 simp only at hd0
 subst hd0
 have hvl : vs.length ≤ LA := hs.2.2.2
 have hqx : avA q = [.lit (.int .i64 q.1), .lit (.int .i64 q.2)] := rfl
 have hox : encSh o = [.sl .sh (o.fields.map encF), .sl .sh (encAs o.proto)] := rfl
 rw [hqx] at hpl ⊢
 rw [hox] at hmo ⊢
 unfold encSt at hma ⊢
 simp only [go_sem, simprocAttr, rs, hma, hmo, hpl]
 have e16 : [AV.lit (.int .i64 q.1), .lit (.int .i64 q.2), .sl .sh (o.fields.map encF), .sl .sh (encAs o.proto)] = encL ⟨q, o⟩ := rfl
 have eq1 : [AV.lit (.int .i64 q.1), .lit (.int .i64 q.2)] = avA (Lc.atom ⟨q, o⟩) := rfl
 rw [e16]
 rw [eq1]
 generalize hx : (⟨q, o⟩ : Lc) = x
 have ap : ∀ (acc : List Lc) (g : Lc) (A : AV) (H H' : Heap), acc.length ≤ 2 * LA → ArrOf H 31 A 4 (acc.map encL) → arrGet A H' = arrGet A H → ∀ id, aAppend Tryz.prog 24 A (.sl .ex [encL g]) H' id = some (.ar id 0 (acc.length + 1) 4, arrUs A id ((acc ++ [g]).map encL).flatten, arrRs A) := by
  intro acc g A H H' hal hA hg id
  have := app_arr (P := Tryz.prog) (x := encL g) (o := .ex) el_sLoc rfl (by decide) zo_sLoc (by rw [List.length_map]; omega) (by rw [List.length_map]; omega) rfl rfl (L_unif _) hA id hg
  rw [List.length_map] at this
  rw [this, List.map_append]; rfl
 have bsF : ∀ g : Lc, aBuildSlice Tryz.prog 24 1 [(0, .agg (encL g))] = some (.sl .ex [encL g]) := fun g => build1 el_sLoc (by decide) zr_loc rfl rfl _ rfl rfl
 refine W_loop_ind (fun k e H => ∃ (i : Nat) (A : AV) (acc : List Lc) (laid : Bool), k = vs.length - i ∧ i ≤ vs.length ∧ acc ++ withG Lc.atom ltA x laid (vs.drop i) = withG Lc.atom ltA x false vs ∧ acc.length ≤ 2 * i ∧
   H.get 0 = some [.lit (.bool false), .sl .sh (ws.map encB), .sl .sh (vs.map encL)] ∧ H.get 1 = some (avA (Lc.atom x)) ∧ H.get 3 = some [.lit (.bool false), .sl .nil [], .sl .nil []] ∧ H.get 22 = some [.lit (.bool false), .sl .sh (ws.map encB), A] ∧ H.get 27 = some (encL x) ∧ 31 ≤ H.next ∧ ArrOf H 31 A 4 (acc.map encL) ∧ gget .bad e 3 = .ptr 0 0 ∧ gget .bad e 4 = .ptr 1 0 ∧ gget .bad e 6 = .ptr 3 0 ∧ gget .bad e 7 = .ptr 22 0 ∧ gget .bad e 8 = .ptr 27 0 ∧ gget .bad e 9 = .lit (.bool laid) ∧ gget .bad e 10 = .lit (.int .i64 (i : Nat)))
  vs.length ⟨0, .sl .nil [], [], false, rfl, by omega, rfl, by simp, by simp only [go_sem, simprocAttr], by simp only [go_sem, simprocAttr], by simp only [go_sem, simprocAttr], by simp only [go_sem, simprocAttr], by simp only [go_sem, simprocAttr], by simp only [go_sem, simprocAttr] <;> omega, .inl ⟨rfl, rfl⟩, by simp only [go_sem, simprocAttr], by simp only [go_sem, simprocAttr], by simp only [go_sem, simprocAttr], by simp only [go_sem, simprocAttr], by simp only [go_sem, simprocAttr], by simp only [go_sem, simprocAttr], by simp only [go_sem, simprocAttr]⟩ ?_
 rintro k ih e H ⟨i, A, acc, laid, rfl, hle, hR, hal, g0, g1, g3, g22, g27, hnx, hA, e3, e4, e6, e7, e8, e9, e10⟩
 obtain ⟨m, hm⟩ : ∃ m, H.next = m + 31 := ⟨H.next - 31, by omega⟩
 have hA1 := hA.one
 by_cases hlt : i < vs.length
 ·have d1 : decide ((i : Int) < (vs.length : Nat)) = true := by simp; omega
  have hw := wrap1 (show i + 1 ≤ 9223372036854775807 by omega)
  have hI := iad_map (f := encL) (t := 83) (n := 4) (b := 64) (o := .sh) hlt (fun _ => rfl)
  rw [withG_drop hlt] at hR
  generalize hy : vs[i] = y at hI hR
  have x1 : (encL x).length = 4 := rfl
  have x2 : (encL x).take 4 = encL x := rfl
  have x3 : (encL x).all AV.one = true := rfl
  have q1 : ∀ z : Int × Int, (avA z).length = 2 := fun _ => rfl
  have q2 : ∀ z : Int × Int, (avA z).take 2 = avA z := fun _ => rfl
  have q3 : ∀ z : Int × Int, (avA z).all AV.one = true := fun _ => rfl
  have y1 : (encL y).length = 4 := rfl
  have y2 : (encL y).take 4 = encL y := rfl
  have y3 : (encL y).all AV.one = true := rfl
  have y4 : (encL y).take 2 = avA (Lc.atom y) := rfl
  have hles := fun H => z_less (Lc.atom y) (Lc.atom x) H
  have ap1 := fun (H' : Heap) (id : Nat) (hg : arrGet A H' = arrGet A H) => ap acc x A H H' (by omega) hA hg id
  cases laid with
  | false =>
   cases hlt3 : ltA (Lc.atom y) (Lc.atom x) with
   | false =>
    rw [hlt3] at hR
    simp only [go_sem, simprocAttr, rs, List.length_map, hm, d1, g0, g1, g3, g22, g27, e3, e4, e6, e7, e8, e9, e10]
    refine W_draw [(4, 9), (8, 9)] (by kernel_rfl) ?_
    have hgk : ∀ k, k < 31 → ∀ (H' : Heap) (cs : List AV), (appU H' (arrUs A (m + 53) cs)).get k = H'.get k := fun k hk H' cs => arrUs_get (by omega) (hA.no (by omega))
    have hgO := hgk 22 (by omega)
    have nbh : ¬ 22 = m + 53 := by omega
    have hgc0 := hgk 0 (by omega)
    have hgc1 := hgk 1 (by omega)
    have hgc3 := hgk 3 (by omega)
    have hgc22 := hgk 22 (by omega)
    have hgc27 := hgk 27 (by omega)
    simp only [go_sem, simprocAttr, rs, List.length_map, hm, d1, g0, g1, g3, g22, g27, e3, e4, e6, e7, e8, e9, e10, hI, x1, x2, x3, y1, y2, y3, y4, q1, q2, q3, hles, hlt3, bsF, ap1, hgO]
    obtain ⟨HX, hHX⟩ : ∃ HX, HX = ((appU (((H.up 5).up 13).up 7) (arrUs A (m + 53) ((acc ++ [x]).map encL).flatten)).put 22 [.lit (.bool false), .sl .sh (ws.map encB), .ar (m + 53) 0 (acc.length + 1) 4]) := ⟨_, rfl⟩
    have h0 : HX.get 0 = some [.lit (.bool false), .sl .sh (ws.map encB), .sl .sh (vs.map encL)] := by rw [hHX]; simp only [go_sem, simprocAttr, hgk 0 (by omega), g0]
    have h1 : HX.get 1 = some (avA (Lc.atom x)) := by rw [hHX]; simp only [go_sem, simprocAttr, hgk 1 (by omega), g1]
    have h3 : HX.get 3 = some [.lit (.bool false), .sl .nil [], .sl .nil []] := by rw [hHX]; simp only [go_sem, simprocAttr, hgk 3 (by omega), g3]
    have h22 : HX.get 22 = some [.lit (.bool false), .sl .sh (ws.map encB), (.ar (m + 53) 0 (acc.length + 1) 4)] := by rw [hHX]; simp only [go_sem, simprocAttr]
    have h27 : HX.get 27 = some (encL x) := by rw [hHX]; simp only [go_sem, simprocAttr, hgk 27 (by omega), g27]
    have hXn : HX.next = m + 56 := by rw [hHX]; simp only [go_sem, simprocAttr, hm]
    have hXA : ArrOf HX 31 (.ar (m + 53) 0 (acc.length + 1) 4) 4 ((acc ++ [x]).map encL) := .inr ⟨m + 53, by simp, by simp, by rw [hHX]; simp only [go_sem, simprocAttr, arrUs_new, nbh], by omega, by rw [hXn]; omega⟩
    rw [← hHX]
    clear hHX
    refine W_draw [(1, 6), (5, 6)] (by kernel_rfl) ?_
    by_cases hq : Lc.atom y = Lc.atom x
    ·have dq : decide (Lc.atom y = Lc.atom x) = true := by simpa using hq
     simp only [hq, if_true, List.nil_append] at hR
     simp only [go_sem, simprocAttr, rs, List.length_map, hXn, h0, h1, h3, h22, h27, e3, e4, e6, e7, e8, e9, e10, hI, x1, x2, x3, y1, y2, y3, y4, q1, q2, q3, hles, dq, hw]
     exact ih (vs.length - (i + 1)) (by omega) _ _ ⟨i + 1, (.ar (m + 53) 0 (acc.length + 1) 4), acc ++ [x], true, rfl, by omega, by simpa using hR, by first | omega | (simp; omega), by simp only [go_sem, simprocAttr, h0], by simp only [go_sem, simprocAttr, h1], by simp only [go_sem, simprocAttr, h3], by simp only [go_sem, simprocAttr, h22], by simp only [go_sem, simprocAttr, h27], by simp only [go_sem, simprocAttr, hXn] <;> omega,
      by repeat (first | exact hXA | refine ArrOf.of (H := _) ?_ (Nat.le_add_right _ _) (fun _ _ _ => rfl)), by simp only [go_sem, simprocAttr, e3], by simp only [go_sem, simprocAttr, e4], by simp only [go_sem, simprocAttr, e6], by simp only [go_sem, simprocAttr, e7], by simp only [go_sem, simprocAttr, e8], by simp only [go_sem, simprocAttr, e9], by simp only [go_sem, simprocAttr]⟩
    ·have dq : decide (Lc.atom y = Lc.atom x) = false := by simpa using hq
     simp only [hq, if_false] at hR
     simp only [go_sem, simprocAttr, rs, List.length_map, hXn, h0, h1, h3, h22, h27, e3, e4, e6, e7, e8, e9, e10, hI, x1, x2, x3, y1, y2, y3, y4, q1, q2, q3, hles, dq]
     refine W_draw [(1, 3), (1, 6)] (by kernel_rfl) ?_
     have ap2 := fun (H' : Heap) (id : Nat) (hg : arrGet (.ar (m + 53) 0 (acc.length + 1) 4) H' = arrGet (.ar (m + 53) 0 (acc.length + 1) 4) HX) => ap (acc ++ [x]) y (.ar (m + 53) 0 (acc.length + 1) 4) HX H' (by first | omega | (simp; omega)) hXA hg id
     have hgk : ∀ k, k < 31 → ∀ (H' : Heap) (cs : List AV), (appU H' (arrUs (.ar (m + 53) 0 (acc.length + 1) 4) (m + 73) cs)).get k = H'.get k := fun k hk H' cs => arrUs_get (by omega) (hXA.no (by omega))
     have hg0 := hgk 0 (by omega)
     have hg1 := hgk 1 (by omega)
     have hg3 := hgk 3 (by omega)
     have hg22 := hgk 22 (by omega)
     have hg27 := hgk 27 (by omega)
     have nO : arrNo (.ar (m + 53) 0 (acc.length + 1) 4) 22 := hXA.no (by omega)
     have nb : ¬ 22 = m + 73 := by omega
     simp only [go_sem, simprocAttr, rs, List.length_map, hXn, h0, h1, h3, h22, h27, e3, e4, e6, e7, e8, e9, e10, hI, x1, x2, x3, y1, y2, y3, y4, q1, q2, q3, hles, dq, hw, bsF, ap2, hg22, nO]
     refine ih (vs.length - (i + 1)) (by omega) _ _ ⟨i + 1, .ar (m + 73) 0 ((acc ++ [x]).length + 1) 4, acc ++ [x] ++ [y], true, rfl, by omega, by simpa using hR, by first | omega | (simp; omega), by simp only [go_sem, simprocAttr, hg0, h0], by simp only [go_sem, simprocAttr, hg1, h1], by simp only [go_sem, simprocAttr, hg3, h3], by simp only [go_sem, simprocAttr], by simp only [go_sem, simprocAttr, hg27, h27], by simp only [go_sem, simprocAttr, hXn] <;> omega,
      .inr ⟨m + 73, by simp, by simp, by simp only [go_sem, simprocAttr, arrUs_new, nb], by omega, by simp only [go_sem, simprocAttr, hXn] <;> omega⟩, by simp only [go_sem, simprocAttr, e3], by simp only [go_sem, simprocAttr, e4], by simp only [go_sem, simprocAttr, e6], by simp only [go_sem, simprocAttr, e7], by simp only [go_sem, simprocAttr, e8], by simp only [go_sem, simprocAttr, e9], by simp only [go_sem, simprocAttr]⟩
   | true =>
    rw [hlt3] at hR
    simp only [go_sem, simprocAttr, rs, List.length_map, hm, d1, g0, g1, g3, g22, g27, e3, e4, e6, e7, e8, e9, e10]
    refine W_draw [(4, 9), (8, 9)] (by kernel_rfl) ?_
    simp only [go_sem, simprocAttr, rs, List.length_map, hm, d1, g0, g1, g3, g22, g27, e3, e4, e6, e7, e8, e9, e10, hI, x1, x2, x3, y1, y2, y3, y4, q1, q2, q3, hles, hlt3]
    have h0 := g0
    have h1 := g1
    have h3 := g3
    have h22 := g22
    have h27 := g27
    have hXA := hA
    refine W_draw [(1, 6), (5, 6)] (by kernel_rfl) ?_
    by_cases hq : Lc.atom y = Lc.atom x
    ·have dq : decide (Lc.atom y = Lc.atom x) = true := by simpa using hq
     simp only [hq, if_true, List.nil_append] at hR
     simp only [go_sem, simprocAttr, rs, List.length_map, hm, d1, hlt3, h0, h1, h3, h22, h27, e3, e4, e6, e7, e8, e9, e10, hI, x1, x2, x3, y1, y2, y3, y4, q1, q2, q3, hles, dq, hw]
     exact ih (vs.length - (i + 1)) (by omega) _ _ ⟨i + 1, A, acc, false, rfl, by omega, by simpa using hR, by first | omega | (simp; omega), by simp only [go_sem, simprocAttr, h0], by simp only [go_sem, simprocAttr, h1], by simp only [go_sem, simprocAttr, h3], by simp only [go_sem, simprocAttr, h22], by simp only [go_sem, simprocAttr, h27], by simp only [go_sem, simprocAttr, hm] <;> omega,
      by repeat (first | exact hXA | refine ArrOf.of (H := _) ?_ (Nat.le_add_right _ _) (fun _ _ _ => rfl)), by simp only [go_sem, simprocAttr, e3], by simp only [go_sem, simprocAttr, e4], by simp only [go_sem, simprocAttr, e6], by simp only [go_sem, simprocAttr, e7], by simp only [go_sem, simprocAttr, e8], by simp only [go_sem, simprocAttr, e9], by simp only [go_sem, simprocAttr]⟩
    ·have dq : decide (Lc.atom y = Lc.atom x) = false := by simpa using hq
     simp only [hq, if_false] at hR
     simp only [go_sem, simprocAttr, rs, List.length_map, hm, d1, hlt3, h0, h1, h3, h22, h27, e3, e4, e6, e7, e8, e9, e10, hI, x1, x2, x3, y1, y2, y3, y4, q1, q2, q3, hles, dq]
     refine W_draw [(1, 3), (1, 6)] (by kernel_rfl) ?_
     have ap2 := fun (H' : Heap) (id : Nat) (hg : arrGet A H' = arrGet A H) => ap (acc) y A H H' (by first | omega | (simp; omega)) hXA hg id
     have hgk : ∀ k, k < 31 → ∀ (H' : Heap) (cs : List AV), (appU H' (arrUs A (m + 65) cs)).get k = H'.get k := fun k hk H' cs => arrUs_get (by omega) (hXA.no (by omega))
     have hg0 := hgk 0 (by omega)
     have hg1 := hgk 1 (by omega)
     have hg3 := hgk 3 (by omega)
     have hg22 := hgk 22 (by omega)
     have hg27 := hgk 27 (by omega)
     have nO : arrNo A 22 := hXA.no (by omega)
     have nb : ¬ 22 = m + 65 := by omega
     simp only [go_sem, simprocAttr, rs, List.length_map, hm, d1, hlt3, h0, h1, h3, h22, h27, e3, e4, e6, e7, e8, e9, e10, hI, x1, x2, x3, y1, y2, y3, y4, q1, q2, q3, hles, dq, hw, bsF, ap2, hg22, nO]
     refine ih (vs.length - (i + 1)) (by omega) _ _ ⟨i + 1, .ar (m + 65) 0 ((acc).length + 1) 4, acc ++ [y], false, rfl, by omega, by simpa using hR, by first | omega | (simp; omega), by simp only [go_sem, simprocAttr, hg0, h0], by simp only [go_sem, simprocAttr, hg1, h1], by simp only [go_sem, simprocAttr, hg3, h3], by simp only [go_sem, simprocAttr], by simp only [go_sem, simprocAttr, hg27, h27], by simp only [go_sem, simprocAttr, hm] <;> omega,
      .inr ⟨m + 65, by simp, by simp, by simp only [go_sem, simprocAttr, arrUs_new, nb], by omega, by simp only [go_sem, simprocAttr, hm] <;> omega⟩, by simp only [go_sem, simprocAttr, e3], by simp only [go_sem, simprocAttr, e4], by simp only [go_sem, simprocAttr, e6], by simp only [go_sem, simprocAttr, e7], by simp only [go_sem, simprocAttr, e8], by simp only [go_sem, simprocAttr, e9], by simp only [go_sem, simprocAttr]⟩
  | true =>
   simp only [go_sem, simprocAttr, rs, List.length_map, hm, d1, g0, g1, g3, g22, g27, e3, e4, e6, e7, e8, e9, e10]
   refine W_draw [(4, 9), (8, 9)] (by kernel_rfl) ?_
   simp only [go_sem, simprocAttr, rs, List.length_map, hm, d1, g0, g1, g3, g22, g27, e3, e4, e6, e7, e8, e9, e10, hI, x1, x2, x3, y1, y2, y3, y4, q1, q2, q3, hles]
   have h0 := g0
   have h1 := g1
   have h3 := g3
   have h22 := g22
   have h27 := g27
   have hXA := hA
   refine W_draw [(1, 6), (5, 6)] (by kernel_rfl) ?_
   by_cases hq : Lc.atom y = Lc.atom x
   ·have dq : decide (Lc.atom y = Lc.atom x) = true := by simpa using hq
    simp only [hq, if_true, List.nil_append] at hR
    simp only [go_sem, simprocAttr, rs, List.length_map, hm, d1, h0, h1, h3, h22, h27, e3, e4, e6, e7, e8, e9, e10, hI, x1, x2, x3, y1, y2, y3, y4, q1, q2, q3, hles, dq, hw]
    exact ih (vs.length - (i + 1)) (by omega) _ _ ⟨i + 1, A, acc, true, rfl, by omega, by simpa using hR, by first | omega | (simp; omega), by simp only [go_sem, simprocAttr, h0], by simp only [go_sem, simprocAttr, h1], by simp only [go_sem, simprocAttr, h3], by simp only [go_sem, simprocAttr, h22], by simp only [go_sem, simprocAttr, h27], by simp only [go_sem, simprocAttr, hm] <;> omega,
     by repeat (first | exact hXA | refine ArrOf.of (H := _) ?_ (Nat.le_add_right _ _) (fun _ _ _ => rfl)), by simp only [go_sem, simprocAttr, e3], by simp only [go_sem, simprocAttr, e4], by simp only [go_sem, simprocAttr, e6], by simp only [go_sem, simprocAttr, e7], by simp only [go_sem, simprocAttr, e8], by simp only [go_sem, simprocAttr, e9], by simp only [go_sem, simprocAttr]⟩
   ·have dq : decide (Lc.atom y = Lc.atom x) = false := by simpa using hq
    simp only [hq, if_false] at hR
    simp only [go_sem, simprocAttr, rs, List.length_map, hm, d1, h0, h1, h3, h22, h27, e3, e4, e6, e7, e8, e9, e10, hI, x1, x2, x3, y1, y2, y3, y4, q1, q2, q3, hles, dq]
    refine W_draw [(1, 3), (1, 6)] (by kernel_rfl) ?_
    have ap2 := fun (H' : Heap) (id : Nat) (hg : arrGet A H' = arrGet A H) => ap (acc) y A H H' (by first | omega | (simp; omega)) hXA hg id
    have hgk : ∀ k, k < 31 → ∀ (H' : Heap) (cs : List AV), (appU H' (arrUs A (m + 65) cs)).get k = H'.get k := fun k hk H' cs => arrUs_get (by omega) (hXA.no (by omega))
    have hg0 := hgk 0 (by omega)
    have hg1 := hgk 1 (by omega)
    have hg3 := hgk 3 (by omega)
    have hg22 := hgk 22 (by omega)
    have hg27 := hgk 27 (by omega)
    have nO : arrNo A 22 := hXA.no (by omega)
    have nb : ¬ 22 = m + 65 := by omega
    simp only [go_sem, simprocAttr, rs, List.length_map, hm, d1, h0, h1, h3, h22, h27, e3, e4, e6, e7, e8, e9, e10, hI, x1, x2, x3, y1, y2, y3, y4, q1, q2, q3, hles, dq, hw, bsF, ap2, hg22, nO]
    refine ih (vs.length - (i + 1)) (by omega) _ _ ⟨i + 1, .ar (m + 65) 0 ((acc).length + 1) 4, acc ++ [y], true, rfl, by omega, by simpa using hR, by first | omega | (simp; omega), by simp only [go_sem, simprocAttr, hg0, h0], by simp only [go_sem, simprocAttr, hg1, h1], by simp only [go_sem, simprocAttr, hg3, h3], by simp only [go_sem, simprocAttr], by simp only [go_sem, simprocAttr, hg27, h27], by simp only [go_sem, simprocAttr, hm] <;> omega,
     .inr ⟨m + 65, by simp, by simp, by simp only [go_sem, simprocAttr, arrUs_new, nb], by omega, by simp only [go_sem, simprocAttr, hm] <;> omega⟩, by simp only [go_sem, simprocAttr, e3], by simp only [go_sem, simprocAttr, e4], by simp only [go_sem, simprocAttr, e6], by simp only [go_sem, simprocAttr, e7], by simp only [go_sem, simprocAttr, e8], by simp only [go_sem, simprocAttr, e9], by simp only [go_sem, simprocAttr]⟩
 ·have d1 : decide ((i : Int) < (vs.length : Nat)) = false := by simp; omega
  rw [List.drop_of_length_le (by omega)] at hR
  have ap1 := fun (H' : Heap) (id : Nat) (hg : arrGet A H' = arrGet A H) => ap acc x A H H' (by omega) hA hg id
  have x1 : (encL x).length = 4 := rfl
  have x2 : (encL x).take 4 = encL x := rfl
  have x3 : (encL x).all AV.one = true := rfl
  have q1 : ∀ z : Int × Int, (avA z).length = 2 := fun _ => rfl
  have q2 : ∀ z : Int × Int, (avA z).take 2 = avA z := fun _ => rfl
  have q3 : ∀ z : Int × Int, (avA z).all AV.one = true := fun _ => rfl
  cases laid with
  | true =>
   have hR' : acc = withG Lc.atom ltA x false vs := by rw [← hR]; simp [withG]
   rw [← hR']
   simp only [go_sem, simprocAttr, rs, List.length_map, hm, d1, g0, g1, g3, g22, g27, e3, e4, e6, e7, e8, e9, e10, hA1]
   refine ⟨_, rfl, ?_⟩
   generalize hHF : Heap.put _ 3 _ = HF
   have hfr := frz_arr (H' := HF) (hA.of (H' := HF) (by rw [← hHF]; simp only [go_sem, simprocAttr] <;> omega) (fun k h1 h2 => by rw [← hHF, Heap.get_put, if_neg (by omega)]; rfl)) (L_unif acc) (L_ones acc)
   rw [sanLL_L] at hfr
   exact frz_three rfl (by show san (.sl .sh (ws.map encB)) = _; simp only [san, sanLL_B]) hfr
  | false =>
   have hR' : acc ++ [x] = withG Lc.atom ltA x false vs := by rw [← hR]; simp [withG]
   rw [← hR']
   have hgk : ∀ k, k < 31 → ∀ (H' : Heap) (cs : List AV), (appU H' (arrUs A (m + 42) cs)).get k = H'.get k := fun k hk H' cs => arrUs_get (by omega) (hA.no (by omega))
   have hg0 := hgk 0 (by omega)
   have hg1 := hgk 1 (by omega)
   have hg3 := hgk 3 (by omega)
   have hg22 := hgk 22 (by omega)
   have hg27 := hgk 27 (by omega)
   have nb1 : ¬ 22 = m + 42 := by omega
   have nb2 : ¬ 3 = m + 42 := by omega
   simp only [go_sem, simprocAttr, rs, List.length_map, hm, d1, g0, g1, g3, g22, g27, e3, e4, e6, e7, e8, e9, e10, x1, x2, x3, hA1, bsF, ap1, hg3, hg22, hg27]
   refine ⟨_, rfl, ?_⟩
   generalize hHF : Heap.put _ 3 _ = HF
   have hfr := frz_arr (H' := HF) (lo := 31) (sz := 4) (A := .ar (m + 42) 0 (acc.length + 1) 4) (es := (acc ++ [x]).map encL) (.inr ⟨m + 42, by simp, by simp, by rw [← hHF]; simp only [go_sem, simprocAttr, arrUs_new, nb1, nb2], by omega, by rw [← hHF]; simp only [go_sem, simprocAttr, hm] <;> omega⟩) (L_unif _) (L_ones _)
   rw [sanLL_L] at hfr
   exact frz_three rfl (by show san (.sl .sh (ws.map encB)) = _; simp only [san, sanLL_B]) hfr
end Go.Proofs.YtnoahchdmkpleaaGreat.VA

/-! Rj6 -/
namespace Go.Proofs.YtnoahchdmkpleaaGreat.VA
open Go Go.RowKit
attribute [local go_sem] Nat.add_eq_left Nat.left_eq_add true_and and_true ite_true if_false Int.cast_ofNat_Int eq_self Nat.add_assoc Option.some.injEq decide_true decide_false Bool.not_true Bool.not_false List.size_toArray List.length_cons List.length_nil
set_option linter.unusedSimpArgs false
set_option linter.unusedVariables false
set_option maxRecDepth 100000

theorem z_loc (s : Sta) (hs : StOk s) (q : Int × Int) (H : Heap) : calls Tryz.prog cfgZ 42 [.agg (encSt s), .agg (avA q)] H = some (.ret (.tup [.agg (encSh (((getL q s.locs).map Lc.shape).getD shZ)), .lit (.bool (getL q s.locs).isSome)]) H) := by
 refine calls_pure (fn := Tryz.f42) rfl rfl rfl rfl rfl ?_ H
 have rs : Tryz.f42.results.toList = [.cell 4 79, .tmp 5] := rfl
 have hLA : LA = 1000000000000 := rfl
 have e0 : sanL [AV.agg (encSt s), .agg (avA q)] = [.agg (encSt s), .agg (avA q)] := by simp only [sanL, san, sanL_encSt]; rfl
 rw [e0]
 obtain ⟨dd, ws, ls⟩ := s
 have hl : ls.length ≤ LA := hs.2.2.2
 have q1 : ∀ z : Int × Int, (avA z).length = 2 := fun _ => rfl
 have q2 : ∀ z : Int × Int, (avA z).take 2 = avA z := fun _ => rfl
 have q3 : ∀ z : Int × Int, (avA z).all AV.one = true := fun _ => rfl
 unfold encSt
 simp only [go_sem, simprocAttr, rs, q1, q2, q3]
 refine W_loop_ind (fun k e H => ∃ i : Nat, k = ls.length - i ∧ i ≤ ls.length ∧ (ls.take i).all (fun b => !decide (b.atom = q)) = true ∧ H.get 0 = some [.lit (.bool dd), .sl .sh (ws.map encB), .sl .sh (ls.map encL)] ∧ H.get 1 = some (avA q) ∧ H.get 2 = some [.sl .nil [], .sl .nil []] ∧ 3 ≤ H.next ∧
   gget .bad e 2 = .ptr 0 0 ∧ gget .bad e 3 = .ptr 1 0 ∧ gget .bad e 4 = .ptr 2 0 ∧ gget .bad e 6 = .lit (.int .i64 (i : Nat)))
  ls.length ⟨0, rfl, by omega, rfl, by simp only [go_sem, simprocAttr], by simp only [go_sem, simprocAttr], by simp only [go_sem, simprocAttr], by simp only [go_sem, simprocAttr] <;> omega, by simp only [go_sem, simprocAttr], by simp only [go_sem, simprocAttr], by simp only [go_sem, simprocAttr], by simp only [go_sem, simprocAttr]⟩ ?_
 rintro k ih e H ⟨i, rfl, hle, hR, g0, g1, g2, hnx, e2, e3, e4, e6⟩
 obtain ⟨m, hm⟩ : ∃ m, H.next = m + 3 := ⟨H.next - 3, by omega⟩
 by_cases hlt : i < ls.length
 ·have d1 : decide ((i : Int) < (ls.length : Nat)) = true := by simp; omega
  have hw := wrap1 (show i + 1 ≤ 9223372036854775807 by omega)
  have hI := iad_map (f := encL) (t := 83) (n := 4) (b := 64) (o := .sh) hlt (fun _ => rfl)
  have y1 : (encL ls[i]).length = 4 := rfl
  have y2 : (encL ls[i]).take 2 = avA ls[i].atom := rfl
  have y3 : (encL ls[i]).all AV.one = true := rfl
  have y4 : (encL ls[i]).drop 2 = encSh ls[i].shape := rfl
  have h1 : (encSh ls[i].shape).length = 2 := rfl
  have h2 : (encSh ls[i].shape).take 2 = encSh ls[i].shape := rfl
  have h3 : (encSh ls[i].shape).all AV.one = true := rfl
  have h4 := sanL_encSh ls[i].shape
  by_cases hx : ls[i].atom = q
  ·have dx : decide (ls[i].atom = q) = true := by simpa using hx
   rw [show getL q ls = some ls[i] from getG_hit hlt hR hx]
   simp only [go_sem, simprocAttr, rs, List.length_map, hm, d1, g0, g1, g2, e2, e3, e4, e6]
   refine W_draw [(1, 6), (5, 6)] (by kernel_rfl) ?_
   simp only [go_sem, simprocAttr, rs, List.length_map, hm, d1, g0, g1, g2, e2, e3, e4, e6, hI, y1, y2, y3, y4, q1, q2, q3, h1, h2, h3, h4, dx]
   rfl
  ·have dx : decide (ls[i].atom = q) = false := by simpa using hx
   simp only [go_sem, simprocAttr, rs, List.length_map, hm, d1, g0, g1, g2, e2, e3, e4, e6]
   refine W_draw [(1, 6), (5, 6)] (by kernel_rfl) ?_
   simp only [go_sem, simprocAttr, rs, List.length_map, hm, d1, g0, g1, g2, e2, e3, e4, e6, hI, y1, y2, y3, y4, q1, q2, q3, h1, h2, h3, h4, dx, hw]
   exact ih (ls.length - (i + 1)) (by omega) _ _ ⟨i + 1, rfl, by omega, by rw [List.take_succ_eq_append_getElem hlt, List.all_append, hR]; simp [hx], by simp only [go_sem, simprocAttr, g0], by simp only [go_sem, simprocAttr, g1], by simp only [go_sem, simprocAttr, g2], by simp only [go_sem, simprocAttr, hm] <;> omega, by simp only [go_sem, simprocAttr, e2], by simp only [go_sem, simprocAttr, e3], by simp only [go_sem, simprocAttr, e4], by simp only [go_sem, simprocAttr]⟩
 ·have d1 : decide ((i : Int) < (ls.length : Nat)) = false := by simp; omega
  rw [List.take_of_length_le (by omega)] at hR
  rw [show getL q ls = none from getG_miss hR]
  simp only [go_sem, simprocAttr, rs, List.length_map, hm, d1, g0, g1, g2, e2, e3, e4, e6]
  rfl
theorem z_joinT (a b : Sta) (ha : Few a) (hb : Few b) (H : Heap) : calls Tryz.prog cfgZ 57 [.agg (encSt a), .agg (encSt b)] H = some (.ret (.agg (encSt (joinT a b))) H) := by
 refine calls_pure (fn := Tryz.f57) rfl rfl rfl rfl rfl ?_ H
 have rs : Tryz.f57.results.toList = [.cell 4 26] := rfl
 have hLA : LA = 1000000000000 := rfl
 have oa := ha.ok
 have ob := hb.ok
 have e0 : sanL [AV.agg (encSt a), .agg (encSt b)] = [.agg (encSt a), .agg (encSt b)] := by simp only [sanL, san, sanL_encSt]
 have a1 : (encSt a).length = 3 := rfl
 have a2 : (encSt a).take 3 = encSt a := rfl
 have a3 : (encSt a).all AV.one = true := rfl
 have a4 : (encSt a)[0]? = some (.lit (.bool a.dead)) := rfl
 have a5 : (encSt a)[1]? = some (.sl .sh (a.vars.map encB)) := rfl
 have b1 : (encSt b).length = 3 := rfl
 have b2 : (encSt b).take 3 = encSt b := rfl
 have b3 : (encSt b).all AV.one = true := rfl
 have b4 : (encSt b)[0]? = some (.lit (.bool b.dead)) := rfl
 have b5 : (encSt b)[1]? = some (.sl .sh (b.vars.map encB)) := rfl
 have b6 : (encSt b)[2]? = some (.sl .sh (b.locs.map encL)) := rfl
 have sa := sanL_encSt a
 have sb := sanL_encSt b
 have hma := fun H => z_mayT a oa H
 have hmb := fun H => z_mayT b ob H
 rw [e0]
 cases ma : mayT a with
 | false =>
  rw [ma] at hma
  have hr : joinT a b = ⟨false, [], []⟩ := by unfold joinT; rw [if_neg (by rw [ma]; simp)]
  rw [hr]
  simp only [go_sem, simprocAttr, rs, hma, a1, a2, a3, a4, b1, b2, b3, b4]
  rfl
 | true =>
  rw [ma] at hma
  cases mb : mayT b with
  | false =>
   rw [mb] at hmb
   have hr : joinT a b = ⟨false, [], []⟩ := by unfold joinT; rw [if_neg (by rw [mb]; simp)]
   rw [hr]
   simp only [go_sem, simprocAttr, rs, hma, hmb, a1, a2, a3, a4, b1, b2, b3, b4]
   rfl
  | true =>
   rw [mb] at hmb
   have hj : joinT a b = if a.dead = true then b else if b.dead = true then a else ⟨false, (a.vars ++ b.vars).foldl (stpV a b) a.vars, b.locs.foldl (stpL a) a.locs⟩ := by
    unfold joinT; rw [if_pos ⟨ma, mb⟩]
   cases da : a.dead with
   | true =>
    rw [da] at a4
    rw [hj, if_pos da]
    simp only [go_sem, simprocAttr, rs, hma, hmb, a1, a2, a3, a4, b1, b2, b3, b4, sb]
   | false =>
    rw [da] at a4
    cases db : b.dead with
    | true =>
     rw [db] at b4
     rw [hj, if_neg (by rw [da]; simp), if_pos db]
     simp only [go_sem, simprocAttr, rs, hma, hmb, a1, a2, a3, a4, b1, b2, b3, b4, sa]
    | false =>
     rw [db] at b4
     rw [hj, if_neg (by rw [da]; simp), if_neg (by rw [db]; simp)]
     have hva := ha.v
     have hvb := hb.v
     have hlb := hb.l
     simp only [go_sem, simprocAttr, rs, hma, hmb, a1, a2, a3, a4, b1, b2, b3, b4]
     rw [List.foldl_append]
     refine W_loop_ind (fun k e H => ∃ (i : Nat), k = a.vars.length - i ∧ i ≤ a.vars.length ∧ H.get 0 = some (encSt a) ∧ H.get 1 = some (encSt b) ∧ H.get 2 = some [.lit (.bool false), .sl .nil [], .sl .nil []] ∧
       H.get 16 = some (encSt ⟨false, (a.vars.take i).foldl (stpV a b) a.vars, a.locs⟩) ∧ 17 ≤ H.next ∧
       gget .bad e 2 = .ptr 0 0 ∧ gget .bad e 3 = .ptr 1 0 ∧ gget .bad e 4 = .ptr 2 0 ∧ gget .bad e 5 = .ptr 16 0 ∧ gget .bad e 6 = .lit (.int .i64 (i : Nat)))
      a.vars.length ⟨0, rfl, by omega, by simp only [go_sem, simprocAttr], by simp only [go_sem, simprocAttr], by simp only [go_sem, simprocAttr], by simp only [go_sem, simprocAttr]; rw [← da]; rfl, by simp only [go_sem, simprocAttr] <;> omega, by simp only [go_sem, simprocAttr], by simp only [go_sem, simprocAttr], by simp only [go_sem, simprocAttr], by simp only [go_sem, simprocAttr], by simp only [go_sem, simprocAttr]⟩ ?_
     rintro k ih e H ⟨i, rfl, hle, g0, g1, g2, g16, hnx, e2, e3, e4, e5, ei⟩
     obtain ⟨m, hm⟩ : ∃ m, H.next = m + 17 := ⟨H.next - 17, by omega⟩
     by_cases hlt : i < a.vars.length
     ·have d1 : decide ((i : Int) < (a.vars.length : Nat)) = true := by simp; omega
      have hw := wrap1 (show i + 1 ≤ 9223372036854775807 by omega)
      have hI := iad_map (f := encB) (t := 76) (n := 2) (b := 40) (o := .sh) hlt (fun _ => rfl)
      have hsucc : (a.vars.take (i + 1)).foldl (stpV a b) a.vars = stpV a b ((a.vars.take i).foldl (stpV a b) a.vars) a.vars[i] := by rw [List.take_succ_eq_append_getElem hlt, List.foldl_append]; rfl
      generalize hx : a.vars[i] = x at hI hsucc
      have x1 : (encB x).length = 2 := rfl
      have x4 : (encB x)[0]? = some (.lit (.string x.nm)) := rfl
      have hGV := GoodV.fold ha hb (a.vars.take i) (GoodV.start ha ma)
      have hgn : (a.vars.take i).length ≤ 40 := by rw [List.length_take]; omega
      generalize hV : (a.vars.take i).foldl (stpV a b) a.vars = V at *
      have hva2 := varA_few ha x.nm
      have hvb2 := varA_few hb x.nm
      have hv1 := fun H => z_var a oa.2.1 x.nm H
      have hv2 := fun H => z_var b ob.2.1 x.nm H
      have hun := fun H => z_union (varA x.nm a.vars) (varA x.nm b.vars) (by omega) .sh .sh H
      have hul : (normA (varA x.nm a.vars ++ varA x.nm b.vars)).length + 1 ≤ LA := by
       have h2 := normA_le (varA x.nm a.vars ++ varA x.nm b.vars)
       rw [List.length_append] at h2
       omega
      have hset := fun H => z_set ⟨false, V, a.locs⟩ (good_ok hGV (GoodL.start ha ma) (by omega) (by omega) false) (to_mayT hGV.may hGV.up (GoodL.start ha ma).may (GoodL.start ha ma).up) rfl x.nm (normA (varA x.nm a.vars ++ varA x.nm b.vars)) hul .sh H
      have hput : withG Bnd.nm strLt ⟨x.nm, normA (normA (varA x.nm a.vars ++ varA x.nm b.vars))⟩ false V = stpV a b V x := withG_put ordB hGV.up
      simp only [hput] at hset
      have w1 : ∀ s : Sta, (encSt s).length = 3 := fun _ => rfl
      have w2 : ∀ s : Sta, (encSt s).take 3 = encSt s := fun _ => rfl
      have w3 : ∀ s : Sta, (encSt s).all AV.one = true := fun _ => rfl
      simp only [go_sem, simprocAttr, rs, List.length_map, hm, d1, g0, g1, g2, g16, e2, e3, e4, e5, ei, a1, a2, a3, a5, b1, b2, b3, b5, hI, x1, x4]
      refine W_draw [(0, 2), (0, 4), (0, 5), (2, 5), (4, 5), (0, 7), (0, 8)] (by kernel_rfl) ?_
      have w4 : ∀ s : Sta, (encSt s).drop 3 = [] := fun _ => rfl
      simp only [go_sem, simprocAttr, rs, List.length_map, hm, d1, g0, g1, g2, g16, e2, e3, e4, e5, ei, a1, a2, a3, a5, b1, b2, b3, b5, hI, x1, x4, w1, w2, w3, w4, List.append_nil, hv1, hv2, hun, hset, hw]
      exact ih (a.vars.length - (i + 1)) (by omega) _ _ ⟨i + 1, rfl, by omega, by simp only [go_sem, simprocAttr, g0], by simp only [go_sem, simprocAttr, g1], by simp only [go_sem, simprocAttr, g2], by rw [hsucc]; simp only [go_sem, simprocAttr], by simp only [go_sem, simprocAttr, hm] <;> omega, by simp only [go_sem, simprocAttr, e2], by simp only [go_sem, simprocAttr, e3], by simp only [go_sem, simprocAttr, e4], by simp only [go_sem, simprocAttr, e5], by simp only [go_sem, simprocAttr]⟩
     ·have d1 : decide ((i : Int) < (a.vars.length : Nat)) = false := by simp; omega
      have hi : i = a.vars.length := by omega
      subst hi
      rw [List.take_length] at g16
      generalize hV1 : a.vars.foldl (stpV a b) a.vars = V1 at g16
      have w1 : ∀ s : Sta, (encSt s).length = 3 := fun _ => rfl
      have w2 : ∀ s : Sta, (encSt s).take 3 = encSt s := fun _ => rfl
      have w3 : ∀ s : Sta, (encSt s).all AV.one = true := fun _ => rfl
      clear ih
      simp only [go_sem, simprocAttr, rs, List.length_map, hm, d1, g0, g1, g2, g16, e2, e3, e4, e5, ei, a1, a2, a3, a5, b1, b2, b3, b5, b6]
      have hG1 : GoodV 80 V1 := by
       have := GoodV.fold ha hb a.vars (GoodV.start ha ma)
       rw [hV1] at this
       exact ⟨by have := this.len; omega, this.vv, this.may, this.up⟩
      refine W_loop_ind (fun k e H => ∃ (i : Nat), k = b.vars.length - i ∧ i ≤ b.vars.length ∧ H.get 0 = some (encSt a) ∧ H.get 1 = some (encSt b) ∧ H.get 2 = some [.lit (.bool false), .sl .nil [], .sl .nil []] ∧
        H.get 16 = some (encSt ⟨false, (b.vars.take i).foldl (stpV a b) V1, a.locs⟩) ∧ 17 ≤ H.next ∧
        gget .bad e 2 = .ptr 0 0 ∧ gget .bad e 3 = .ptr 1 0 ∧ gget .bad e 4 = .ptr 2 0 ∧ gget .bad e 5 = .ptr 16 0 ∧ gget .bad e 8 = .lit (.int .i64 (i : Nat)))
       b.vars.length ⟨0, rfl, by omega, by simp only [go_sem, simprocAttr, g0], by simp only [go_sem, simprocAttr, g1], by simp only [go_sem, simprocAttr, g2], by simp only [go_sem, simprocAttr, g16]; rfl, by simp only [go_sem, simprocAttr, hm] <;> omega, by simp only [go_sem, simprocAttr, e2, e3, e4, e5], by simp only [go_sem, simprocAttr, e2, e3, e4, e5], by simp only [go_sem, simprocAttr, e2, e3, e4, e5], by simp only [go_sem, simprocAttr, e2, e3, e4, e5], by simp only [go_sem, simprocAttr]⟩ ?_
      clear g0 g1 g2 g16 hnx e2 e3 e4 e5 ei d1 hle hlt hm
      clear m e H
      rintro k ih e H ⟨i, rfl, hle, g0, g1, g2, g16, hnx, e2, e3, e4, e5, ei⟩
      obtain ⟨m, hm⟩ : ∃ m, H.next = m + 17 := ⟨H.next - 17, by omega⟩
      by_cases hlt : i < b.vars.length
      ·have d1 : decide ((i : Int) < (b.vars.length : Nat)) = true := by simp; omega
       have hw := wrap1 (show i + 1 ≤ 9223372036854775807 by omega)
       have hI := iad_map (f := encB) (t := 76) (n := 2) (b := 40) (o := .sh) hlt (fun _ => rfl)
       have hsucc : (b.vars.take (i + 1)).foldl (stpV a b) V1 = stpV a b ((b.vars.take i).foldl (stpV a b) V1) b.vars[i] := by rw [List.take_succ_eq_append_getElem hlt, List.foldl_append]; rfl
       generalize hx : b.vars[i] = x at hI hsucc
       have x1 : (encB x).length = 2 := rfl
       have x4 : (encB x)[0]? = some (.lit (.string x.nm)) := rfl
       have hGV := GoodV.fold ha hb (b.vars.take i) hG1
       have hgn : (b.vars.take i).length ≤ 40 := by rw [List.length_take]; omega
       generalize hV : (b.vars.take i).foldl (stpV a b) V1 = V at *
       have hva2 := varA_few ha x.nm
       have hvb2 := varA_few hb x.nm
       have hv1 := fun H => z_var a oa.2.1 x.nm H
       have hv2 := fun H => z_var b ob.2.1 x.nm H
       have hun := fun H => z_union (varA x.nm a.vars) (varA x.nm b.vars) (by omega) .sh .sh H
       have hul : (normA (varA x.nm a.vars ++ varA x.nm b.vars)).length + 1 ≤ LA := by
        have h2 := normA_le (varA x.nm a.vars ++ varA x.nm b.vars)
        rw [List.length_append] at h2
        omega
       have hset := fun H => z_set ⟨false, V, a.locs⟩ (good_ok hGV (GoodL.start ha ma) (by omega) (by omega) false) (to_mayT hGV.may hGV.up (GoodL.start ha ma).may (GoodL.start ha ma).up) rfl x.nm (normA (varA x.nm a.vars ++ varA x.nm b.vars)) hul .sh H
       have hput : withG Bnd.nm strLt ⟨x.nm, normA (normA (varA x.nm a.vars ++ varA x.nm b.vars))⟩ false V = stpV a b V x := withG_put ordB hGV.up
       simp only [hput] at hset
       have w1 : ∀ s : Sta, (encSt s).length = 3 := fun _ => rfl
       have w2 : ∀ s : Sta, (encSt s).take 3 = encSt s := fun _ => rfl
       have w3 : ∀ s : Sta, (encSt s).all AV.one = true := fun _ => rfl
       simp only [go_sem, simprocAttr, rs, List.length_map, hm, d1, g0, g1, g2, g16, e2, e3, e4, e5, ei, a1, a2, a3, a5, b1, b2, b3, b5, hI, x1, x4]
       refine W_draw [(0, 2), (0, 4), (0, 5), (2, 5), (4, 5), (0, 7), (0, 8)] (by kernel_rfl) ?_
       have w4 : ∀ s : Sta, (encSt s).drop 3 = [] := fun _ => rfl
       simp only [go_sem, simprocAttr, rs, List.length_map, hm, d1, g0, g1, g2, g16, e2, e3, e4, e5, ei, a1, a2, a3, a5, b1, b2, b3, b5, hI, x1, x4, w1, w2, w3, w4, List.append_nil, hv1, hv2, hun, hset, hw]
       exact ih (b.vars.length - (i + 1)) (by omega) _ _ ⟨i + 1, rfl, by omega, by simp only [go_sem, simprocAttr, g0], by simp only [go_sem, simprocAttr, g1], by simp only [go_sem, simprocAttr, g2], by rw [hsucc]; simp only [go_sem, simprocAttr], by simp only [go_sem, simprocAttr, hm] <;> omega, by simp only [go_sem, simprocAttr, e2], by simp only [go_sem, simprocAttr, e3], by simp only [go_sem, simprocAttr, e4], by simp only [go_sem, simprocAttr, e5], by simp only [go_sem, simprocAttr]⟩
      ·have d1 : decide ((i : Int) < (b.vars.length : Nat)) = false := by simp; omega
       have hi : i = b.vars.length := by omega
       subst hi
       rw [List.take_length] at g16
       generalize hV2 : b.vars.foldl (stpV a b) V1 = V2 at g16
       have w1 : ∀ s : Sta, (encSt s).length = 3 := fun _ => rfl
       have w2 : ∀ s : Sta, (encSt s).take 3 = encSt s := fun _ => rfl
       have w3 : ∀ s : Sta, (encSt s).all AV.one = true := fun _ => rfl
       clear ih
       simp only [go_sem, simprocAttr, rs, List.length_map, hm, d1, g0, g1, g2, g16, e2, e3, e4, e5, ei, a1, a2, a3, a5, b1, b2, b3, b5, b6]
       have hG2 : GoodV 120 V2 := by
        have := GoodV.fold ha hb b.vars hG1
        rw [hV2] at this
        exact ⟨by have := this.len; omega, this.vv, this.may, this.up⟩

       generalize hls : b.locs = ls at hlb b6
       have hlm : ∀ x, x ∈ ls → x ∈ b.locs := fun x hx => by rw [hls]; exact hx

       refine W_loop_ind (fun k e H => ∃ (i : Nat), k = ls.length - i ∧ i ≤ ls.length ∧ H.get 0 = some (encSt a) ∧ H.get 1 = some (encSt b) ∧ H.get 2 = some [.lit (.bool false), .sl .nil [], .sl .nil []] ∧
         H.get 16 = some (encSt ⟨false, V2, (ls.take i).foldl (stpL a) a.locs⟩) ∧ 17 ≤ H.next ∧
         gget .bad e 2 = .ptr 0 0 ∧ gget .bad e 3 = .ptr 1 0 ∧ gget .bad e 4 = .ptr 2 0 ∧ gget .bad e 5 = .ptr 16 0 ∧ gget .bad e 10 = .lit (.int .i64 (i : Nat)))
        ls.length ⟨0, rfl, by omega, by simp only [go_sem, simprocAttr, g0], by simp only [go_sem, simprocAttr, g1], by simp only [go_sem, simprocAttr, g2], by simp only [go_sem, simprocAttr, g16]; rfl, by simp only [go_sem, simprocAttr, hm] <;> omega, by simp only [go_sem, simprocAttr, e2, e3, e4, e5], by simp only [go_sem, simprocAttr, e2, e3, e4, e5], by simp only [go_sem, simprocAttr, e2, e3, e4, e5], by simp only [go_sem, simprocAttr, e2, e3, e4, e5], by simp only [go_sem, simprocAttr]⟩ ?_
       clear g0 g1 g2 g16 hnx e2 e3 e4 e5 ei d1 hle hlt hm
       clear m e H
       rintro k ih e H ⟨i, rfl, hle, g0, g1, g2, g16, hnx, e2, e3, e4, e5, ei⟩
       obtain ⟨m, hm⟩ : ∃ m, H.next = m + 17 := ⟨H.next - 17, by omega⟩
       by_cases hlt : i < ls.length
       ·have d1 : decide ((i : Int) < (ls.length : Nat)) = true := by simp; omega
        have hw := wrap1 (show i + 1 ≤ 9223372036854775807 by omega)
        have hI := iad_map (f := encL) (t := 83) (n := 4) (b := 64) (o := .sh) hlt (fun _ => rfl)
        have hsucc : (ls.take (i + 1)).foldl (stpL a) a.locs = stpL a ((ls.take i).foldl (stpL a) a.locs) ls[i] := by rw [List.take_succ_eq_append_getElem hlt, List.foldl_append]; rfl
        have hxm := hlm ls[i] (List.getElem_mem hlt)
        generalize hx : ls[i] = x at hI hsucc hxm
        have hGL := GoodL.fold ha hb mb (ls.take i) (fun x hx => hlm x (List.mem_of_mem_take hx)) (GoodL.start ha ma)
        have hgn : (ls.take i).length ≤ 40 := by rw [List.length_take]; omega
        generalize hL : (ls.take i).foldl (stpL a) a.locs = L at *
        have x1 : (encL x).length = 4 := rfl
        have x2 : (encL x).take 4 = encL x := rfl
        have x3 : (encL x).all AV.one = true := rfl
        have x4 : (encL x).take 2 = avA x.atom := rfl
        have x5 : (encL x).drop 2 = encSh x.shape := rfl
        have q1 : (avA x.atom).length = 2 := rfl
        have q2 : (avA x.atom).take 2 = avA x.atom := rfl
        have q3 : (avA x.atom).all AV.one = true := rfl
        have h1 : ∀ o : Sh, (encSh o).length = 2 := fun _ => rfl
        have h2 : ∀ o : Sh, (encSh o).take 2 = encSh o := fun _ => rfl
        have h3 : ∀ o : Sh, (encSh o).all AV.one = true := fun _ => rfl
        have h4 : ∀ o : Sh, (encSh o).drop 2 = [] := fun _ => rfl
        have w1 : ∀ s : Sta, (encSt s).length = 3 := fun _ => rfl
        have w2 : ∀ s : Sta, (encSt s).take 3 = encSt s := fun _ => rfl
        have w3 : ∀ s : Sta, (encSt s).all AV.one = true := fun _ => rfl
        have w4 : ∀ s : Sta, (encSt s).drop 3 = [] := fun _ => rfl
        have hloc := fun H => z_loc a oa x.atom H
        have hxl := hb.ll x hxm
        have hxp := (mayT_to mb).2.2.1 x hxm
        have hjg := joinO_good ha hxl hxp.2
        have hjk : ShOk (joinO a x) := ⟨fun f hf => by have := hjg.1.2.2 f hf; unfold FOk; omega, by omega, by omega⟩
        have hput := fun H => z_put ⟨false, V2, L⟩ (good_ok hG2 hGL (by omega) (by omega) false) (to_mayT hG2.may hG2.up hGL.may hGL.up) rfl x.atom (joinO a x) hjk hxp.1 hjg.2 H
        have hpe : withG Lc.atom ltA ⟨x.atom, joinO a x⟩ false L = stpL a L x := withG_put ordA hGL.up
        simp only [hpe] at hput
        have r33 : ∀ k, k < 17 → ¬ m + 33 = k := fun k hk => by omega
        have r0 := r33 0 (by omega)
        have r1 := r33 1 (by omega)
        have r2 := r33 2 (by omega)
        have r16 := r33 16 (by omega)
        simp only [go_sem, simprocAttr, rs, List.length_map, hm, d1, g0, g1, g2, g16, e2, e3, e4, e5, ei, a1, a2, a3, b1, b2, b3, b6]
        refine W_draw [(0, 2), (0, 6), (0, 11), (2, 11), (6, 11), (7, 11)] (by kernel_rfl) ?_
        cases hq : (getL x.atom a.locs).isSome with
        | false =>
         have hjo : joinO a x = x.shape := by unfold joinO; rw [hq]; rfl
         rw [hjo] at hput
         rw [hq] at hloc
         simp only [go_sem, simprocAttr, rs, List.length_map, hm, d1, g0, g1, g2, g16, e2, e3, e4, e5, ei, a1, a2, a3, b1, b2, b3, b6, hI, x1, x2, x3, x4, x5, q1, q2, q3, h1, h2, h3, h4, List.append_nil, hloc, r0, r1, r2, r16]
         refine W_draw [(0, 2), (0, 6), (0, 7), (2, 7), (6, 7)] (by kernel_rfl) ?_
         simp only [go_sem, simprocAttr, rs, List.length_map, hm, d1, g0, g1, g2, g16, e2, e3, e4, e5, ei, a1, a2, a3, b1, b2, b3, b6, hI, x1, x2, x3, x4, x5, q1, q2, q3, h1, h2, h3, h4, w1, w2, w3, w4, List.append_nil, hput, hw, r0, r1, r2, r16]
         exact ih (ls.length - (i + 1)) (by omega) _ _ ⟨i + 1, rfl, by omega, by simp only [go_sem, simprocAttr, g0, r0], by simp only [go_sem, simprocAttr, g1, r1], by simp only [go_sem, simprocAttr, g2, r2], by rw [hsucc]; simp only [go_sem, simprocAttr], by simp only [go_sem, simprocAttr, hm] <;> omega, by simp only [go_sem, simprocAttr, e2], by simp only [go_sem, simprocAttr, e3], by simp only [go_sem, simprocAttr, e4], by simp only [go_sem, simprocAttr, e5], by simp only [go_sem, simprocAttr]⟩
        | true =>
         obtain ⟨p, hp⟩ := Option.isSome_iff_exists.1 hq
         have hpl := ha.ll p (getL_mem hp).2
         have hje : joinO a x = joinSh p.shape x.shape := by unfold joinO; rw [hp]; rfl
         have hoj : ∀ H, calls Tryz.prog cfgZ 94 [.agg (encSh p.shape), .agg (encSh x.shape)] H = some (.ret (.agg (encSh (joinO a x))) H) := fun H => by rw [hje]; exact z_oJoin p.shape x.shape hpl hxl H
         have hpg : ((getL x.atom a.locs).map Lc.shape).getD shZ = p.shape := by rw [hp]; rfl
         rw [hq, hpg] at hloc
         simp only [go_sem, simprocAttr, rs, List.length_map, hm, d1, g0, g1, g2, g16, e2, e3, e4, e5, ei, a1, a2, a3, b1, b2, b3, b6, hI, x1, x2, x3, x4, x5, q1, q2, q3, h1, h2, h3, h4, List.append_nil, hloc, r0, r1, r2, r16]
         refine W_draw [(0, 2), (0, 6)] (by kernel_rfl) ?_
         simp only [go_sem, simprocAttr, rs, List.length_map, hm, d1, g0, g1, g2, g16, e2, e3, e4, e5, ei, a1, a2, a3, b1, b2, b3, b6, hI, x1, x2, x3, x4, x5, q1, q2, q3, h1, h2, h3, h4, w1, w2, w3, w4, List.append_nil, hoj, r0, r1, r2, r16]
         refine W_draw [(0, 2), (0, 6), (0, 7), (2, 7), (6, 7)] (by kernel_rfl) ?_
         simp only [go_sem, simprocAttr, rs, List.length_map, hm, d1, g0, g1, g2, g16, e2, e3, e4, e5, ei, a1, a2, a3, b1, b2, b3, b6, hI, x1, x2, x3, x4, x5, q1, q2, q3, h1, h2, h3, h4, w1, w2, w3, w4, List.append_nil, hput, hw, r0, r1, r2, r16]
         exact ih (ls.length - (i + 1)) (by omega) _ _ ⟨i + 1, rfl, by omega, by simp only [go_sem, simprocAttr, g0, r0], by simp only [go_sem, simprocAttr, g1, r1], by simp only [go_sem, simprocAttr, g2, r2], by rw [hsucc]; simp only [go_sem, simprocAttr], by simp only [go_sem, simprocAttr, hm] <;> omega, by simp only [go_sem, simprocAttr, e2], by simp only [go_sem, simprocAttr, e3], by simp only [go_sem, simprocAttr, e4], by simp only [go_sem, simprocAttr, e5], by simp only [go_sem, simprocAttr]⟩
       ·have d1 : decide ((i : Int) < (ls.length : Nat)) = false := by simp; omega
        have hi : i = ls.length := by omega
        subst hi
        rw [List.take_length] at g16
        have w1 : ∀ s : Sta, (encSt s).length = 3 := fun _ => rfl
        have w2 : ∀ s : Sta, (encSt s).take 3 = encSt s := fun _ => rfl
        have w3 : ∀ s : Sta, (encSt s).all AV.one = true := fun _ => rfl
        have sw := fun s : Sta => sanL_encSt s
        simp only [go_sem, simprocAttr, rs, List.length_map, hm, d1, g0, g1, g2, g16, e2, e3, e4, e5, ei, a1, a2, a3, b1, b2, b3, b6, w1, w2, w3, sw]
end Go.Proofs.YtnoahchdmkpleaaGreat.VA

/-! Rf1 -/
namespace Go.Proofs.YtnoahchdmkpleaaGreat.RF
open Go Go.RowKit

theorem room_of_none {F : Fence} (hd : F.depth = none) (k : Nat) : F.room k := fun d h => by rw [hd] at h; cases h
theorem RoundIn.anyDepth {F : Fence} (hd : F.depth = none) {m m' : Nat} {P : Program} {l : Nat} {f : FuncId} {tmps : Array Value} {assign body : Code} {w : World} {R : Ending → World → Prop}
  (h : RoundIn F m P l f tmps assign body w R) : RoundIn F m' P l f tmps assign body w R := ⟨h.1, fun c cs _ => h.2 c cs (room_of_none hd _)⟩
theorem YieldAt.anyDepth {F : Fence} (hd : F.depth = none) {m : Nat} (m' : Nat) {P : Program} {l : Nat} {args : Array Value} {W : World} {R : Ending → World → Prop} (h : YieldAt F m P l args W R) : YieldAt F m' P l args W R := by
 obtain ⟨fn, tmps, assign, body, hy, hR⟩ := h
 exact ⟨fn, tmps, assign, body, hy, RoundIn.anyDepth hd hR⟩

/-- A statement's eight cells. -/
structure Y where
 op : Int
 v1 : Value
 v2 : Value
 v3 : Value
 v4 : Value
 v5 : Value
 th : Value
 el : Value
 ok : ∀ v, v ∈ [v1, v2, v3, v4, v5, th, el] → v.oneCell' = true
def Y.vs (y : Y) : Array Value := #[.int .i64 y.op, y.v1, y.v2, y.v3, y.v4, y.v5, y.th, y.el]
theorem Y.one (y : Y) : ∀ v, v ∈ y.vs.toList → v.oneCell' = true := by
 intro v hv
 simp only [Y.vs, List.mem_cons, List.not_mem_nil, or_false] at hv
 rcases hv with rfl | hv
 ·rfl
 ·exact y.ok v (by simpa using hv)
def Y.enc (y : Y) : Value := .agg y.vs
inductive GT where
 | node (y : Y) (th el : List GT)
mutual
def ordT : GT → List Y
 | .node y th el => y :: (ordL th ++ ordL el)
def ordL : List GT → List Y
 | [] => []
 | t :: l => ordT t ++ ordL l
end
mutual
def depT : GT → Nat
 | .node _ th el => 1 + max (depL th) (depL el)
def depL : List GT → Nat
 | [] => 0
 | t :: l => max (depT t) (depL l)
end
/-- A slice of so many elements; where it has some, they lie as Q says. -/
def Sli (v : Value) (n : Nat) (Q : Nat → Nat → Prop) : Prop := ∃ a cap, v = .slice a n cap ∧ (n ≠ 0 → ∃ b o, a = some ⟨b, o, none⟩ ∧ Q b o)
mutual
/-- A tree lies at a place of a block, all of it in blocks below n. -/
def AtT (n : Nat) (W : World) (b o : Nat) : GT → Prop
 | .node y th el => W.cell? ⟨b, o, none⟩ = some (.int .i64 y.op) ∧ W.cell? ⟨b, o + 1, none⟩ = some y.v1 ∧ W.cell? ⟨b, o + 2, none⟩ = some y.v2 ∧ W.cell? ⟨b, o + 3, none⟩ = some y.v3 ∧
   W.cell? ⟨b, o + 4, none⟩ = some y.v4 ∧ W.cell? ⟨b, o + 5, none⟩ = some y.v5 ∧ W.cell? ⟨b, o + 6, none⟩ = some y.th ∧ W.cell? ⟨b, o + 7, none⟩ = some y.el ∧
   Sli y.th th.length (fun b' o' => b' < n ∧ AtE n W b' o' th) ∧ Sli y.el el.length (fun b' o' => b' < n ∧ AtE n W b' o' el)
def AtE (n : Nat) (W : World) (b o : Nat) : List GT → Prop
 | [] => True
 | t :: l => AtT n W b o t ∧ AtE n W b (o + 8) l
end
def AtS (n : Nat) (W : World) (v : Value) (l : List GT) : Prop := Sli v l.length (fun b o => b < n ∧ AtE n W b o l)
theorem Sli.mono {v : Value} {n : Nat} {Q Q' : Nat → Nat → Prop} (h : Sli v n Q) (hq : ∀ b o, Q b o → Q' b o) : Sli v n Q' := by
 obtain ⟨a, cap, h1, h2⟩ := h
 refine ⟨a, cap, h1, fun h0 => ?_⟩
 obtain ⟨b, o, h3, h4⟩ := h2 h0
 exact ⟨b, o, h3, hq b o h4⟩
mutual
theorem AtT.below {n : Nat} {A B : World} (h : Below n A B) : ∀ (t : GT) {b o : Nat}, b < n → AtT n A b o t → AtT n B b o t
 | .node y th el, b, o, hb, ht => by
  simp only [AtT] at ht ⊢
  obtain ⟨c0, c1, c2, c3, c4, c5, c6, c7, s1, s2⟩ := ht
  have k : ∀ i, B.cell? ⟨b, i, none⟩ = A.cell? ⟨b, i, none⟩ := fun i => h.cell (p := ⟨b, i, none⟩) hb
  exact ⟨(k _).trans c0, (k _).trans c1, (k _).trans c2, (k _).trans c3, (k _).trans c4, (k _).trans c5, (k _).trans c6, (k _).trans c7,
   s1.mono fun b' o' h' => ⟨h'.1, AtE.below h th h'.1 h'.2⟩, s2.mono fun b' o' h' => ⟨h'.1, AtE.below h el h'.1 h'.2⟩⟩
theorem AtE.below {n : Nat} {A B : World} (h : Below n A B) : ∀ (l : List GT) {b o : Nat}, b < n → AtE n A b o l → AtE n B b o l
 | [], _, _, _, _ => trivial
 | t :: l, b, o, hb, ht => by
  simp only [AtE] at ht ⊢
  exact ⟨AtT.below h t hb ht.1, AtE.below h l hb ht.2⟩
end
theorem AtS.below {n : Nat} {A B : World} (h : Below n A B) {v : Value} {l : List GT} (hs : AtS n A v l) : AtS n B v l :=
 Sli.mono hs fun _ _ h' => ⟨h'.1, AtE.below h l h'.1 h'.2⟩
theorem AtE.get {n : Nat} {W : World} {b : Nat} : ∀ {l : List GT} {o : Nat} (j : Nat) (t : GT), AtE n W b o l → l[j]? = some t → AtT n W b (o + j * 8) t
 | [], _, _, _, _, h => by simp at h
 | x :: l, o, 0, t, ha, h => by
  simp at h; subst h
  simp only [AtE] at ha
  simpa using ha.1
 | x :: l, o, j + 1, t, ha, h => by
  simp only [AtE] at ha
  have := AtE.get j t ha.2 (by simpa using h)
  rw [show o + (j + 1) * 8 = o + 8 + j * 8 by omega]
  exact this
theorem ordL_append (a b : List GT) : ordL (a ++ b) = ordL a ++ ordL b := by
 induction a with
 | nil => rfl
 | cons x a ih => simp [ordL, ih]
theorem ordL_take_succ {l : List GT} {j : Nat} {t : GT} (h : l[j]? = some t) : ordL (l.take (j + 1)) = ordL (l.take j) ++ ordT t := by
 rw [List.take_add_one, h, ordL_append]
 simp [ordL]
theorem depL_get {l : List GT} {j : Nat} {t : GT} (h : l[j]? = some t) : depT t ≤ depL l := by
 induction l generalizing j with
 | nil => simp at h
 | cons x l ih =>
  cases j with
  | zero => simp at h; subst h; simp only [depL]; omega
  | succ j => simp only [depL]; have := ih (j := j) (by simpa using h); omega
theorem ordL_prefix (l : List GT) (j : Nat) : ordL (l.take j) <+: ordL l := by
 refine ⟨ordL (l.drop j), ?_⟩
 rw [← ordL_append, List.take_append_drop]
theorem ordL_len_le {l : List GT} {j : Nat} {t : GT} (h : l[j]? = some t) : (ordL (l.take j)).length + (ordT t).length ≤ (ordL l).length := by
 have := (ordL_prefix l (j + 1)).length_le
 rw [ordL_take_succ h, List.length_append] at this
 exact this
end Go.Proofs.YtnoahchdmkpleaaGreat.RF

/-! Rf2 -/
namespace Go.Proofs.YtnoahchdmkpleaaGreat.RF
open Go Go.RowKit Go.Proofs.YtnoahchdmkpleaaGreat.VA
set_option linter.unusedSimpArgs false
set_option linter.unusedVariables false
attribute [local go_sem] Oper.semAt_some

theorem size_putObj (W : World) (l : Nat) (o : Obj) : (W.putObj l o).heap.size = W.heap.size := by simp [World.putObj]
/-- Cells stay, but for one block's. -/
structure KC (B : Nat) (W W' : World) : Prop where
 size : W.heap.size ≤ W'.heap.size
 drawn : W'.drawn = W.drawn
 keep : ∀ b o, b ≠ B → W.heap[b]? = some o → o.isCells = true → W'.heap[b]? = some o
theorem KC.refl (B : Nat) (W : World) : KC B W W := ⟨Nat.le_refl _, rfl, fun _ _ _ h _ => h⟩
theorem KC.trans {B : Nat} {W1 W2 W3 : World} (h : KC B W1 W2) (k : KC B W2 W3) : KC B W1 W3 :=
 ⟨Nat.le_trans h.size k.size, k.drawn.trans h.drawn, fun b o hb ho hc => k.keep b o hb (h.keep b o hb ho hc) hc⟩
theorem KC.alloc (B : Nat) (W : World) (o : Obj) : KC B W (W.alloc o) :=
 ⟨by simp, rfl, fun b x _ h _ => by
  have hlt := (Array.getElem?_eq_some_iff.1 h).1
  rw [← h]; exact Below.heap_alloc W o b hlt⟩
theorem KC.putObj {B : Nat} {W : World} {l : Nat} {o : Obj} (o' : Obj) (h : W.heap[l]? = some o) (ho : o.isCells = false) : KC B W (W.putObj l o') :=
 ⟨by rw [size_putObj]; exact Nat.le_refl _, rfl, fun b x _ hb hc => by
  have : l ≠ b := by rintro rfl; rw [h] at hb; cases hb; rw [ho] at hc; cases hc
  exact (World.putObj_heap_other (Ne.symm this)).trans hb⟩
theorem KC.cell {B : Nat} {W W' : World} (h : KC B W W') {b i : Nat} {v : Value} (hb : b ≠ B) (hc : W.cell? ⟨b, i, none⟩ = some v) : W'.cell? ⟨b, i, none⟩ = some v := by
 unfold World.cell? at hc ⊢
 split at hc
 ·rename_i vs t q hh
  rw [h.keep b _ hb hh rfl]
  exact hc
 ·cases hc
mutual
theorem AtT.kept {n B : Nat} (hn : n ≤ B) {A C : World} (h : KC B A C) : ∀ (t : GT) {b o : Nat}, b < n → AtT n A b o t → AtT n C b o t
 | .node y th el, b, o, hb, ht => by
  simp only [AtT] at ht ⊢
  obtain ⟨c0, c1, c2, c3, c4, c5, c6, c7, s1, s2⟩ := ht
  have k : ∀ {i v}, A.cell? ⟨b, i, none⟩ = some v → C.cell? ⟨b, i, none⟩ = some v := fun hc => h.cell (by omega) hc
  exact ⟨k c0, k c1, k c2, k c3, k c4, k c5, k c6, k c7,
   s1.mono fun b' o' h' => ⟨h'.1, AtE.kept hn h th h'.1 h'.2⟩, s2.mono fun b' o' h' => ⟨h'.1, AtE.kept hn h el h'.1 h'.2⟩⟩
theorem AtE.kept {n B : Nat} (hn : n ≤ B) {A C : World} (h : KC B A C) : ∀ (l : List GT) {b o : Nat}, b < n → AtE n A b o l → AtE n C b o l
 | [], _, _, _, _ => by simp only [AtE]
 | t :: l, b, o, hb, ht => by
  simp only [AtE] at ht ⊢
  exact ⟨AtT.kept hn h t hb ht.1, AtE.kept hn h l hb ht.2⟩
end
theorem AtS.kept {n B : Nat} (hn : n ≤ B) {A C : World} (h : KC B A C) {v : Value} {l : List GT} (hs : AtS n A v l) : AtS n C v l :=
 Sli.mono hs fun _ _ h' => ⟨h'.1, AtE.kept hn h l h'.1 h'.2⟩
/-- An operation that is no call, by what it does. -/
theorem wpIn_run {F : Fence} {n : Nat} {P : Program} {o : Oper} {a : Act} {w w' : World} {K : Act → World → Prop} {Q : Exit → Act → World → Prop} {nx : Next} {v : Value} (ha : o.about P w a.eval = none) (hd : ∀ c, o.op ≠ .defer c)
  (h : (execOp a.eval o).run P w = .ok nx w') (hn : nx = .value v ∨ nx = .skip ∧ v = undef) (hk : K (a.put o.dst v) w') : o.wpIn F n P a w K Q := by
 refine ⟨fun f hf => (by rw [ha] at hf; cases hf), ?_⟩
 rw [Oper.semAt_eq _ _ _ hd, h]
 rcases hn with rfl | ⟨rfl, rfl⟩ <;> exact hk
theorem wpListIn_run {F : Fence} {n : Nat} {P : Program} {ops : Array Oper} {Q : Exit → Act → World → Prop} {rest : List Oper} {o : Oper} {a : Act} {w w' : World} {nx : Next} {v : Value} (hw : Region.wanted o (yielded ops a.tmps) = true) (ha : o.about P w a.eval = none) (hd : ∀ c, o.op ≠ .defer c)
  (h : (execOp a.eval o).run P w = .ok nx w') (hn : nx = .value v ∨ nx = .skip ∧ v = undef) (hk : wpListIn F n P ops Q rest (a.put o.dst v) w') : wpListIn F n P ops Q (o :: rest) a w :=
 BigFrame.wpListIn_want hw fun _ hK => wpIn_run ha hd h hn (hK _ _ hk)
theorem wpListIn_load {F : Fence} {n : Nat} {P : Program} {ops : Array Oper} {Q : Exit → Act → World → Prop} {rest : List Oper} {o : Oper} {a : Act} {w : World} {t : TypeId} {x : Operand} {v : Value} {p : Addr} (ho : o.op = .load t x) (hx : a.eval x = .pointer (some p)) (hw : Region.wanted o (yielded ops a.tmps) = true)
  (h : (loadVar t p).run P w = .ok v w) (hk : wpListIn F n P ops Q rest (a.put o.dst v) w) : wpListIn F n P ops Q (o :: rest) a w := by
 refine wpListIn_run hw ?_ ?_ (nx := .value v) ?_ (.inl rfl) hk
 ·unfold Oper.about; rw [ho]
 ·intro c hc; rw [ho] at hc; cases hc
 ·simp [execOp, ho, hx, Instr.loadAt, Instr.sureAddr, h]
theorem wpListIn_alloc {F : Fence} {n : Nat} {P : Program} {ops : Array Oper} {Q : Exit → Act → World → Prop} {rest : List Oper} {o : Oper} {a : Act} {w w' : World} {t : TypeId} {v : Value} (ho : o.op = .alloc t) (hw : Region.wanted o (yielded ops a.tmps) = true)
  (h : (execOp a.eval o).run P w = .ok (.value v) w') (hk : wpListIn F n P ops Q rest (a.put o.dst v) w') : wpListIn F n P ops Q (o :: rest) a w := by
 refine wpListIn_run hw ?_ ?_ (nx := .value v) h (.inl rfl) hk
 ·unfold Oper.about; rw [ho]
 ·intro c hc; rw [ho] at hc; cases hc
theorem wpListIn_store {F : Fence} {n : Nat} {P : Program} {ops : Array Oper} {Q : Exit → Act → World → Prop} {rest : List Oper} {o : Oper} {a : Act} {w w' : World} {t : TypeId} {x z : Operand} {u v : Value} (ho : o.op = .store t x z) (hx : a.eval x = u) (hz : a.eval z = v) (hw : Region.wanted o (yielded ops a.tmps) = true)
  (h : (Instr.storeAt t u v).run P w = .ok () w') (hk : wpListIn F n P ops Q rest (a.put o.dst undef) w') : wpListIn F n P ops Q (o :: rest) a w := by
 refine wpListIn_run hw ?_ ?_ (nx := .skip) ?_ (.inr ⟨rfl, rfl⟩) hk
 ·unfold Oper.about; rw [ho]
 ·intro c hc; rw [ho] at hc; cases hc
 ·subst hx; subst hz
  simp [execOp, ho, h]
/-- A new block, of which each cell is written. -/
theorem store_new {P : Program} {w : World} {t t' : TypeId} {zs vs : Array Value} {n : Nat} (hs : tSize P t = some n) (hz : zs.size = n) (hv : vs.size = n) (h1 : ∀ v, v ∈ vs.toList → v.oneCell' = true) :
  (Instr.storeAt t (.pointer (some ⟨w.heap.size, 0, none⟩)) (.agg vs)).run P (w.alloc (.cells zs t')) = .ok () (w.alloc (.cells vs t')) := by
 have hst := run_storeCells_at (P := P) w.heap.size 0 t' vs.toList 0 zs (w.alloc (.cells zs t')) (World.alloc_heap_new w _) (by simp; omega) h1
 simp only [Instr.storeAt, Instr.sureAddr, storeVar, Sem.run_bind, Sem.run_pure, Result.andThen_ok, tSize_run hs]
 rw [if_neg (by simp [Value.cells, hv])]
 simp only [Value.cells]
 have hl : vs.toList.length = n := by simpa using hv
 have e : (zs.toList.take (0 + 0) ++ vs.toList ++ zs.toList.drop (0 + 0 + vs.toList.length)).toArray = vs := by
  rw [hl]
  have : zs.toList.drop (0 + 0 + n) = [] := by apply List.drop_eq_nil_of_le; simp; omega
  rw [this]; simp
 rw [e] at hst
 rw [hst]
 congr 1
 simp only [World.setRow, World.alloc]
 congr 1
 apply Array.ext_getElem?
 intro i
 rw [Array.getElem?_modify]
 by_cases hi : w.heap.size = i
 ·subst hi; simp
 ·rw [if_neg hi]
  by_cases hlt : i < w.heap.size
  ·rw [Array.getElem?_push_lt hlt, Array.getElem?_push_lt hlt]
  ·rw [Array.getElem?_eq_none (by simp; omega), Array.getElem?_eq_none (by simp; omega)]
theorem agg_stm : tAgg Tryz.prog 31 = some true := by kernel_rfl
theorem siz_stm : tSize Tryz.prog 31 = some 8 := by kernel_rfl
theorem agg_sStm : tAgg Tryz.prog 29 = some false := by kernel_rfl
/-- A whole statement is loaded. -/
theorem load_stm {w : World} {b o : Nat} (y : Y) (c0 : w.cell? ⟨b, o, none⟩ = some (.int .i64 y.op)) (c1 : w.cell? ⟨b, o + 1, none⟩ = some y.v1) (c2 : w.cell? ⟨b, o + 2, none⟩ = some y.v2) (c3 : w.cell? ⟨b, o + 3, none⟩ = some y.v3)
  (c4 : w.cell? ⟨b, o + 4, none⟩ = some y.v4) (c5 : w.cell? ⟨b, o + 5, none⟩ = some y.v5) (c6 : w.cell? ⟨b, o + 6, none⟩ = some y.th) (c7 : w.cell? ⟨b, o + 7, none⟩ = some y.el) :
  (loadVar 31 ⟨b, o, none⟩).run Tryz.prog w = .ok y.enc w := by
 simp only [loadVar, Sem.run_bind, tAgg_run agg_stm, Result.andThen_ok, if_true, tSize_run siz_stm]
 rw [run_loadCells w ⟨b, o, none⟩ 8 (fun k => y.vs.getD k undef) (fun j hj => by
  rw [addr_add]
  have : j = 0 ∨ j = 1 ∨ j = 2 ∨ j = 3 ∨ j = 4 ∨ j = 5 ∨ j = 6 ∨ j = 7 := by omega
  rcases this with rfl | rfl | rfl | rfl | rfl | rfl | rfl | rfl <;> simp [Y.vs, *])]
 rfl
theorem ordL_ge : ∀ (l : List GT), l.length ≤ (ordL l).length
 | [] => Nat.le_refl _
 | .node y th el :: l => by
  have := ordL_ge l
  simp only [ordL, ordT, List.length_cons, List.length_append]
  omega
theorem pfx {gs : List GT} {j : Nat} {y : Y} {th el : List GT} (ht : gs[j]? = some (.node y th el)) {q : List Y} (hq : q <+: y :: (ordL th ++ ordL el)) : ordL (gs.take j) ++ q <+: ordL gs := by
 refine List.IsPrefix.trans ?_ (ordL_prefix gs (j + 1))
 rw [ordL_take_succ ht, ordT]
 exact (List.prefix_append_right_inj _).2 hq
set_option maxRecDepth 100000 in
set_option maxHeartbeats 2000000 in
theorem all_in (F : Fence) (hd : F.depth = none) (hf : F.fn 190) (hro : F.round = none) (l n B N : Nat) (hnB : n ≤ B) (hN : N ≤ 1000000000) (J Jx : List Y → World → Prop)
  (hJa : ∀ s W o, J s W → J s (W.alloc o))
  (hY : ∀ m pre y W, J pre W → pre.length < N → YieldAt F m Tryz.prog l #[y.enc] W fun e W' =>
   (e = .returned (.bool true) ∧ J (pre ++ [y]) W' ∧ KC B W W') ∨ (e = .returned (.bool false) ∧ Jx (pre ++ [y]) W')) : ∀ (k : Nat) (gs : List GT), depL gs < k →
  ∀ (n' : Nat) (v : Value) (pre : List Y) (W : World), AtS n W v gs → J pre W → B < W.heap.size → pre.length + (ordL gs).length ≤ N →
   CallsIn F n' Tryz.prog 190 #[v, .func (.yield l) #[] #[]] W fun e W' =>
    (e = .returned (.bool true) ∧ J (pre ++ ordL gs) W' ∧ KC B W W') ∨ (e = .returned (.bool false) ∧ ∃ q, q <+: ordL gs ∧ Jx (pre ++ q) W') := by
 intro k
 induction k with
 | zero => intro gs hdep; omega
 | succ k ih =>
  intro gs hdep n' v pre W hs hJ hB hlen
  obtain ⟨a0, cap, rfl, hat⟩ := hs
  have hdd : ∀ k : Nat, (F.depth.isSome = true → 1 ≤ k) := fun k h => by rw [hd] at h; cases h
  refine callsIn_of_wp Tryz.func190 rfl hf ?_ hro
  simp only [Tryz.ntmps190, List.size_toArray, List.length_cons, List.length_nil, Nat.reduceAdd, Nat.reduceSub, Array.replicate_succ, Array.replicate_zero, List.push_toArray, List.append_toArray, List.nil_append, List.cons_append]
  gi_wp2
  gi_loopw [9] (fun i wr => ∃ j : Nat, j ≤ gs.length ∧ i = .int .i64 j ∧ J (pre ++ ordL (gs.take j)) wr ∧ KC B W wr) (fun i _ => gs.length - (intOf i).toNat)
  case atStart => exact ⟨0, Nat.zero_le _, rfl, by simpa [ordL] using hJ, KC.refl _ _⟩
  case round =>
   obtain ⟨j, hj, rfl, hJs, hnx⟩ := hrel
   have hlg : gs.length < 1000000001 := by have := ordL_ge gs; omega
   by_cases hlt : j < gs.length
   ·obtain ⟨b, o, rfl, hbn, hE⟩ := hat (by omega)
    obtain ⟨y, th, el, ht⟩ : ∃ y th el, gs[j]? = some (.node y th el) := by
     cases h : gs[j] with | node y th el => exact ⟨y, th, el, by rw [List.getElem?_eq_getElem hlt, h]⟩
    have hT := AtT.kept hnB hnx _ hbn (AtE.get j _ hE ht)
    simp only [AtT] at hT
    obtain ⟨c0, c1, c2, c3, c4, c5, c6, c7, s1, s2⟩ := hT
    have hld := load_stm y c0 c1 c2 c3 c4 c5 c6 c7
    clear c0 c1 c2 c3 c4 c5 c6 c7
    have hst := fun zs (hz : zs.size = 8) => store_new (P := Tryz.prog) (w := wr) (t := 31) (t' := 31) (zs := zs) (vs := y.vs) siz_stm hz rfl y.one
    have b0 : ∀ i, (wr.alloc (.cells y.vs 31)).cell? ⟨wr.heap.size, i, none⟩ = y.vs[i]? := fun i => cell_of_row _ _ _ _ _ (0, 0) (World.alloc_heap_new wr _)
    have hld2 := load_stm y (b0 0) (b0 1) (b0 2) (b0 3) (b0 4) (b0 5) (b0 6) (b0 7)
    have hpl := ordL_len_le ht
    have hdt := depL_get ht
    simp only [ordT, depT, List.length_cons, List.length_append] at hpl hdt
    have hbx : wr.heap.size ≠ B := by have := hnx.size; omega
    have hsz : wr.heap.size + 1 = (wr.alloc (.cells y.vs 31)).heap.size := by simp
    obtain ⟨W2, hW2⟩ : ∃ W2, wr.alloc (.cells y.vs 31) = W2 := ⟨_, rfl⟩
    have hk2 : KC B wr W2 := by rw [← hW2]; exact KC.alloc _ _ _
    have hJ2 : J (pre ++ ordL (gs.take j)) W2 := by rw [← hW2]; exact hJa _ _ _ hJs
    have hy2 : YieldAt F (n' - 1) Tryz.prog l #[y.enc] W2 fun e W3 => (e = .returned (.bool true) ∧ J (pre ++ ordL (gs.take j) ++ [y]) W3 ∧ KC B W2 W3 ∧ W3.cell? ⟨wr.heap.size, 6, none⟩ = some y.th) ∨ (e = .returned (.bool false) ∧ Jx (pre ++ ordL (gs.take j) ++ [y]) W3) :=
     YieldAt.mono (hY (n' - 1) _ y W2 hJ2 (by simp; omega)) fun e W3 h => h.elim (fun ⟨he, hj, hk⟩ => .inl ⟨he, hj, hk, hk.cell hbx (by rw [← hW2]; exact b0 6)⟩) .inr
    have ih1 : ∀ W3, J (pre ++ ordL (gs.take j) ++ [y]) W3 → KC B W2 W3 → CallsIn F (n' - 1) Tryz.prog 190 #[y.th, .func (.yield l) #[] #[]] W3 fun e W4 =>
      (e = .returned (.bool true) ∧ J (pre ++ ordL (gs.take j) ++ [y] ++ ordL th) W4 ∧ KC B W2 W4 ∧ W4.cell? ⟨wr.heap.size, 7, none⟩ = some y.el) ∨ (e = .returned (.bool false) ∧ ∃ q, q <+: ordL th ∧ Jx (pre ++ ordL (gs.take j) ++ [y] ++ q) W4) := fun W3 hJ3 hk3 =>
     (ih th (by omega) (n' - 1) y.th _ W3 (AtS.kept hnB (hk2.trans hk3) s1) hJ3 (by have := hnx.size; have := hk2.size; have := hk3.size; omega) (by simp; omega)).mono fun e W4 h => h.elim
      (fun ⟨he, hj, hk⟩ => .inl ⟨he, hj, hk3.trans hk, (hk3.trans hk).cell hbx (by rw [← hW2]; exact b0 7)⟩) .inr
    have ih2 : ∀ W4, J (pre ++ ordL (gs.take j) ++ [y] ++ ordL th) W4 → KC B W2 W4 → CallsIn F (n' - 1) Tryz.prog 190 #[y.el, .func (.yield l) #[] #[]] W4 fun e W5 =>
      (e = .returned (.bool true) ∧ J (pre ++ ordL (gs.take j) ++ [y] ++ ordL th ++ ordL el) W5 ∧ KC B W2 W5) ∨ (e = .returned (.bool false) ∧ ∃ q, q <+: ordL el ∧ Jx (pre ++ ordL (gs.take j) ++ [y] ++ ordL th ++ q) W5) := fun W4 hJ4 hk4 =>
     (ih el (by omega) (n' - 1) y.el _ W4 (AtS.kept hnB (hk2.trans hk4) s2) hJ4 (by have := hnx.size; have := hk2.size; have := hk4.size; omega) (by simp; omega)).mono fun e W5 h => h.elim
      (fun ⟨he, hj, hk⟩ => .inl ⟨he, hj, hk4.trans hk⟩) .inr
    clear hY ih s1 s2
    rw [hW2] at hld2
    simp only [hW2] at hst
    obtain ⟨fn, tmps, assign, body, hy, hR⟩ := hy2
    gi_wp2_with (first
     | refine wpListIn_load (t := 31) rfl rfl rfl hld ?_
     | refine wpListIn_store (t := 31) rfl rfl rfl rfl (hst _ rfl) ?_
     | refine wpListIn_load (t := 31) rfl rfl rfl hld2 ?_
     | ((try refine ⟨hdd _, ?_⟩); refine hR.mono ?_; clear hR; rintro e W3 (⟨rfl, hJ3, hk3, c6'⟩ | ⟨rfl, hx3⟩))
     | ((try refine ⟨hdd _, ?_⟩); gi_at_call 190; refine (ih1 _ hJ3 hk3).mono ?_; clear ih1; rintro e W4 (⟨rfl, hJ4, hk4, c7'⟩ | ⟨rfl, q, hq, hx4⟩))
     | ((try refine ⟨hdd _, ?_⟩); gi_at_call 190; refine (ih2 _ hJ4 hk4).mono ?_; clear ih2; rintro e W5 (⟨rfl, hJ5, hk5⟩ | ⟨rfl, q, hq, hx5⟩)))
    ·go_roundw
     case rel => exact ⟨j + 1, by omega, by simp, by rw [ordL_take_succ ht, ordT]; simpa [List.append_assoc] using hJ5, hnx.trans (hk2.trans hk5)⟩
     case measure => simp [intOf]; omega
    ·go_ret
     exact .inr ⟨rfl, _, pfx ht (show y :: (ordL th ++ q) <+: _ from List.cons_prefix_cons.2 ⟨rfl, List.prefix_append_right_inj _ |>.2 hq⟩), by simpa [List.append_assoc] using hx5⟩
    ·go_ret
     exact .inr ⟨rfl, _, pfx ht (show y :: q <+: _ from List.cons_prefix_cons.2 ⟨rfl, hq.trans (List.prefix_append _ _)⟩), by simpa [List.append_assoc] using hx4⟩
    ·go_ret
     exact .inr ⟨rfl, _, pfx ht (show [y] <+: _ from List.cons_prefix_cons.2 ⟨rfl, List.nil_prefix⟩), by simpa [List.append_assoc] using hx3⟩
   ·obtain rfl : j = gs.length := by omega
    gi_wp2
    go_ret
    exact .inl ⟨rfl, by simpa using hJs, hnx⟩
end Go.Proofs.YtnoahchdmkpleaaGreat.RF

/-! Rf3 -/
namespace Go.Proofs.YtnoahchdmkpleaaGreat.RF
open Go Go.RowKit Go.Proofs.YtnoahchdmkpleaaGreat.VA
set_option linter.unusedSimpArgs false
set_option linter.unusedVariables false
attribute [local go_sem] Oper.semAt_some

theorem cell_of_box {W : World} {B : Nat} {v : Value} {t : TypeId} (h : W.heap[B]? = some (.cells #[v] t (0, 0))) : W.cell? ⟨B, 0, none⟩ = some v ∧ W.frozen? ⟨B, 0, none⟩ = false := by
 constructor <;> simp [World.cell?, World.frozen?, h]
theorem cell_new (W : World) (v : Value) (t : TypeId) : (W.alloc (.cells #[v] t)).cell? ⟨W.heap.size, 0, none⟩ = some v ∧ (W.alloc (.cells #[v] t)).frozen? ⟨W.heap.size, 0, none⟩ = false :=
 cell_of_box (World.alloc_heap_new W _)
theorem cell_alloc {W : World} {a : Addr} {v : Value} (o : Obj) (h : W.cell? a = some v) : (W.alloc o).cell? a = some v := cell_kept h (World.grownBy_alloc W o none) (fun r e => by cases e)
theorem frozen_alloc {W : World} {a : Addr} {v : Value} (o : Obj) (h : W.cell? a = some v) (hf : W.frozen? a = false) : (W.alloc o).frozen? a = false := (frozen_kept h (World.grownBy_alloc W o none) (fun r e => by cases e)).trans hf
theorem KC.setCell (W : World) (B i : Nat) (v : Value) : KC B W (W.setCell ⟨B, i, none⟩ v) := by
 refine ⟨by simp [World.setCell], rfl, fun b o hb ho _ => ?_⟩
 rw [← ho]
 exact Below.heap_setCell W _ v b hb
set_option maxHeartbeats 1000000 in
theorem all1_in (F : Fence) (hd : F.depth = none) (n : Nat) (h5 : F.fn 189) (h6 : F.fn 190) (hro : F.round = none) (l Bt n₀ B : Nat) (hB0 : n₀ ≤ B) (v : Value) (gs : List GT) (hN : (ordL gs).length ≤ 1000000000) (J Jx : List Y → World → Prop) (hJa : ∀ s W o, J s W → J s (W.alloc o))
  (hY : ∀ pre y W, J pre W → pre.length < (ordL gs).length → YieldAt F (n - 1) Tryz.prog l #[y.enc] W fun e W' =>
   (e = .returned (.bool true) ∧ J (pre ++ [y]) W' ∧ KC B W W') ∨ (e = .returned (.bool false) ∧ Jx (pre ++ [y]) W'))
  (W : World) (hBt : W.cell? ⟨Bt, 0, none⟩ = some v) (hB : B < W.heap.size) (hT : AtS n₀ W v gs) (h0 : J [] W) :
  CallsIn F n Tryz.prog 189 #[.func (.yield l) #[] #[], .pointer (some ⟨Bt, 0, none⟩)] W fun e W' => (∃ v, e = .returned v) ∧
   ((∃ ys, ys = ordL gs ∧ J ys W') ∨ (∃ pre, pre <+: ordL gs ∧ Jx pre W')) := by
 have hdd : ∀ k : Nat, (F.depth.isSome = true → 1 ≤ k) := fun k h => by rw [hd] at h; cases h
 have hp := all_in F hd h6 hro l n₀ B (ordL gs).length hB0 hN J Jx hJa (fun m pre x W hj hl => YieldAt.anyDepth hd m (hY pre x W hj hl)) (depL gs + 1) gs (by omega) (n - 1) v [] W hT h0 hB (by simp)
 clear hY
 obtain ⟨a, cap, rfl, _⟩ := hT
 refine callsIn_of_wp Tryz.func189 rfl h5 ?_ hro
 simp only [Tryz.ntmps189, List.size_toArray, List.length_cons, List.length_nil, Nat.reduceAdd, Nat.reduceSub, Array.replicate_succ, Array.replicate_zero, List.push_toArray, List.append_toArray, List.nil_append, List.cons_append]
 gi_wp2_with ((try refine ⟨hdd _, ?_⟩); gi_at_call 190; refine hp.mono ?_; clear hp; rintro e W1 (⟨rfl, hJ1, _⟩ | ⟨rfl, q, hq, hx⟩))
 ·go_end0
  exact ⟨⟨_, rfl⟩, .inl ⟨_, rfl, by simpa using hJ1⟩⟩
 ·go_end0
  exact ⟨⟨_, rfl⟩, .inr ⟨q, hq, by simpa using hx⟩⟩
set_option maxHeartbeats 1000000 in
theorem All_in (F : Fence) (n : Nat) (h4 : F.fn 148) (hro : F.round = none) (a : Option Addr) (ln c : Nat) (w : World) :
  CallsIn F n Tryz.prog 148 #[.slice a ln c] w fun e w' => e = .returned (.func (.func 189) #[] #[.pointer (some ⟨w.heap.size, 0, none⟩)]) ∧ w' = w.alloc (.cells #[.slice a ln c] 29) := by
 refine callsIn_of_wp Tryz.func148 rfl h4 ?_ hro
 simp only [Tryz.ntmps148, List.size_toArray, List.length_cons, List.length_nil, Nat.reduceAdd, Nat.reduceSub, Array.replicate_succ, Array.replicate_zero, List.push_toArray, List.append_toArray, List.nil_append, List.cons_append]
 gi_wp2
 go_ret
 exact ⟨rfl, rfl⟩
theorem KC_b {B : Nat} {w : World} (W : World) (l : Nat) (o o' : Obj) (_ : w.heap.size ≤ l) (h : W.heap[l]? = some o) (hc : o.isCells = false) : KC B W (W.putObj l o') := KC.putObj _ h hc
/-- A loop over an iterator whose body always goes on, and draws nothing. -/
theorem range_walk {α : Type} {F : Fence} {n : Nat} {P : Program} {g : Operand} {ps : Array Tmp} {assign body : Code} {Q : Exit → Act → World → Prop} {a : Act} {w : World} (hro : F.round = none) (h1 : 1 ≤ n)
  {gf : Nat} {lb : Array Value} (hg : a.eval g = .func (.func gf) #[] lb) (hFg : F.fn gf) (eg : ∀ args w, (callFunc gf args).run P w = .ok (.enter gf args) w)
  {encs : α → Array Value} (hps : ∀ x, (encs x).size = ps.size) (I : List α → World → Prop) (Ax : α → Act → World → Prop) (Kp : World → World → Prop) (xs : List α) (N : Nat)
  (hIa : ∀ s W o, I s W → I s (W.alloc o)) (hIp : ∀ s W l o o', I s W → w.heap.size ≤ l → W.heap[l]? = some o → o.isCells = false → I s (W.putObj l o'))
  (hAp : ∀ x a' W l o o', Ax x a' W → w.heap.size ≤ l → W.heap[l]? = some o → o.isCells = false → Ax x a' (W.putObj l o'))
  (hKt : ∀ {A B C : World}, Kp A B → Kp B C → Kp A C) (hKp : ∀ (W : World) (l : Nat) (o o' : Obj), w.heap.size ≤ l → W.heap[l]? = some o → o.isCells = false → Kp W (W.putObj l o'))
  (hit : ∀ (l : Nat) (J : List α → World → Prop) (W : World), Below w.heap.size w W → (∀ s W o, J s W → J s (W.alloc o)) →
   (∀ pre x W, J pre W → pre.length < N → YieldAt F (n - 1 - 1) P l (encs x) W fun e W' => e = .returned (.bool true) ∧ J (pre ++ [x]) W' ∧ Kp W W') → J [] W →
   CallsIn F (n - 1) P gf (#[.func (.yield l) #[] #[]] ++ lb) W fun e W' => (∃ v, e = .returned v) ∧ J xs W')
  (h0 : I [] w)
  (hassign : ∀ (l : Nat) (pre : List α) (x : α) (W : World) (K : Act → World → Prop), I pre W → (∀ a' W', KeepsOthers W W' → Kp W W' → I pre W' → Ax x a' W' → K a' W') →
   assign.wpIn (F.inRound l) (n - 1 - 1) P (Exit.then K (fun _ _ _ => False)) { tmps := (ps.zip (encs x)).foldl (fun t (p, v) => t.setIfInBounds p v) a.tmps, defers := [] } W)
  (hbody : ∀ (l : Nat) (pre : List α) (x : α) (a' : Act) (W : World), I pre W → Ax x a' W → pre.length < N → body.wpIn (F.inRound l) (n - 1 - 1) P (fun e _ W' => e = .normal ∧ KeepsOthers W W' ∧ Kp W W' ∧ I (pre ++ [x]) W') a' W)
  (hdone : ∀ (D : Nat) (W : World), w.heap.size ≤ D → I xs W → W.heap[D]? = some (.deferred (some [])) → Q .normal { a with defers := { target := .collected D, args := #[] } :: a.defers } W) :
  (Code.rangeFunc g ps assign body).wpIn F n P Q a w := by
 refine wpIn_rangeFunc fun fn hfn => ?_
 rw [hro]
 let rec_ : LoopState → Loop := fun st => { state := st, pending := none, fn, tmps := a.tmps, params := ps, assign, body, defers := w.heap.size }
 have e1 : ((w.alloc (.deferred (some []))).alloc (.loop (rec_ .ready))).heap[w.heap.size + 1]? = some (.loop (rec_ .ready)) := by
  have := World.alloc_heap_new (w.alloc (.deferred (some []))) (.loop (rec_ .ready)); rwa [World.size_alloc] at this
 have e2 : ((w.alloc (.deferred (some []))).alloc (.loop (rec_ .ready))).heap[w.heap.size]? = some (.deferred (some [])) :=
  (Below.heap_alloc _ _ _ (by simp)).trans (World.alloc_heap_new w _)
 have e3 : I [] ((w.alloc (.deferred (some []))).alloc (.loop (rec_ .ready))) := hIa _ _ _ (hIa _ _ _ h0)
 have e4 : Below w.heap.size w ((w.alloc (.deferred (some []))).alloc (.loop (rec_ .ready))) := ((Below.refl _ w).alloc (Nat.le_refl _) _).alloc (by simp) _
 refine ⟨w.heap.size + 1, [{ target := .collected w.heap.size, args := #[] }], (w.alloc (.deferred (some []))).alloc (.loop (rec_ .ready)), { target := .fn (.func gf) lb, args := #[.func (.yield (w.heap.size + 1)) #[] #[]] },
  (w.alloc (.deferred (some []))).alloc (.loop (rec_ .ready)), gf, #[.func (.yield (w.heap.size + 1)) #[] #[]] ++ lb, (w.alloc (.deferred (some []))).alloc (.loop (rec_ .ready)), run_enterLoop_outer _ _ _ _ _, ?_, ?_, ?_, fun _ => h1, ?_⟩
 ·simp only [resolve, hg]
  simp [go_sem]
 ·intro f' hf'; simp [Target.leads] at hf'; subst hf'; exact hFg
 ·simp [invoke, go_sem, eg]
 ·refine (hit (w.heap.size + 1) (fun pre W => I pre W ∧ W.heap[w.heap.size + 1]? = some (.loop (rec_ .ready)) ∧ W.heap[w.heap.size]? = some (.deferred (some []))) _ e4 ?_ ?_ ⟨e3, e1, e2⟩).mono ?_
  ·rintro s W o ⟨i1, i2, i3⟩
   exact ⟨hIa _ _ _ i1, (Below.heap_alloc W o _ (Array.getElem?_eq_some_iff.1 i2).1).trans i2, (Below.heap_alloc W o _ (Array.getElem?_eq_some_iff.1 i3).1).trans i3⟩
  ·rintro pre x W ⟨i1, i2, i3⟩ hlen
   refine ⟨fn, _, assign, body, run_yield (P := P) (args := encs x) i2 (hps x), roundIn_of_wpIn hfn (hassign _ pre x W _ i1 ?_)⟩
   intro a' W2 k1 k2 i4 ax
   have j2 := k1.same _ _ i2 rfl
   have j3 := k1.same _ _ i3 rfl
   refine ⟨_, run_beginRound j2 rfl, ?_⟩
   have hlt := (Array.getElem?_eq_some_iff.1 j2).1
   have l2 : (W2.putObj (w.heap.size + 1) (.loop { rec_ .ready with state := .busy })).heap[w.heap.size + 1]? = some (.loop { rec_ .ready with state := .busy }) := World.putObj_heap_same hlt
   have l3 : (W2.putObj (w.heap.size + 1) (.loop { rec_ .ready with state := .busy })).heap[w.heap.size]? = some (.deferred (some [])) := (World.putObj_heap_other (by omega)).trans j3
   refine wpIn_mono (hbody _ pre x a' _ (hIp _ _ _ _ _ i4 (by omega) j2 rfl) (hAp _ _ _ _ _ _ ax (by omega) j2 rfl) hlen) ?_
   rintro e a3 W3 ⟨rfl, k3, k4, i5⟩
   have m2 := k3.same _ _ l2 rfl
   have m3 := k3.same _ _ l3 rfl
   have hr := run_endRound (P := P) none m2
   exact ⟨_, _, hr, rfl, ⟨hIp _ _ _ _ _ i5 (by omega) m2 rfl, World.putObj_heap_same (Array.getElem?_eq_some_iff.1 m2).1, (World.putObj_heap_other (by omega)).trans m3⟩,
    hKt k2 (hKt (hKp _ _ _ _ (by omega) j2 rfl) (hKt k4 (hKp _ _ _ _ (by omega) m2 rfl)))⟩
  ·rintro e W2 ⟨⟨v, rfl⟩, i1, i2, i3⟩
   exact ⟨none, _, run_endLoop (P := P) i2 (by simp [rec_]), hdone _ _ (Nat.le_refl _) (hIp _ _ _ _ _ i1 (by omega) i2 rfl) ((World.putObj_heap_other (by omega)).trans i3)⟩
theorem all_it (F : Fence) (hd : F.depth = none) (n : Nat) (h5 : F.fn 189) (h6 : F.fn 190) (hro : F.round = none) (Bt B : Nat) (v : Value) (gs : List GT) (hN : (ordL gs).length ≤ 1000000000) (w : World) (n₀ : Nat) (hBt : Bt < w.heap.size) (hB0 : n₀ ≤ B) (hB : B < w.heap.size)
  (hc : w.cell? ⟨Bt, 0, none⟩ = some v) (hT : AtS n₀ w v gs) (l : Nat) (J : List Y → World → Prop) (W : World) (hW : Below w.heap.size w W) (hJa : ∀ s W o, J s W → J s (W.alloc o))
  (hY : ∀ pre y W, J pre W → pre.length < (ordL gs).length → YieldAt F (n - 1) Tryz.prog l #[y.enc] W fun e W' => e = .returned (.bool true) ∧ J (pre ++ [y]) W' ∧ KC B W W') (h0 : J [] W) :
  CallsIn F n Tryz.prog 189 (#[.func (.yield l) #[] #[]] ++ #[.pointer (some ⟨Bt, 0, none⟩)]) W fun e W' => (∃ v, e = .returned v) ∧ J (ordL gs) W' :=
 (all1_in F hd n h5 h6 hro l Bt n₀ B hB0 v gs hN J (fun _ _ => False) hJa (fun pre y W h1 h2 => YieldAt.mono (hY pre y W h1 h2) fun _ _ h => .inl h) W ((hW.cell (p := ⟨Bt, 0, none⟩) hBt).trans hc) (by have := hW.size; omega) (AtS.below (hW.mono (by omega)) hT) h0).mono
  fun e W' h => ⟨h.1, h.2.elim (fun ⟨ys, h1, hj⟩ => h1 ▸ hj) (fun ⟨_, _, hf⟩ => hf.elim)⟩
theorem cell_put {W : World} {l : Nat} {o o' : Obj} {a : Addr} {v : Value} (h : W.cell? a = some v) (hl : W.heap[l]? = some o) (ho : o.isCells = false) : (W.putObj l o').cell? a = some v ∧ (W.putObj l o').frozen? a = W.frozen? a :=
 ⟨cell_kept h (grownBy_putObj' W l o') (fun r e => by cases e; exact ⟨o, hl, ho⟩), frozen_kept h (grownBy_putObj' W l o') (fun r e => by cases e; exact ⟨o, hl, ho⟩)⟩
theorem below_put {W w : World} {l : Nat} {o o' : Obj} (h : Below w.heap.size w W) (hl : w.heap.size ≤ l) (hh : W.heap[l]? = some o) : Below w.heap.size w (W.putObj l o') :=
 ⟨h.os, h.tape, h.output, by rw [size_putObj]; exact h.size, fun k hk => (World.putObj_heap_other (by omega)).trans (h.block k hk)⟩
set_option maxRecDepth 100000 in
set_option maxHeartbeats 2000000 in
/-- number.Count -/
theorem Count_in (F : Fence) (hd : F.depth = none) (n : Nat) (h3 : F.fn 99) (h4 : F.fn 148) (h5 : F.fn 189) (h6 : F.fn 190) (hro : F.round = none) (hn : 3 ≤ n) (v : Value) (gs : List GT) (hN : (ordL gs).length ≤ 1000000000) (w : World) (hL : AtS w.heap.size w v gs) :
  CallsIn F n Tryz.prog 99 #[v] w fun e W' => e = .returned (.int .i64 (ordL gs).length) ∧ Below w.heap.size w W' ∧ W'.drawn = w.drawn := by
 have h1 : 1 ≤ n := by omega
 obtain ⟨va, vcap, hv⟩ : ∃ a cap, v = .slice a gs.length cap := by obtain ⟨a, cap, hv, _⟩ := hL; exact ⟨a, cap, hv⟩
 subst hv
 refine callsIn_of_wp_marks Tryz.func99 rfl h3 ?_ hro
 simp only [Tryz.ntmps99, List.size_toArray, List.length_cons, List.length_nil, Nat.reduceAdd, Nat.reduceSub, Array.replicate_succ, Array.replicate_zero, List.push_toArray, List.append_toArray, List.nil_append, List.cons_append]
 gi_wp2_with (gi_at_call 148; refine (All_in F (n - 1) h4 hro _ _ _ _).mono ?_; rintro e w' ⟨rfl, rfl⟩)
 have hs := cell_new w (.int .i64 0) 3
 have hb := cell_new (w.alloc (.cells #[.int .i64 0] 3)) (.slice va gs.length vcap) 29
 rw [World.size_alloc] at hb
 have hB0 : Below w.heap.size w ((w.alloc (.cells #[.int .i64 0] 3)).alloc (.cells #[.slice va gs.length vcap] 29)) := ((Below.refl _ w).alloc (Nat.le_refl _) _).alloc (by simp) _
 refine range_walk hro h1 (gf := 189) (lb := #[.pointer (some ⟨w.heap.size + 1, 0, none⟩)]) rfl h5 (enters_of Tryz.func189 (by kernel_rfl) rfl) (encs := fun y : Y => #[y.enc]) (fun _ => rfl)
  (fun pre W => (W.cell? ⟨w.heap.size, 0, none⟩ = some (.int .i64 pre.length) ∧ W.frozen? ⟨w.heap.size, 0, none⟩ = false) ∧ Below w.heap.size w W ∧ W.drawn = w.drawn)
  (fun x a' _ => a' = { tmps := #[.slice va gs.length vcap, undef, .int .i64 0, .pointer (some ⟨w.heap.size, 0, none⟩), .slice va gs.length vcap, .func (.func 189) #[] #[.pointer (some ⟨w.heap.size + 1, 0, none⟩)], x.enc, undef, undef, undef], defers := [] })
  (KC w.heap.size) (ordL gs) (ordL gs).length
  (fun s W o ⟨⟨i1, i2⟩, i3, i4⟩ => ⟨⟨cell_alloc _ i1, frozen_alloc _ i1 i2⟩, i3.alloc i3.size _, i4⟩)
  (fun s W l o o' ⟨⟨i1, i2⟩, i3, i4⟩ hl hh ho => ⟨⟨(cell_put i1 hh ho).1, (cell_put i1 hh ho).2.trans i2⟩, below_put i3 (by simp at hl; omega) hh, i4⟩)
  (fun x a' W l o o' h _ _ _ => h) KC.trans KC_b
  (fun l J W hW hJa hY h0 => all_it F hd (n - 1) h5 h6 hro (w.heap.size + 1) w.heap.size _ gs hN _ w.heap.size (by simp) (Nat.le_refl _) (by simp; omega) hb.1 (hL.below hB0) l J W hW hJa hY h0)
  ⟨⟨cell_alloc _ hs.1, frozen_alloc _ hs.1 hs.2⟩, hB0, rfl⟩ ?assign ?body ?done
 case assign =>
  intro l pre x W K hi hK
  have hK' := hK _ W (KeepsOthers.refl _) (KC.refl _ _) hi rfl
  gi_wp2
  first | exact hK' | simpa using hK'
 case body =>
  rintro l pre x a' W ⟨⟨hc, hf⟩, hB, hdr⟩ rfl hlt
  have hlt2 : (pre.length : Int) < 1000000000 := by omega
  gi_wp2
  exact ⟨KeepsOthers.setCell _ _ _, KC.setCell _ _ _ _, hB.setCell (p := ⟨w.heap.size, 0, none⟩) (Nat.le_refl _) _⟩
 case done =>
  rintro D W hD ⟨⟨hc, _⟩, hB, hdr⟩ hK
  gi_wp2
  refine ⟨by simp, .inl ⟨_, _, rfl, run_takeDeferred hK, ?_⟩⟩
  exact ⟨_, results_tmp rfl _ _ _, rfl, hB.trans (belowK_b (w := w) (Nat.le_refl _) W D _ _ (by simp at hD; omega) hK rfl rfl), hdr⟩
def sitY (l : List Y) : Nat := (l.filter fun y => decide (y.op = 4)).length
theorem sitY_snoc (l : List Y) (y : Y) : sitY (l ++ [y]) = sitY l + if y.op = 4 then 1 else 0 := by
 simp only [sitY, List.filter_append, List.length_append, List.filter_cons, List.filter_nil]
 by_cases h : y.op = 4 <;> simp [h]
theorem sitY_le (l : List Y) : sitY l ≤ l.length := List.length_filter_le _ _
set_option maxRecDepth 100000 in
set_option maxHeartbeats 4000000 in
/-- number.Sites -/
theorem Sites_in (F : Fence) (hd : F.depth = none) (n : Nat) (h3 : F.fn 100) (h4 : F.fn 148) (h5 : F.fn 189) (h6 : F.fn 190) (hro : F.round = none) (hn : 3 ≤ n) (v : Value) (gs : List GT) (hN : (ordL gs).length ≤ 1000000000) (w : World) (hL : AtS w.heap.size w v gs) :
  CallsIn F n Tryz.prog 100 #[v] w fun e W' => e = .returned (.int .i64 (sitY (ordL gs))) ∧ Below w.heap.size w W' ∧ W'.drawn = w.drawn := by
 have h1 : 1 ≤ n := by omega
 obtain ⟨va, vcap, hv⟩ : ∃ a cap, v = .slice a gs.length cap := by obtain ⟨a, cap, hv, _⟩ := hL; exact ⟨a, cap, hv⟩
 subst hv
 refine callsIn_of_wp_marks Tryz.func100 rfl h3 ?_ hro
 simp only [Tryz.ntmps100, List.size_toArray, List.length_cons, List.length_nil, Nat.reduceAdd, Nat.reduceSub, Array.replicate_succ, Array.replicate_zero, List.push_toArray, List.append_toArray, List.nil_append, List.cons_append]
 gi_wp2_with (gi_at_call 148; refine (All_in F (n - 1) h4 hro _ _ _ _).mono ?_; rintro e w' ⟨rfl, rfl⟩)
 have hs := cell_new w (.int .i64 0) 3
 have hb := cell_new (w.alloc (.cells #[.int .i64 0] 3)) (.slice va gs.length vcap) 29
 rw [World.size_alloc] at hb
 have hB0 : Below w.heap.size w ((w.alloc (.cells #[.int .i64 0] 3)).alloc (.cells #[.slice va gs.length vcap] 29)) := ((Below.refl _ w).alloc (Nat.le_refl _) _).alloc (by simp) _
 refine range_walk hro h1 (gf := 189) (lb := #[.pointer (some ⟨w.heap.size + 1, 0, none⟩)]) rfl h5 (enters_of Tryz.func189 (by kernel_rfl) rfl) (encs := fun y : Y => #[y.enc]) (fun _ => rfl)
  (fun pre W => (W.cell? ⟨w.heap.size, 0, none⟩ = some (.int .i64 (sitY pre)) ∧ W.frozen? ⟨w.heap.size, 0, none⟩ = false) ∧ Below w.heap.size w W ∧ W.drawn = w.drawn)
  (fun x a' W => ∃ Bx, W.cell? ⟨Bx, 0, none⟩ = some (.int .i64 x.op) ∧ a' = { tmps := #[.slice va gs.length vcap, undef, .int .i64 0, .pointer (some ⟨w.heap.size, 0, none⟩), .pointer (some ⟨Bx, 0, none⟩), .slice va gs.length vcap, .func (.func 189) #[] #[.pointer (some ⟨w.heap.size + 1, 0, none⟩)], x.enc, undef, undef, undef, undef, undef, undef], defers := [] })
  (KC w.heap.size) (ordL gs) (ordL gs).length
  (fun s W o ⟨⟨i1, i2⟩, i3, i4⟩ => ⟨⟨cell_alloc _ i1, frozen_alloc _ i1 i2⟩, i3.alloc i3.size _, i4⟩)
  (fun s W l o o' ⟨⟨i1, i2⟩, i3, i4⟩ hl hh ho => ⟨⟨(cell_put i1 hh ho).1, (cell_put i1 hh ho).2.trans i2⟩, below_put i3 (by simp at hl; omega) hh, i4⟩)
  (fun x a' W l o o' ⟨Bx, h1, h2⟩ _ hh ho => ⟨Bx, (cell_put h1 hh ho).1, h2⟩) KC.trans KC_b
  (fun l J W hW hJa hY h0 => all_it F hd (n - 1) h5 h6 hro (w.heap.size + 1) w.heap.size _ gs hN _ w.heap.size (by simp) (Nat.le_refl _) (by simp; omega) hb.1 (hL.below hB0) l J W hW hJa hY h0)
  ⟨⟨cell_alloc _ hs.1, frozen_alloc _ hs.1 hs.2⟩, hB0, rfl⟩ ?assign ?body ?done
 case assign =>
  rintro l pre x W K ⟨⟨hc, hf⟩, hB, hdr⟩ hK
  have hst := fun zs (hz : zs.size = 8) => store_new (P := Tryz.prog) (w := W) (t := 31) (t' := 31) (zs := zs) (vs := x.vs) siz_stm hz rfl x.one
  have b0 : (W.alloc (.cells x.vs 31)).cell? ⟨W.heap.size, 0, none⟩ = some (.int .i64 x.op) := cell_of_row _ _ _ _ _ (0, 0) (World.alloc_heap_new W _)
  gi_wp2_with (refine wpListIn_store (t := 31) rfl rfl rfl rfl (hst _ rfl) ?_)
  refine hK _ _ (KeepsOthers.alloc _ _) (KC.alloc _ _ _) ⟨⟨cell_alloc _ hc, frozen_alloc _ hc hf⟩, hB.alloc hB.size _, hdr⟩ ⟨W.heap.size, b0, ?_⟩
  rfl
 case body =>
  rintro l pre x a' W ⟨⟨hc, hf⟩, hB, hdr⟩ ⟨Bx, bx, rfl⟩ hlt
  have hlt2 : (sitY pre : Int) < 1000000000 := by have := sitY_le pre; omega
  clear hlt hN hL hs hb hB0
  have hsn := sitY_snoc pre x
  by_cases hx : x.op = 4
  ·rw [if_pos hx] at hsn
   rw [hx] at bx
   clear hx
   gi_wp2
   exact ⟨KeepsOthers.setCell _ _ _, KC.setCell _ _ _ _, hB.setCell (p := ⟨w.heap.size, 0, none⟩) (Nat.le_refl _) _⟩
  ·rw [if_neg hx] at hsn
   obtain ⟨k, hk⟩ : ∃ k, x.op = k := ⟨_, rfl⟩
   rw [hk] at bx hx
   clear hk
   have hx' : (k == 4) = false := by simpa using hx
   clear hx
   gi_wp2
   exact ⟨KeepsOthers.refl _, KC.refl _ _⟩
 case done =>
  rintro D W hD ⟨⟨hc, _⟩, hB, hdr⟩ hK
  gi_wp2
  refine ⟨by simp, .inl ⟨_, _, rfl, run_takeDeferred hK, ?_⟩⟩
  exact ⟨_, results_tmp rfl _ _ _, rfl, hB.trans (belowK_b (w := w) (Nat.le_refl _) W D _ _ (by simp at hD; omega) hK rfl rfl), hdr⟩
end Go.Proofs.YtnoahchdmkpleaaGreat.RF

/-! Rf4 -/
namespace Go.Proofs.YtnoahchdmkpleaaGreat.RF
open Go Go.RowKit Go.Proofs.YtnoahchdmkpleaaGreat.VA
set_option linter.unusedSimpArgs false
set_option linter.unusedVariables false

theorem below_step {g : Gh} {H : Heap} {w w' : World} (hi : Inv g H w) (h : Below w.heap.size w w') (hd : w'.drawn = w.drawn) : Ext g w g w' ∧ Inv g H w' := by
 have hcell : ∀ b, b < w.heap.size → ∀ o, w'.cell? ⟨b, o, none⟩ = w.cell? ⟨b, o, none⟩ := fun b hb o => by
  simp only [World.cell?, h.block b hb]
 have hext : Ext g w g w' := by
  refine ⟨rfl, h.os, h.tape, ⟨h.output, Nat.le_of_eq hd.symm⟩, h.size, fun b hb => h.block b (Nat.lt_of_lt_of_le hb hi.lo), fun _ _ => rfl, fun _ => Nat.le_refl _, ?_, fun _ _ h => h, fun _ _ h => h, rfl⟩
  intro b o ho
  by_cases hb : b < w.heap.size
  ·exact hcell b hb o
  ·rw [hi.fresh b (by omega)] at ho; omega
 refine ⟨hext, Nat.le_trans hi.lo h.size, fun b hb => hi.fresh b (Nat.le_trans h.size hb), fun r b hb => ⟨(hi.boxS r b hb).1, Nat.lt_of_lt_of_le (hi.boxS r b hb).2 h.size⟩, hi.boxB, hi.boxI, ?_, ?_, hi.liveI, ?_, ?_,
  g.cond.stable hi.cond (Nat.le_refl _) (fun b hb => h.block b (Nat.lt_of_lt_of_le hb hi.lo))⟩
 ·intro r cs b hr h1
  obtain ⟨vs, t, h2, h3⟩ := hi.box r cs b hr h1
  exact ⟨vs, t, by rw [h.block b (hi.boxS r b h1).2]; exact h2, h3.ext hext⟩
 ·intro s hs
  obtain ⟨b, m, cap, e, sz, vs, h1, h2, h3, h4⟩ := hi.live s hs
  exact ⟨b, m, cap, e, sz, vs, h1, h2, by rw [h.block b (Array.getElem?_eq_some_iff.1 h3).1]; exact h3, h4⟩
 ·intro r ks vs hr
  obtain ⟨b, es, clock, h1, h2, h3, h4⟩ := hi.map r ks vs hr
  exact ⟨b, es, clock, h1, by rw [h.block b (hi.boxS r b h1).2]; exact h2, h3.ext hext, h4.ext hext⟩
 ·intro r b n cap e sz h1 h2 h3
  obtain ⟨k1, vs, k2, k3⟩ := hi.arr r b n cap e sz h1 h2 h3
  exact ⟨k1, vs, by rw [h.block b (hi.boxS r b h2).2]; exact k2, k3⟩
def cntV : Nat → List (List AV) → Option (Nat × Nat)
 | 0, es => match es with
  | [] => some (0, 0)
  | _ :: _ => none
 | k + 1, es => match es with
  | [] => some (0, 0)
  | e :: es => match e with
   | [.lit (.int .i64 op), _, _, _, _, _, .sl _ th, .sl _ el] =>
    match cntV k th, cntV k el, cntV k es with
    | some a, some b, some c => some (1 + (a.1 + b.1) + c.1, (if op = 4 then 1 else 0) + (a.2 + b.2) + c.2)
    | _, _, _ => none
   | _ => none
def tCnt (sel : Nat × Nat → Nat) (args : List AV) : Option AV :=
 match args with
 | [.sl _ es] =>
  match cntV 200 es with
  | some p => if p.1 ≤ 1000000000 then some (.lit (.int .i64 (sel p))) else none
  | none => none
 | _ => none
theorem sitY_app (a b : List Y) : sitY (a ++ b) = sitY a + sitY b := by simp [sitY]
theorem sitY_cons (y : Y) (b : List Y) : sitY (y :: b) = (if y.op = 4 then 1 else 0) + sitY b := by
 have := sitY_app [y] b
 rw [show [y] ++ b = y :: b from rfl] at this
 rw [this]
 have := sitY_snoc [] y
 simp [sitY] at this ⊢
 exact this
/-- A list of statements, as the interpreter sees it, is one in memory. -/
theorem rel_elems {g : Gh} {w : World} : ∀ (k : Nat) (es : List (List AV)) (p : Nat × Nat), cntV k es = some p → ∀ (b off : Nat) (f : Nat → Value), (∀ j, j < es.length * 8 → w.cell? ⟨b, off + j, none⟩ = some (f j)) →
  (∀ j, j < es.length * 8 → (f j).oneCell' = true) → (∀ (i : Nat) (e : List AV) (j : Nat) (x : AV), es[i]? = some e → e[j]? = some x → Rel g w x (f (i * 8 + j))) →
  ∃ gs, gs.length = es.length ∧ AtE w.heap.size w b off gs ∧ (ordL gs).length = p.1 ∧ sitY (ordL gs) = p.2 := by
 intro k
 induction k with
 | zero =>
  intro es p h b off f _ _ _
  cases es with
  | nil => simp [cntV] at h; subst h; exact ⟨[], rfl, by simp only [AtE], rfl, rfl⟩
  | cons e es => simp [cntV] at h
 | succ k ih =>
  intro es p h b off f hc h1 hr
  cases es with
  | nil => simp [cntV] at h; subst h; exact ⟨[], rfl, by simp only [AtE], rfl, rfl⟩
  | cons e es =>
   simp only [cntV] at h
   split at h
   ·rename_i op a1 a2 a3 a4 a5 o1 th o2 el
    split at h
    ·rename_i p1 p2 p3 h2 h3 h4
     simp only [Option.some.injEq] at h
     subst h
     have sub : ∀ (o : VA.Own) (es' : List (List AV)) (v : Value) (q : Nat × Nat), cntV k es' = some q → Rel g w (.sl o es') v → ∃ gs, Sli v gs.length (fun b' o' => b' < w.heap.size ∧ AtE w.heap.size w b' o' gs) ∧ (ordL gs).length = q.1 ∧ sitY (ordL gs) = q.2 := by
      intro o es' v q hq hv
      by_cases hes : es' = []
      ·subst hes
       have : q = (0, 0) := by cases k <;> simp [cntV] at hq <;> exact hq.symm
       subst this
       obtain ⟨a, c, rfl, _⟩ := hv.sl_inv
       exact ⟨[], ⟨a, c, rfl, fun h => absurd rfl h⟩, rfl, rfl⟩
      ·cases hv with
       | nil => exact absurd rfl hes
       | sl _ _ a n cap sz f' ho hn hcap hex hown hsz h1' ha hr' =>
        have h8 : sz = 8 := by
         cases es' with
         | nil => exact absurd rfl hes
         | cons e' es'' =>
          have := hsz e' (List.mem_cons_self ..)
          cases k with
          | zero => simp [cntV] at hq
          | succ k =>
           simp only [cntV] at hq
           split at hq
           ·simpa using this.symm
           ·cases hq
        subst h8
        subst hn
        have hn0 : es'.length ≠ 0 := fun hh => hes (List.length_eq_zero_iff.1 hh)
        obtain ⟨b', off', rfl, _, hcell⟩ := ha hn0
        obtain ⟨gs, q1, q2, q3, q4⟩ := ih es' q hq b' off' f' hcell h1' hr'
        have hlt : b' < w.heap.size := block_lt_of_cell (hcell 0 (by omega))
        exact ⟨gs, ⟨_, cap, by rw [q1], fun _ => ⟨b', off', rfl, hlt, q2⟩⟩, q3, q4⟩
     have r0 := hr 0 _ 0 _ rfl rfl
     have r6 := hr 0 _ 6 _ rfl rfl
     have r7 := hr 0 _ 7 _ rfl rfl
     simp only [Nat.zero_mul, Nat.zero_add] at r0 r6 r7
     obtain ⟨g1, s1, q1, q1'⟩ := sub _ _ _ _ h2 r6
     obtain ⟨g2, s2, q2, q2'⟩ := sub _ _ _ _ h3 r7
     obtain ⟨g3, s3, q3, q3', q3''⟩ := ih es p3 h4 b (off + 8) (fun j => f (8 + j)) (fun j hj => by
       have := hc (8 + j) (by simp only [List.length_cons]; omega)
       rw [← this]; congr 2; omega) (fun j hj => h1 (8 + j) (by simp only [List.length_cons]; omega)) (fun i e j x he hx => by
       have := hr (i + 1) e j x (by simpa using he) hx
       rw [show 8 + (i * 8 + j) = (i + 1) * 8 + j by omega]; exact this)
     have hf0 : f 0 = .int .i64 op := r0.lit_inv
     have hl : 8 ≤ (([.lit (.int .i64 op), a1, a2, a3, a4, a5, .sl o1 th, .sl o2 el] : List AV) :: es).length * 8 := by simp only [List.length_cons]; omega
     refine ⟨.node ⟨op, f 1, f 2, f 3, f 4, f 5, f 6, f 7, fun v hv => ?_⟩ g1 g2 :: g3, by simp [s3], ?_, ?_, ?_⟩
     ·simp only [List.mem_cons, List.not_mem_nil, or_false] at hv
      rcases hv with rfl | rfl | rfl | rfl | rfl | rfl | rfl <;> exact h1 _ (by omega)
     ·simp only [AtE, AtT]
      refine ⟨⟨?_, hc 1 (by omega), hc 2 (by omega), hc 3 (by omega), hc 4 (by omega), hc 5 (by omega), hc 6 (by omega), hc 7 (by omega), s1, s2⟩, q3⟩
      rw [← hf0]
      exact hc 0 (by omega)
     ·simp only [ordL, ordT, List.length_cons, List.length_append, q1, q2, q3']
      omega
     ·simp only [ordL, ordT, List.cons_append, sitY_cons, sitY_app, q1', q2', q3'']
      omega
    ·cases h
   ·cases h
theorem rel_tree {g : Gh} {w : World} {o : VA.Own} {es : List (List AV)} {v : Value} {p : Nat × Nat} {k : Nat} (h : cntV k es = some p) (hv : Rel g w (.sl o es) v) : ∃ gs, AtS w.heap.size w v gs ∧ (ordL gs).length = p.1 ∧ sitY (ordL gs) = p.2 := by
 by_cases hes : es = []
 ·subst hes
  have : p = (0, 0) := by cases k <;> simp [cntV] at h <;> exact h.symm
  subst this
  obtain ⟨a, c, rfl, _⟩ := hv.sl_inv
  exact ⟨[], ⟨a, c, rfl, fun h => absurd rfl h⟩, rfl, rfl⟩
 ·cases hv with
  | nil => exact absurd rfl hes
  | sl _ _ a n cap sz f' ho hn hcap hex hown hsz h1' ha hr' =>
   have h8 : sz = 8 := by
    cases es with
    | nil => exact absurd rfl hes
    | cons e' es'' =>
     have := hsz e' (List.mem_cons_self ..)
     cases k with
     | zero => simp [cntV] at h
     | succ k =>
      simp only [cntV] at h
      split at h
      ·simpa using this.symm
      ·cases h
   subst h8
   subst hn
   have hn0 : es.length ≠ 0 := fun hh => hes (List.length_eq_zero_iff.1 hh)
   obtain ⟨b', off', rfl, _, hcell⟩ := ha hn0
   obtain ⟨gs, q1, q2, q3, q4⟩ := rel_elems k es p h b' off' f' hcell h1' hr'
   have hlt : b' < w.heap.size := block_lt_of_cell (hcell 0 (by omega))
   exact ⟨gs, ⟨_, cap, by rw [q1], fun _ => ⟨b', off', rfl, hlt, q2⟩⟩, q3, q4⟩
theorem arg1 {g : Gh} {w : World} {x : AV} {vs : Array Value} (h : RelL g w [x] vs.toList) : ∃ a, vs = #[a] ∧ Rel g w x a := by
 obtain ⟨h1, h2⟩ := h
 match hv : vs.toList, h1 with
 | [a], _ => exact ⟨a, by rw [← Array.toArray_toList (xs := vs), hv], h2 0 x a rfl (by rw [hv]; rfl)⟩
theorem told_of {C : Cond} {f : FuncId} {fn : Func} {code : Code} (hf : Tryz.prog.funcs[f]? = some fn) (hn : (fn.name == "runtime.NumGoroutine") = false) (hb : fn.body = some code) (sel : Nat × Nat → Nat)
  (hw : ∀ (v : Value) (gs : List GT) (w : World), (ordL gs).length ≤ 1000000000 → AtS w.heap.size w v gs → Calls Tryz.prog f #[v] w fun e W' => e = .returned (.int .i64 (sel ((ordL gs).length, sitY (ordL gs)))) ∧ Below w.heap.size w W' ∧ W'.drawn = w.drawn) :
  ToldOk Tryz.prog C f (tCnt sel) := by
 refine ⟨callFunc_enter hf hn hb, fun args v h g H w vs hC hi hr => ?_⟩
 unfold tCnt at h
 split at h
 ·rename_i o es
  split at h
  ·rename_i p hp
   split at h
   ·rename_i hle
    simp only [Option.some.injEq] at h
    subst h
    obtain ⟨a, rfl, ha⟩ := arg1 hr
    obtain ⟨gs, g1, g2, g3⟩ := rel_tree hp ha
    refine (hw a gs w (by omega) g1).mono ?_
    rintro en w' ⟨rfl, hbl, hdr⟩
    obtain ⟨k1, k2⟩ := below_step hi hbl hdr
    refine ⟨_, g, rfl, k1, k2, rfl, rfl, ?_⟩
    rw [g2, g3]
    exact .lit _
   ·cases h
  ·cases h
 ·cases h
theorem told_count {C : Cond} : ToldOk Tryz.prog C 99 (tCnt Prod.fst) :=
 told_of (fn := Tryz.f99) (by kernel_rfl) (by kernel_rfl) rfl Prod.fst fun v gs w h1 h2 => callsIn_wide.1 (Count_in Fence.wide rfl 3 trivial trivial trivial trivial rfl (Nat.le_refl _) v gs h1 w h2)
theorem told_sites {C : Cond} : ToldOk Tryz.prog C 100 (tCnt Prod.snd) :=
 told_of (fn := Tryz.f100) (by kernel_rfl) (by kernel_rfl) rfl Prod.snd fun v gs w h1 h2 => callsIn_wide.1 (Sites_in Fence.wide rfl 3 trivial trivial trivial trivial rfl (Nat.le_refl _) v gs h1 w h2)
end Go.Proofs.YtnoahchdmkpleaaGreat.RF

/-! Fk1 -/
namespace Go.Proofs.YtnoahchdmkpleaaGreat.VA
open Go Go.RowKit
set_option linter.unusedSimpArgs false
set_option maxRecDepth 100000

/-- What another table answers, within so many steps. -/
noncomputable def toldK (P : Program) (c : Cfg) (k : Nat) (f : FuncId) (args : List AV) : Option AV :=
 match call P c k f (sanL args) Heap.empty with
 | some (.ret v _) => some (san v)
 | _ => none
theorem toldK_by {P : Program} {c : Cfg} {k : Nat} {f : FuncId} {args : List AV} {v : AV} (h : toldK P c k f args = some v) : toldBy P c f args = some v := by
 unfold toldK at h
 unfold toldBy
 split at h
 ·rename_i u H hu
  rw [calls_iff.2 ⟨k, hu⟩]
  exact h
 ·cases h
theorem toldK_ok {P : Program} {C : Cond} {c : Cfg} (hc : CfgOk P C c) (k : Nat) {f : FuncId} {fn : Func} {code : Code} (hf : P.funcs[f]? = some fn) (hn : (fn.name == "runtime.NumGoroutine") = false) (hb : fn.body = some code) : ToldOk P C f (toldK P c k f) :=
 ⟨(toldBy_ok hc hf hn hb).1, fun args v h => (toldBy_ok hc hf hn hb).2 args v (toldK_by h)⟩
def decE : List (List AV) → Option (List (Int × Int))
 | [] => some []
 | e :: l => match e with
  | [.lit (.int .i64 a), .lit (.int .i64 b)] => match decE l with
   | some d => some ((a, b) :: d)
   | none => none
  | _ => none
theorem decE_some : ∀ {es : List (List AV)} {d : List (Int × Int)}, decE es = some d → es = encAs d
 | [], d, h => by simp [decE] at h; subst h; rfl
 | e :: l, d, h => by
  simp only [decE] at h
  split at h
  ·split at h
   ·rename_i d' hd
    simp only [Option.some.injEq] at h
    subst h
    rw [decE_some hd]
    rfl
   ·cases h
  ·cases h
def tNormK (args : List AV) : Option AV :=
 match args with
 | [.sl _ es] => match decE es with
  | some d => if d.length ≤ 1000 then some (.sl .sh (encAs (normR d))) else none
  | none => none
 | _ => none
theorem tNormK_ok : ToldOk Tryz.prog Cond.none 60 tNormK := by
 have hb := toldBy_ok cfg1_ok (f := 60) (fn := Tryz.f60) (by kernel_rfl) (by kernel_rfl) rfl
 refine ⟨hb.1, fun args v h => hb.2 args v ?_⟩
 unfold tNormK at h
 split at h
 ·rename_i o es
  split at h
  ·rename_i d hd
   split at h
   ·rename_i hl
    simp only [Option.some.injEq] at h
    subst h
    have he := decE_some hd
    subst he
    unfold toldBy
    have e1 : sanL [AV.sl o (encAs d)] = [.sl .sh (encAs d)] := by simp only [sanL, san, sanLL_encAs]
    rw [e1, c_norm d (Nat.le_trans hl (by decide)) .sh Heap.empty]
    simp only [san, sanLL_encAs, normR_eq]
   ·cases h
  ·cases h
 ·cases h
noncomputable def cfgSK : Cfg := mkC Tryz.prog [48]
 []
 [48]
 [(74, tClone)]
 []
theorem cfgSK_ok : CfgOk Tryz.prog Cond.none cfgSK := mkC_ok (by kernel_rfl) (by kernel_rfl) (by
 intro p hp
 simp only [List.mem_cons, List.not_mem_nil, or_false] at hp
 subst hp
 ·exact tClone_ok _) (by simp)
noncomputable def cfgMK : Cfg := mkC Tryz.prog [45, 69, 70, 71, 112]
 []
 []
 [(60, tNormK)]
 []
theorem cfgMK_ok : CfgOk Tryz.prog Cond.none cfgMK := mkC_ok (by kernel_rfl) (by kernel_rfl) (by
 intro p hp
 simp only [List.mem_cons, List.not_mem_nil, or_false] at hp
 subst hp
 ·exact tNormK_ok) (by simp)
noncomputable def cfgTK : Cfg := mkC Tryz.prog [115]
 [48, 87, 130, 154, 131, 133, 132]
 [115, 48, 87]
 [(74, tClone),
 (60, tNormK),
 (45, toldK Tryz.prog cfgMK 60 45)]
 [(133, insB Tryz.prog 23), (132, delB Tryz.prog 23)]
theorem cfgTK_ok : CfgOk Tryz.prog Cond.none cfgTK := mkC_ok (by kernel_rfl) (by kernel_rfl) (by
 intro p hp
 simp only [List.mem_cons, List.not_mem_nil, or_false] at hp
 rcases hp with rfl | rfl | rfl
 ·exact tClone_ok _
 ·exact tNormK_ok
 ·exact toldK_ok cfgMK_ok 60 (fn := Tryz.f45) (by kernel_rfl) (by kernel_rfl) rfl) (by
 intro p hp
 simp only [List.mem_cons, List.not_mem_nil, or_false] at hp
 rcases hp with rfl | rfl
 ·exact insBind_ok _
 ·exact delBind_ok _)
noncomputable def cfgDK : Cfg := mkC Tryz.prog [14, 44, 36, 63, 61, 106, 152, 201, 110]
 [46, 73, 47, 49, 76, 77]
 []
 [(60, tNormK),
 (115, toldK Tryz.prog cfgTK 60 115),
 (48, toldK Tryz.prog cfgSK 60 48),
 (65, toldK Tryz.prog cfgV 60 65),
 (45, toldK Tryz.prog cfgMK 60 45)]
 []
theorem cfgDK_ok : CfgOk Tryz.prog Cond.none cfgDK := mkC_ok (by kernel_rfl) (by kernel_rfl) (by
 intro p hp
 simp only [List.mem_cons, List.not_mem_nil, or_false] at hp
 rcases hp with rfl | rfl | rfl | rfl | rfl
 ·exact tNormK_ok
 ·exact toldK_ok cfgTK_ok 60 (fn := Tryz.f115) (by kernel_rfl) (by kernel_rfl) rfl
 ·exact toldK_ok cfgSK_ok 60 (fn := Tryz.f48) (by kernel_rfl) (by kernel_rfl) rfl
 ·exact toldK_ok cfgV_ok 60 (fn := Tryz.f65) (by kernel_rfl) (by kernel_rfl) rfl
 ·exact toldK_ok cfgMK_ok 60 (fn := Tryz.f45) (by kernel_rfl) (by kernel_rfl) rfl) (by simp)
noncomputable def cfgJK : Cfg := mkC Tryz.prog [55, 88, 86, 134]
 [48, 87, 130, 154, 131, 133, 132, 129, 173]
 [55, 48, 87]
 [(74, tClone),
 (60, tNormK),
 (45, toldK Tryz.prog cfgMK 60 45),
 (65, toldK Tryz.prog cfgV 60 65)]
 [(133, insB Tryz.prog 23), (132, delB Tryz.prog 23), (129, grwN 76 2), (173, grwN 81 2)]
theorem cfgJK_ok : CfgOk Tryz.prog Cond.none cfgJK := mkC_ok (by kernel_rfl) (by kernel_rfl) (by
 intro p hp
 simp only [List.mem_cons, List.not_mem_nil, or_false] at hp
 rcases hp with rfl | rfl | rfl | rfl
 ·exact tClone_ok _
 ·exact tNormK_ok
 ·exact toldK_ok cfgMK_ok 60 (fn := Tryz.f45) (by kernel_rfl) (by kernel_rfl) rfl
 ·exact toldK_ok cfgV_ok 60 (fn := Tryz.f65) (by kernel_rfl) (by kernel_rfl) rfl) (by
 intro p hp
 simp only [List.mem_cons, List.not_mem_nil, or_false] at hp
 rcases hp with rfl | rfl | rfl | rfl
 ·exact insBind_ok _
 ·exact delBind_ok _
 ·exact growBind_ok _
 ·exact growAtom_ok _)
noncomputable def cfgK : Cfg := mkC Tryz.prog [21, 52, 53, 31, 85, 26, 27, 34, 61, 106, 152, 201, 36, 63, 35, 62, 107, 153, 17, 51, 18, 145, 147, 185, 187, 112, 184, 186, 146]
 [54, 23, 59, 96, 97, 98, 144]
 [54, 23, 59, 96, 97, 98, 144]
 [(60, tNormK),
 (55, toldK Tryz.prog cfgJK 60 55),
 (14, toldK Tryz.prog cfgDK 60 14),
 (48, toldK Tryz.prog cfgSK 60 48),
 (65, toldK Tryz.prog cfgV 60 65),
 (45, toldK Tryz.prog cfgMK 60 45),
 (99, RF.tCnt Prod.fst),
 (100, RF.tCnt Prod.snd)]
 []
theorem cfgK_ok : CfgOk Tryz.prog Cond.none cfgK := mkC_ok (by kernel_rfl) (by kernel_rfl) (by
 intro p hp
 simp only [List.mem_cons, List.not_mem_nil, or_false] at hp
 rcases hp with rfl | rfl | rfl | rfl | rfl | rfl | rfl | rfl
 ·exact tNormK_ok
 ·exact toldK_ok cfgJK_ok 60 (fn := Tryz.f55) (by kernel_rfl) (by kernel_rfl) rfl
 ·exact toldK_ok cfgDK_ok 60 (fn := Tryz.f14) (by kernel_rfl) (by kernel_rfl) rfl
 ·exact toldK_ok cfgSK_ok 60 (fn := Tryz.f48) (by kernel_rfl) (by kernel_rfl) rfl
 ·exact toldK_ok cfgV_ok 60 (fn := Tryz.f65) (by kernel_rfl) (by kernel_rfl) rfl
 ·exact toldK_ok cfgMK_ok 60 (fn := Tryz.f45) (by kernel_rfl) (by kernel_rfl) rfl
 ·exact RF.told_count
 ·exact RF.told_sites) (by simp)
end Go.Proofs.YtnoahchdmkpleaaGreat.VA

/-! Fk2 -/
namespace Go.Proofs.YtnoahchdmkpleaaGreat.VA
open Go Go.RowKit
set_option maxRecDepth 100000
theorem fix16 : call Tryz.prog cfgK 80 21 [] Heap.empty = some (.ret (.lit (.bool true)) Heap.empty) := by kernel_rfl
end Go.Proofs.YtnoahchdmkpleaaGreat.VA

/-! Fj1 -/
namespace Go.Proofs.YtnoahchdmkpleaaGreat.VA
open Go Go.RowKit
set_option linter.unusedSimpArgs false
set_option linter.unusedVariables false
set_option maxRecDepth 100000

structure Cst where
 fn : Int
 st : Int
 sl : Int
 kd : Int
 nm : ByteArray
 n : Int
structure Flt where
 code : Int
 pl : Int
structure Flw where
 sts : List Sta
 cs : List Cst
 fs : List Flt
 out : Sta
def encCs (c : Cst) : List AV := [.lit (.int .i64 c.fn), .lit (.int .i64 c.st), .lit (.int .i64 c.sl), .lit (.int .i64 c.kd), .lit (.string c.nm), .lit (.int .i64 c.n)]
def encX (f : Flt) : List AV := [.lit (.int .i64 f.code), .lit (.int .i64 f.pl)]
def encW (f : Flw) : List AV := [.sl .sh (f.sts.map encSt), .sl .sh (f.cs.map encCs), .sl .sh (f.fs.map encX), .lit (.bool f.out.dead), .sl .sh (f.out.vars.map encB), .sl .sh (f.out.locs.map encL)]
theorem sanLL_C (l : List Cst) : sanLL (l.map encCs) = l.map encCs := by
 induction l with
 | nil => rfl
 | cons x l ih => simp only [List.map_cons, sanLL, ih]; rfl
theorem sanLL_X (l : List Flt) : sanLL (l.map encX) = l.map encX := by
 induction l with
 | nil => rfl
 | cons x l ih => simp only [List.map_cons, sanLL, ih]; rfl
theorem sanL_encW (f : Flw) : sanL (encW f) = encW f := by simp only [encW, sanL, san, sanLL_St, sanLL_C, sanLL_X, sanLL_B, sanLL_L]
theorem eg_cst : Tryz.prog.eqGuardType Tryz.prog.depth 71 = false := by kernel_rfl
theorem sh_cst : Tryz.prog.stoodInHeld 71 = false := by kernel_rfl
theorem eg_flt : Tryz.prog.eqGuardType Tryz.prog.depth 103 = false := by kernel_rfl
theorem sh_flt : Tryz.prog.stoodInHeld 103 = false := by kernel_rfl
theorem eq_cst (c : Cst) : aEq Tryz.prog 8 71 (.agg (encCs c)) (.agg (encCs c)) = some true := by
 unfold encCs
 simp only [aEq, Tryz.underlying71, sh_cst, if_true, aEqs, go_sem]
 simp [aEqs, aEq, go_sem, strEq_decide]
theorem eq_flt (c : Flt) : aEq Tryz.prog 8 103 (.agg (encX c)) (.agg (encX c)) = some true := by
 unfold encX
 simp only [aEq, Tryz.underlying103, sh_flt, if_true, aEqs, go_sem]
 simp [aEqs, aEq, go_sem]
theorem bin_ncst (c : Cst) : aBin Tryz.prog .neq 71 (.agg (encCs c)) (.agg (encCs c)) = some (.lit (.bool false)) := by
 simp only [aBin, eg_cst, if_true, eq_cst]; rfl
theorem bin_nflt (c : Flt) : aBin Tryz.prog .neq 103 (.agg (encX c)) (.agg (encX c)) = some (.lit (.bool false)) := by
 simp only [aBin, eg_flt, if_true, eq_flt]; rfl
/-- The table for FlowJoins. -/
noncomputable def cfgF : Cfg := mkC Tryz.prog [6, 22, 29, 23, 24, 56]
 [54, 999999999]
 [54, 23]
 [(21, toldK Tryz.prog cfgK 80 21),
 (48, toldBy Tryz.prog cfgS 48),
 (55, toldBy Tryz.prog cfgY 55),
 (57, toldBy Tryz.prog cfgZ 57),
 (10, toldBy Tryz.prog cfgR 10),
 (17, toldBy Tryz.prog cfgR 17)]
 []
theorem cfgF_ok : CfgOk Tryz.prog Cond.none cfgF := mkC_ok (by kernel_rfl) (by kernel_rfl) (by
 intro p hp
 simp only [List.mem_cons, List.not_mem_nil, or_false] at hp
 rcases hp with rfl | rfl | rfl | rfl | rfl | rfl
 ·exact toldK_ok cfgK_ok 80 (fn := Tryz.f21) (by kernel_rfl) (by kernel_rfl) rfl
 ·exact toldBy_ok cfgS_ok (fn := Tryz.f48) (by kernel_rfl) (by kernel_rfl) rfl
 ·exact toldBy_ok cfgY_ok (fn := Tryz.f55) (by kernel_rfl) (by kernel_rfl) rfl
 ·exact toldBy_ok cfgZ_ok (fn := Tryz.f57) (by kernel_rfl) (by kernel_rfl) rfl
 ·exact toldBy_ok cfgR_ok (fn := Tryz.f10) (by kernel_rfl) (by kernel_rfl) rfl
 ·exact toldBy_ok cfgR_ok (fn := Tryz.f17) (by kernel_rfl) (by kernel_rfl) rfl) (by simp)
theorem j_fixed (H : Heap) : calls Tryz.prog cfgF 21 [] H = some (.ret (.lit (.bool true)) H) := by
 refine calls_told (h := toldK Tryz.prog cfgK 80 21) rfl ?_ H
 unfold toldK
 have e : sanL (sanL []) = [] := rfl
 rw [e, fix16]
 rfl
theorem j_copy (s : Sta) (hs : StOk s) (H : Heap) : calls Tryz.prog cfgF 48 [.agg (encSt s)] H = some (.ret (.agg (encSt s)) H) :=
 calls_by rfl (fun H => by simp only [sanL, san, sanL_encSt]; exact c_copyS s hs H) (by simp only [san, sanL_encSt]) H
theorem j_small (s : Sta) (H : Heap) : calls Tryz.prog cfgF 10 [.agg (encSt s)] H = some (.ret (.lit (.bool (smT s))) H) :=
 calls_by rfl (fun H => by simp only [sanL, san, sanL_encSt]; exact c_small s H) (by simp only [san]) H
theorem j_same (s : Sta) (hs : StOk s) (H : Heap) : calls Tryz.prog cfgF 17 [.agg (encSt s), .agg (encSt s)] H = some (.ret (.lit (.bool true)) H) :=
 calls_by rfl (fun H => by simp only [sanL, san, sanL_encSt]; exact c_sameSt s hs H) (by simp only [san]) H
theorem j_join (a b : Sta) (ha : Few a) (hb : Few b) (H : Heap) : calls Tryz.prog cfgF 55 [.agg (encSt a), .agg (encSt b)] H = some (.ret (.agg (encSt (joinT a b))) H) :=
 calls_by rfl (fun H => by simp only [sanL, san, sanL_encSt]; exact c_JoinT a b ha hb H) (by simp only [san, sanL_encSt]) H
theorem j_rJoin (a b : Sta) (ha : Few a) (hb : Few b) (H : Heap) : calls Tryz.prog cfgF 57 [.agg (encSt a), .agg (encSt b)] H = some (.ret (.agg (encSt (joinT a b))) H) :=
 calls_by rfl (fun H => by simp only [sanL, san, sanL_encSt]; exact z_joinT a b ha hb H) (by simp only [san, sanL_encSt]) H
end Go.Proofs.YtnoahchdmkpleaaGreat.VA

/-! Fj2 -/
namespace Go.Proofs.YtnoahchdmkpleaaGreat.VA
open Go Go.RowKit
attribute [local go_sem] Nat.add_eq_left Nat.left_eq_add true_and and_true ite_true if_false Int.cast_ofNat_Int eq_self Nat.add_assoc Option.some.injEq decide_true decide_false Bool.not_true Bool.not_false List.size_toArray List.length_cons List.length_nil
set_option linter.unusedSimpArgs false
set_option linter.unusedVariables false
set_option maxRecDepth 100000

theorem usO_ho (H : Heap) (o : Own) (xs : List (List AV)) (id k : Nat) : (appU H (usO o xs id)).ho k = H.ho k := by
 cases xs with
 | nil => rfl
 | cons x xs => cases o <;> rfl
theorem usO_get (H : Heap) (o : Own) (xs : List (List AV)) (id k : Nat) : (appU H (usO o xs id)).get k = H.get k := by
 rw [Heap.get, Heap.get, usO_ho]
/-- A row that is none of a number. -/
def nk (o : Own) (k : Nat) : Prop := ∀ e z, o ≠ .own k e z
def ltO (n : Nat) (o : Own) : Prop := ∀ k e z, o = .own k e z → k < n
def disO (o c : Own) : Prop := ∀ k e z, o = .own k e z → nk c k
theorem usO_live {H : Heap} {o : Own} {xs : List (List AV)} {id k : Nat} (h1 : k ≠ id) (h2 : nk o k) : (appU H (usO o xs id)).isLive k = H.isLive k := by
 cases xs with
 | nil => rfl
 | cons x xs =>
  cases o with
  | own r e z =>
   have hr : ¬ r = k := fun h => h2 e z (by rw [h])
   simp [usO, ownUs, appU, U.app, Heap.isLive_setLive, hr, Ne.symm h1]
  | _ => simp [usO, ownUs, appU, U.app, Heap.isLive_setLive, Ne.symm h1]
theorem AnyOk.of {H H' : Heap} {o : Own} {es : List (List AV)} {e : TypeId} {sz : Nat} (h : AnyOk H o es e sz) (hl : ∀ k e z, o = .own k e z → H'.isLive k = H.isLive k) : AnyOk H' o es e sz := by
 cases o with
 | own k e' z =>
  have h1 := hl k e' z rfl
  simp only [AnyOk, OwnOk] at h ⊢
  rw [h1]; exact h
 | _ => exact h
theorem newO_lt {o : Own} {xs : List (List AV)} {id n : Nat} {e : TypeId} {sz : Nat} (h : ltO n o) (hid : id < n) : ltO n (newO o xs id e sz) := by
 cases xs with
 | nil => exact h
 | cons x xs => intro k e' z' he; simp only [newO, Own.own.injEq] at he; omega
theorem newO_nk {o : Own} {xs : List (List AV)} {id k : Nat} {e : TypeId} {sz : Nat} (h : nk o k) (hid : id ≠ k) : nk (newO o xs id e sz) k := by
 cases xs with
 | nil => exact h
 | cons x xs => intro e' z' he; simp only [newO, Own.own.injEq] at he; exact hid he.1
theorem newO_dis {o c : Own} {xs : List (List AV)} {id : Nat} {e : TypeId} {sz : Nat} (h : disO o c) (hid : nk c id) : disO (newO o xs id e sz) c := by
 cases xs with
 | nil => exact h
 | cons x xs => intro k e' z' he; simp only [newO, Own.own.injEq] at he; rw [← he.1]; exact hid
theorem disO.symm {o c : Own} (h : disO o c) : disO c o := fun k e z hc e' z' ho => h k e' z' ho e z hc
theorem ltO.nk {n : Nat} {o : Own} (h : ltO n o) {k : Nat} (hk : n ≤ k) : VA.nk o k := fun e z he => by have := h k e z he; omega
theorem ltO.mono {n m : Nat} {o : Own} (h : ltO n o) (hn : n ≤ m) : ltO m o := fun k e z he => Nat.lt_of_lt_of_le (h k e z he) hn
/-- What of the memory stays, but for three rows. -/
structure Fr3 (x y z : Own) (H H' : Heap) : Prop where
 f : Frm H H'
 lv : ∀ k, k < H.next → nk x k → nk y k → nk z k → H'.isLive k = H.isLive k
theorem Fr3.of {x y z : Own} {H H' : Heap} (h : Frl x H H') : Fr3 x y z H H' := ⟨h.f, fun k hk h1 _ _ => h.lv k hk h1⟩
theorem Fr3.up {x y z : Own} {H H' : Heap} (h : Fr3 x y z H H') (n : Nat) : Fr3 x y z H (H'.up n) := ⟨h.f.up n, h.lv⟩
theorem Fr3.put {x y z : Own} {H H' : Heap} (h : Fr3 x y z H H') {b : Nat} (cs : List AV) (hb : H.next ≤ b) : Fr3 x y z H (H'.put b cs) := ⟨h.f.put cs hb, h.lv⟩
theorem Fr3.us {x y z c : Own} {H H' : Heap} (h : Fr3 x y z H H') (xs : List (List AV)) {id : Nat} (hid : H.next ≤ id) (hc : ∀ k, nk x k → nk y k → nk z k → nk c k) : Fr3 x y z H (appU H' (usO c xs id)) :=
 ⟨⟨by rw [usO_next]; exact h.f.nx, fun k hk => by rw [usO_ho]; exact h.f.ho k hk⟩, fun k hk h1 h2 h3 => by rw [usO_live (by omega) (hc k h1 h2 h3)]; exact h.lv k hk h1 h2 h3⟩
theorem AnyOk.us {H : Heap} {o c : Own} {es xs : List (List AV)} {e : TypeId} {sz n id : Nat} (h : AnyOk H o es e sz) (hl : ltO n o) (hid : n ≤ id) (hd : disO o c) : AnyOk (appU H (usO c xs id)) o es e sz :=
 h.of fun k e z he => usO_live (by have := hl k e z he; omega) (hd k e z he)
theorem j_then (oa ob ca cb fa fb : Own) (la lb : List Sta) (cla clb : List Cst) (fla flb : List Flt) (u0 u1 u2 : AV) (sb : Sta) (hu0 : u0.one = true) (hu1 : u1.one = true) (hu2 : u2.one = true) (hok : ∀ s, s ∈ lb → StOk s) (hlen : la.length + lb.length ≤ LA) (hcl : cla.length + clb.length ≤ LA) (hfl : fla.length + flb.length ≤ LA) (H0 : Heap)
  (ho : AnyOk H0 oa (la.map encSt) 26 3) (hc : AnyOk H0 ca (cla.map encCs) 71 6) (hf : AnyOk H0 fa (fla.map encX) 103 2)
  (l1 : ltO H0.next oa) (l2 : ltO H0.next ca) (l3 : ltO H0.next fa) (d1 : disO oa ca) (d2 : disO oa fa) (d3 : disO ca fa) :
  ∃ v H', calls Tryz.prog cfgF 54 [.agg [.sl oa (la.map encSt), .sl ca (cla.map encCs), .sl fa (fla.map encX), u0, u1, u2], .agg [.sl ob (lb.map encSt), .sl cb (clb.map encCs), .sl fb (flb.map encX), .lit (.bool sb.dead), .sl .sh (sb.vars.map encB), .sl .sh (sb.locs.map encL)]] H0 = some (.ret v H') ∧
   ∃ o' c' f', v = .agg [.sl o' ((la ++ lb).map encSt), .sl c' ((cla ++ clb).map encCs), .sl f' ((fla ++ flb).map encX), .lit (.bool sb.dead), .sl .sh (sb.vars.map encB), .sl .sh (sb.locs.map encL)] ∧ Fr3 oa ca fa H0 H' ∧
   AnyOk H' o' ((la ++ lb).map encSt) 26 3 ∧ AnyOk H' c' ((cla ++ clb).map encCs) 71 6 ∧ AnyOk H' f' ((fla ++ flb).map encX) 103 2 ∧
   ltO H'.next o' ∧ ltO H'.next c' ∧ ltO H'.next f' ∧ disO o' c' ∧ disO o' f' ∧ disO c' f' ∧ (∀ k, k < H0.next → nk oa k → nk o' k) ∧ (∀ k, k < H0.next → nk ca k → nk c' k) ∧ (∀ k, k < H0.next → nk fa k → nk f' k) := by
 refine calls_arr (fn := Tryz.f54) rfl rfl rfl rfl rfl ?_
 have rs : Tryz.f54.results.toList = [.cell 4 57] := rfl
 have hLA : LA = 1000000000000 := rfl
 obtain ⟨m, hm⟩ : ∃ m, H0.next = m := ⟨_, rfl⟩
 simp only [go_sem, simprocAttr, rs, hm, List.length_map, hu0, hu1, hu2]
 refine W_loop_ind (fun k e H => ∃ (i : Nat) (o : Own), k = lb.length - i ∧ i ≤ lb.length ∧ H.get m = some [.sl o ((la ++ lb.take i).map encSt), .sl ca (cla.map encCs), .sl fa (fla.map encX), u0, u1, u2] ∧
   H.get (m + 1) = some [.sl ob (lb.map encSt), .sl cb (clb.map encCs), .sl fb (flb.map encX), .lit (.bool sb.dead), .sl .sh (sb.vars.map encB), .sl .sh (sb.locs.map encL)] ∧ H.get (m + 2) = some [.sl .nil [], .sl .nil [], .sl .nil [], .lit (.bool false), .sl .nil [], .sl .nil []] ∧
   Frl oa H0 H ∧ m + 3 ≤ H.next ∧ AnyOk H o ((la ++ lb.take i).map encSt) 26 3 ∧ (i = 0 → o = oa) ∧ (i ≠ 0 → ∃ k e z, o = .own k e z ∧ m ≤ k ∧ k < H.next) ∧
   gget .bad e 2 = .ptr m 0 ∧ gget .bad e 3 = .ptr (m + 1) 0 ∧ gget .bad e 4 = .ptr (m + 2) 0 ∧ gget .bad e 8 = .sl ob (lb.map encSt) ∧ gget .bad e 9 = .lit (.int .i64 (lb.length : Nat)) ∧ gget .bad e 10 = .lit (.int .i64 (i : Nat)))
  lb.length ⟨0, oa, rfl, by omega, by simp only [go_sem, simprocAttr, List.take_zero, List.append_nil], by simp only [go_sem, simprocAttr], by simp only [go_sem, simprocAttr], by repeat (first | exact Frl.refl _ _ | refine Frl.up ?_ _ | refine Frl.put ?_ _ (by omega)), by simp only [go_sem, simprocAttr, hm]; omega, by simpa only [go_sem, simprocAttr, List.take_zero, List.append_nil, AnyOk_up, AnyOk_put] using ho, fun _ => rfl, fun h => absurd rfl h, by simp only [go_sem, simprocAttr, Nat.add_zero], by simp only [go_sem, simprocAttr], by simp only [go_sem, simprocAttr], by simp only [go_sem, simprocAttr], by simp only [go_sem, simprocAttr], by simp only [go_sem, simprocAttr]⟩ ?_
 rintro k ih e H ⟨i, o, rfl, hle, g0, g1, g2, hF, hnx, hA, hz, hnz, e2, e3, e4, e8, e9, e10⟩
 obtain ⟨n, hn⟩ : ∃ n, H.next = n := ⟨_, rfl⟩
 rw [hn] at hnx
 by_cases hl : i < lb.length
 ·have d1 : decide ((i : Int) < (lb.length : Nat)) = true := by simp; omega
  have ha := iad_map (f := encSt) (t := 26) (n := 3) (b := 56) (o := ob) hl (fun _ => rfl)
  have hw1 := wrap1 (show i + 1 ≤ 9223372036854775807 by unfold LA at hlen; omega)
  have h1 := encSt_one lb[i]
  have h2 := encSt_len lb[i]
  have h3 := encSt_take lb[i]
  have hcp := fun H => j_copy lb[i] (hok _ (List.getElem_mem hl)) H
  have n0 : ∀ j, ¬ n + j = m := fun j => by omega
  have n1 : ∀ j, ¬ n + j = m + 1 := fun j => by omega
  have n2 : ∀ j, ¬ n + j = m + 2 := fun j => by omega
  have n3 : ∀ j, ¬ m = n + j := fun j => by omega
  simp only [go_sem, simprocAttr, e2, e3, e4, e8, e9, e10, hn, g0, g1, g2, d1, ha, hu0, hu1, hu2, h1, h2, h3, n0, n1, n2]
  refine W_drawH [(1, 2), (1, 3)] (by kernel_rfl) _ (by simp only [go_sem, simprocAttr, hoH]; rfl) ?_
  have i1 : cfgF.imp 48 = false := rfl
  have hb := bs1_sta lb[i]
  have hlen2 : ((la ++ lb.take i).map encSt).length + (0 + 1) ≤ LA := by simp; omega
  have hap : ∀ (H' : Heap) (id : Nat), AnyOk H' o ((la ++ lb.take i).map encSt) 26 3 →
    aAppend Tryz.prog 54 (.sl o ((la ++ lb.take i).map encSt)) (.sl .ex [encSt lb[i]]) H' id = some (.sl (.own id 26 3) ((la ++ lb.take (i + 1)).map encSt), ownUs o id, ownRs o) := fun H' id h => by
   rw [append_lit el_sSta zo_sSta (by decide) (by unfold LA at hlen2; simp only [List.length_nil]; omega) (by unfold LA at hlen2; simp only [List.length_nil]; omega) rfl H' id h]
   rw [List.take_succ_eq_append_getElem hl]
   simp only [sanLL, sanL_encSt, List.map_append, List.map_cons, List.map_nil, List.append_assoc]
  simp only [go_sem, simprocAttr, e2, e3, e4, e8, e9, e10, hn, g0, g1, g2, hu0, hu1, hu2, h1, h2, h3, n0, n1, n2, n3, hcp, i1, hb, hap, AnyOk_up, AnyOk_put, hA]
  have hown : ∀ k e z, o = .own k e z → H0.next ≤ k ∨ oa = .own k e z := by
   intro k e z hk
   by_cases h0 : i = 0
   ·right; rw [← hz h0]; exact hk
   ·obtain ⟨k', e', z', q1, q2, q3⟩ := hnz h0
    rw [q1] at hk
    cases hk
    left; omega
  exact ih (lb.length - (i + 1)) (by omega) _ _ ⟨i + 1, .own (n + 10) 26 3, rfl, by omega, by simp only [go_sem, simprocAttr, n0, n1, n2, n3], by simp only [go_sem, simprocAttr, n0, n1, n2, n3, g1], by simp only [go_sem, simprocAttr, n0, n1, n2, n3, g2],
   by repeat (first | exact hF | refine Frl.up ?_ _ | refine Frl.put ?_ _ (by omega) | refine Frl.owns ?_ (by omega) hown), by simp only [go_sem, simprocAttr, ownUs_next, hn]; omega,
   by simp only [AnyOk_up, AnyOk_put]; exact AnyOk_ownUs _ _ _ _ _ _, fun h => absurd h (by omega), fun _ => ⟨_, _, _, rfl, by omega, by simp only [go_sem, simprocAttr, ownUs_next, hn]; omega⟩,
   by simp only [go_sem, simprocAttr, e2], by simp only [go_sem, simprocAttr, e3], by simp only [go_sem, simprocAttr, e4], by simp only [go_sem, simprocAttr, e8], by simp only [go_sem, simprocAttr, e9], by simp only [go_sem, simprocAttr, hw1]⟩
 ·have d1' : decide ((i : Int) < (lb.length : Nat)) = false := by simp; omega
  have n0 : ¬ m + 1 = m := by omega
  have n1 : ¬ m + 2 = m := by omega
  have n2 : ¬ m + 2 = m + 1 := by omega
  have n3 : ¬ m = m + 1 := by omega
  have n4 : ¬ m = m + 2 := by omega
  have hi : i = lb.length := by omega
  subst hi
  rw [List.take_length] at g0 hA
  have hol : ltO n o := by
   intro k e z hk
   by_cases h0 : lb.length = 0
   ·rw [hz h0] at hk; have := l1 k e z hk; omega
   ·obtain ⟨k', e', z', q1, q2, q3⟩ := hnz h0
    rw [q1] at hk; cases hk; omega
  have hon : ∀ k, k < H0.next → nk oa k → nk o k := by
   intro k hk h1 e z he
   by_cases h0 : lb.length = 0
   ·rw [hz h0] at he; exact h1 e z he
   ·obtain ⟨k', e', z', q1, q2, q3⟩ := hnz h0
    rw [q1] at he; cases he; omega
  have hcH : AnyOk H ca (cla.map encCs) 71 6 := hc.of fun k e z he => hF.lv k (l2 k e z he) (d1.symm k e z he)
  have hfH : AnyOk H fa (fla.map encX) 103 2 := hf.of fun k e z he => hF.lv k (l3 k e z he) (d2.symm k e z he)
  have ap1 : ∀ (H' : Heap) (id : Nat), AnyOk H' ca (cla.map encCs) 71 6 → aAppend Tryz.prog 38 (.sl ca (cla.map encCs)) (.sl cb (clb.map encCs)) H' id = some (.sl (newO ca (clb.map encCs) id 71 6) (cla.map encCs ++ clb.map encCs), usO ca (clb.map encCs) id, rsO ca (clb.map encCs)) := fun H' id h =>
   app_any el_sCst zo_sCst (by decide) (by simp only [List.length_map]; omega) (by simp only [List.length_map]; omega) (fun x hx => by obtain ⟨y, _, rfl⟩ := List.mem_map.1 hx; rfl) (sanLL_C clb) H' id h
  have ap2 : ∀ (H' : Heap) (id : Nat), AnyOk H' fa (fla.map encX) 103 2 → aAppend Tryz.prog 55 (.sl fa (fla.map encX)) (.sl fb (flb.map encX)) H' id = some (.sl (newO fa (flb.map encX) id 103 2) (fla.map encX ++ flb.map encX), usO fa (flb.map encX) id, rsO fa (flb.map encX)) := fun H' id h =>
   app_any el_sFau zo_sFau (by decide) (by simp only [List.length_map]; omega) (by simp only [List.length_map]; omega) (fun x hx => by obtain ⟨y, _, rfl⟩ := List.mem_map.1 hx; rfl) (sanLL_X flb) H' id h
  have hdc : disO o ca := by
   intro k e z he
   by_cases h0 : lb.length = 0
   ·rw [hz h0] at he; exact d1 k e z he
   ·obtain ⟨k', e', z', q1, q2, q3⟩ := hnz h0
    rw [q1] at he; cases he; exact l2.nk (by omega)
  have hdf : disO o fa := by
   intro k e z he
   by_cases h0 : lb.length = 0
   ·rw [hz h0] at he; exact d2 k e z he
   ·obtain ⟨k', e', z', q1, q2, q3⟩ := hnz h0
    rw [q1] at he; cases he; exact l3.nk (by omega)
  have l2' : ltO n ca := l2.mono (by omega)
  have l3' : ltO n fa := l3.mono (by omega)
  have sf : AnyOk (appU ((H.up 1).up 7) (usO ca (clb.map encCs) (n + 5))) fa (fla.map encX) 103 2 := AnyOk.us (n := n) (by simpa only [AnyOk_up] using hfH) l3' (by omega) d3.symm
  have so : AnyOk (appU ((H.up 1).up 7) (usO ca (clb.map encCs) (n + 5))) o ((la ++ lb).map encSt) 26 3 := AnyOk.us (n := n) (by simpa only [AnyOk_up] using hA) hol (by omega) hdc
  have sc : AnyOk (appU ((H.up 1).up 7) (usO ca (clb.map encCs) (n + 5))) (newO ca (clb.map encCs) (n + 5) 71 6) (cla.map encCs ++ clb.map encCs) 71 6 := AnyOk_new (by simpa only [AnyOk_up] using hcH)
  have hF3 : Fr3 oa ca fa H0 (appU ((H.up 1).up 7) (usO ca (clb.map encCs) (n + 5))) := Fr3.us (((Fr3.of hF).up 1).up 7) _ (by omega) (fun k _ h _ => h)
  have nxa : (appU ((H.up 1).up 7) (usO ca (clb.map encCs) (n + 5))).next = n + 8 := by rw [usO_next]; simp only [go_sem, simprocAttr, hn]
  have cln : ltO (n + 8) (newO ca (clb.map encCs) (n + 5) 71 6) := newO_lt (l2'.mono (by omega)) (by omega)
  have dcf : disO (newO ca (clb.map encCs) (n + 5) 71 6) fa := newO_dis d3 (l3'.nk (by omega))
  have dco : disO (newO ca (clb.map encCs) (n + 5) 71 6) o := newO_dis hdc.symm (hol.nk (by omega))
  have nck : ∀ k, k < H0.next → nk ca k → nk (newO ca (clb.map encCs) (n + 5) 71 6) k := fun k hk h => newO_nk h (by omega)
  simp only [go_sem, simprocAttr, e2, e3, e4, e8, e9, e10, hn, g0, g1, g2, hu0, hu1, hu2, d1', rs, ap1, ap2, sf, AnyOk_up, AnyOk_put, hcH, usO_get, usO_next, n0, n1, n2, n3, n4]
  generalize newO ca (clb.map encCs) (n + 5) 71 6 = c' at *
  generalize appU ((H.up 1).up 7) (usO ca (clb.map encCs) (n + 5)) = HA at *
  refine ⟨_, rfl, o, c', newO fa (flb.map encX) (n + 12) 103 2, by simp only [List.map_append]; rfl, ?_, ?_, ?_, ?_, ?_, ?_, ?_, dco.symm, ?_, ?_, fun k hk h => hon k (by omega) h, fun k hk h => nck k (by omega) h, fun k hk h => newO_nk h (by omega)⟩
  ·repeat (first | exact hF3 | refine Fr3.up ?_ _ | refine Fr3.put ?_ _ (by omega) | refine Fr3.us ?_ _ (by omega) (fun k _ _ h => h))
  ·exact AnyOk.us (n := n) (by simpa only [AnyOk_up, AnyOk_put] using so) hol (by omega) hdf
  ·rw [show List.map encCs (cla ++ clb) = _ from List.map_append]; exact AnyOk.us (n := n + 8) (by simpa only [AnyOk_up, AnyOk_put] using sc) cln (by omega) dcf
  ·rw [show List.map encX (fla ++ flb) = _ from List.map_append]; refine AnyOk_new ?_; simpa only [AnyOk_up, AnyOk_put] using sf
  ·exact hol.mono (by first | omega | (simp only [go_sem, simprocAttr, usO_next, nxa] <;> omega))
  ·exact cln.mono (by first | omega | (simp only [go_sem, simprocAttr, usO_next, nxa] <;> omega))
  ·exact newO_lt (l3'.mono (by first | omega | (simp only [go_sem, simprocAttr, usO_next, nxa] <;> omega))) (by first | omega | (simp only [go_sem, simprocAttr, usO_next, nxa] <;> omega))
  ·exact (newO_dis hdf.symm (hol.nk (by omega))).symm
  ·exact (newO_dis dcf.symm (cln.nk (by omega))).symm
end Go.Proofs.YtnoahchdmkpleaaGreat.VA
