/- What is proved: two flows joined, by the program, in the abstract interpreter (VA). Condition: no longer lists than a machine holds; ends of few of each thing.
What is proved: two flows joined, by the reference; a flow is the same as itself, in the abstract interpreter (VA). Condition: no longer lists than a machine holds.
What is proved: FlowJoins' law, in the abstract interpreter (VA). Condition: no longer lists than a machine holds.
What is proved: an argument that is an abstract state, as a row's reader tells it, means a state in the abstract interpreter (VA). No condition.
What is proved: an argument that is a flow, as a row's reader tells it, means a flow in the abstract interpreter (VA), no greater than its bulk. No condition. -/
import Derived.Test.YtnoahchdmkpleaaGreatM8
import Derived.Test.YtnoahchdmkpleaaGreatM4
import Derived.Test.YtnoahchdmkpleaaGreatM5
import Derived.Test.YtnoahchdmkpleaaGreatRows
import Derived.ChangeArms
/-! Fj3 -/
namespace Go.Proofs.YtnoahchdmkpleaaGreat.VA
open Go Go.RowKit
attribute [local go_sem] Nat.add_eq_left Nat.left_eq_add true_and and_true ite_true if_false Int.cast_ofNat_Int eq_self Nat.add_assoc Option.some.injEq decide_true decide_false Bool.not_true Bool.not_false List.size_toArray List.length_cons List.length_nil
set_option linter.unusedSimpArgs false
set_option linter.unusedVariables false
set_option maxRecDepth 100000

theorem Fr3.keeps {x y z : Own} {H H' : Heap} (h : Fr3 x y z H H') {r : Nat} (hr : r < H.next) (h1 : nk x r) (h2 : nk y r) (h3 : nk z r) : Keeps H H' r := ⟨(h.f.ho r hr).symm, (h.lv r hr h1 h2 h3).symm⟩
theorem nk_nil (k : Nat) : nk .nil k := fun _ _ h => by cases h
theorem lt_nil (n : Nat) : ltO n .nil := fun _ _ _ h => by cases h
theorem dis_nil : disO .nil .nil := fun _ _ _ h => by cases h
/-- Two flows joined. -/
def joinW (a b : Flw) : Flw := ⟨a.sts ++ b.sts, a.cs ++ b.cs, a.fs ++ b.fs, joinT a.out b.out⟩
theorem j_flow (a b : Flw) (ha : ∀ s, s ∈ a.sts → StOk s) (hb : ∀ s, s ∈ b.sts → StOk s) (hl : a.sts.length + b.sts.length ≤ LA) (hcl : a.cs.length + b.cs.length ≤ LA) (hfl : a.fs.length + b.fs.length ≤ LA) (fa : Few a.out) (fb : Few b.out) (H : Heap) :
  calls Tryz.prog cfgF 23 [.agg (encW a), .agg (encW b)] H = some (.ret (.agg (encW (joinW a b))) H) := by
 refine calls_frz (fn := Tryz.f23) rfl rfl rfl rfl rfl ?_ H
 have rs : Tryz.f23.results.toList = [.cell 4 57] := rfl
 obtain ⟨sa, ca, xa, oa⟩ := a
 obtain ⟨sb, cb, xb, ob⟩ := b
 simp only at ha hb hl hcl hfl fa fb
 have t1 := fun H => j_then .nil .sh .nil .sh .nil .sh [] sa [] ca [] xa (.lit (.bool false)) (.sl .nil []) (.sl .nil []) oa rfl rfl rfl ha (by simp; omega) (by simp; omega) (by simp; omega) H trivial trivial trivial (lt_nil _) (lt_nil _) (lt_nil _) dis_nil dis_nil dis_nil
 unfold encW
 simp only [go_sem, simprocAttr, rs, sanLL_St, sanLL_C, sanLL_X]
 refine W_drawH [(1, 3), (2, 3), (1, 5), (2, 5), (3, 5), (4, 5)] (by kernel_rfl) _ (by simp only [go_sem, simprocAttr, hoH]; rfl) ?_
 have i1 : cfgF.imp 54 = true := rfl
 simp only [go_sem, simprocAttr, rs]
 refine dK_exS (t1 _) i1 ?_
 rintro v H1 ⟨o1, c1, x1, rfl, hF1, hA1, hC1, hX1, lo1, lc1, lx1, d1, d2, d3, k1, k2, k3⟩
 have n1 := hF1.f.nx
 simp only [go_sem, simprocAttr] at n1 k1 k2 k3
 obtain ⟨q, hq⟩ : ∃ q, H1.next = q + 10 := ⟨H1.next - 10, by omega⟩
 have g1 : H1.get 1 = some [.sl .sh (sb.map encSt), .sl .sh (cb.map encCs), .sl .sh (xb.map encX), .lit (.bool ob.dead), .sl .sh (ob.vars.map encB), .sl .sh (ob.locs.map encL)] := by
  rw [hF1.f.get (by simp only [go_sem, simprocAttr] <;> omega)]; simp only [go_sem, simprocAttr, sanLL_St, sanLL_C, sanLL_X]
 simp only [List.nil_append] at hA1 hC1 hX1
 have t2 := fun H => j_then o1 .sh c1 .sh x1 .sh sa sb ca cb xa xb (.lit (.bool oa.dead)) (.sl .sh (oa.vars.map encB)) (.sl .sh (oa.locs.map encL)) ob rfl rfl rfl hb hl hcl hfl H
 simp only [go_sem, simprocAttr, g1, List.nil_append]
 refine dK_exS (t2 _ (by simpa only [AnyOk_up, AnyOk_put] using hA1) (by simpa only [AnyOk_up, AnyOk_put] using hC1) (by simpa only [AnyOk_up, AnyOk_put] using hX1) lo1 lc1 lx1 d1 d2 d3) i1 ?_
 rintro v H2 ⟨o2, c2, x2, rfl, hF2, hA2, hC2, hX2, lo2, lc2, lx2, -⟩
 have n2 := hF2.f.nx
 obtain ⟨q2, hq2⟩ : ∃ q, H2.next = q + 10 := ⟨H2.next - 10, by omega⟩
 have k2' : ∀ k, k < 10 → H2.get k = H1.get k := fun k hk => hF2.f.get (by omega)
 have h0 : H2.get 0 = some [.sl .sh (sa.map encSt), .sl .sh (ca.map encCs), .sl .sh (xa.map encX), .lit (.bool oa.dead), .sl .sh (oa.vars.map encB), .sl .sh (oa.locs.map encL)] := by
  rw [k2' 0 (by omega), hF1.f.get (by simp only [go_sem, simprocAttr] <;> omega)]; simp only [go_sem, simprocAttr, sanLL_St, sanLL_C, sanLL_X]
 have h1 : H2.get 1 = some [.sl .sh (sb.map encSt), .sl .sh (cb.map encCs), .sl .sh (xb.map encX), .lit (.bool ob.dead), .sl .sh (ob.vars.map encB), .sl .sh (ob.locs.map encL)] := by rw [k2' 1 (by omega)]; exact g1
 have h2 : H2.get 2 = some [.sl .nil [], .sl .nil [], .sl .nil [], .lit (.bool false), .sl .nil [], .sl .nil []] := by
  rw [k2' 2 (by omega), hF1.f.get (by simp only [go_sem, simprocAttr] <;> omega)]; simp only [go_sem, simprocAttr]
 have h8 : H2.get 8 = some [.sl .nil [], .sl .nil [], .sl .nil [], .lit (.bool false), .sl .nil [], .sl .nil []] := by
  rw [k2' 8 (by omega), hF1.f.get (by simp only [go_sem, simprocAttr] <;> omega)]; simp only [go_sem, simprocAttr]
 have hj := fun H => j_join oa ob fa fb H
 unfold encSt at hj
 simp only [go_sem, simprocAttr, rs, hq2, h0, h1, h2, h8, hj]
 refine ⟨⟨hF1.keeps (by simp only [go_sem, simprocAttr] <;> omega) (nk_nil _) (nk_nil _) (nk_nil _), hF1.keeps (by simp only [go_sem, simprocAttr] <;> omega) (nk_nil _) (nk_nil _) (nk_nil _), hF2.keeps (by omega) (k1 8 (by omega) (nk_nil _)) (k2 8 (by omega) (nk_nil _)) (k3 8 (by omega) (nk_nil _))⟩, _, rfl, ?_⟩
 simp only [oneOr, frz, frzL, san, sanL, sanLL_St, sanLL_C, sanLL_X, sanLL_B, sanLL_L, joinW]
end Go.Proofs.YtnoahchdmkpleaaGreat.VA

/-! Fj4 -/
namespace Go.Proofs.YtnoahchdmkpleaaGreat.VA
open Go Go.RowKit
attribute [local go_sem] Nat.add_eq_left Nat.left_eq_add true_and and_true ite_true if_false Int.cast_ofNat_Int eq_self Nat.add_assoc Option.some.injEq decide_true decide_false Bool.not_true Bool.not_false List.size_toArray List.length_cons List.length_nil
set_option linter.unusedSimpArgs false
set_option linter.unusedVariables false
set_option maxRecDepth 100000

theorem app2 {P : Program} {t e : TypeId} {sz bs : Nat} {xs ys : List (List AV)} (ht : tElem P t = some (e, sz, bs)) (hz : zeroOk P e sz = true) (hs : 0 < sz) (hb : (xs.length + ys.length) * bs ≤ 140737488355328) (hl : xs.length + ys.length ≤ 140737488355328)
  (hx : ∀ x, x ∈ xs → x.length = sz) (hy : ∀ x, x ∈ ys → x.length = sz) (sx : sanLL xs = xs) (sy : sanLL ys = ys) (hmu : mutT e = false := by rfl) :
  (∀ H id, aAppend P t (.sl .nil []) (.sl .sh xs) H id = some (.sl (newO .nil xs id e sz) xs, usO .nil xs id, rsO .nil xs)) ∧
  (∀ H id, AnyOk (appU H (usO .nil xs id)) (newO .nil xs id e sz) xs e sz) ∧
  (∀ H id0 id, AnyOk H (newO .nil xs id0 e sz) xs e sz → aAppend P t (.sl (newO .nil xs id0 e sz) xs) (.sl .sh ys) H id = some (.sl (newO (newO .nil xs id0 e sz) ys id e sz) (xs ++ ys), usO (newO .nil xs id0 e sz) ys id, rsO (newO .nil xs id0 e sz) ys)) := by
 refine ⟨fun H id => ?_, fun H id => ?_, fun H id0 id h => app_any ht hz hs hb hl hy sy H id h hmu⟩
 ·have := app_any (es := []) (o := .nil) (o' := .sh) (xs := xs) ht hz hs (by simp; exact Nat.le_trans (Nat.mul_le_mul_right bs (Nat.le_add_right _ _)) hb) (by simp; omega) hx sx H id trivial hmu
  rw [List.nil_append] at this; exact this
 ·have := AnyOk_new (H := H) (o := .nil) (es := []) (xs := xs) (id := id) (e := e) (sz := sz) trivial
  rw [List.nil_append] at this; exact this
theorem j_behind (a b : Flw) (hl : a.sts.length + b.sts.length ≤ LA) (hcl : a.cs.length + b.cs.length ≤ LA) (hfl : a.fs.length + b.fs.length ≤ LA) (H : Heap) :
  calls Tryz.prog cfgF 56 [.agg (encW a), .agg (encW b)] H = some (.ret (.agg (encW ⟨a.sts ++ b.sts, a.cs ++ b.cs, a.fs ++ b.fs, b.out⟩)) H) := by
 refine calls_pure (fn := Tryz.f56) rfl rfl rfl rfl rfl ?_ H
 have rs : Tryz.f56.results.toList = [.cell 4 57] := rfl
 have hLA : LA = 1000000000000 := rfl
 obtain ⟨sa, ca, xa, oa⟩ := a
 obtain ⟨sb, cb, xb, ob⟩ := b
 simp only at hl hcl hfl
 obtain ⟨s1, s2, s3⟩ := app2 (P := Tryz.prog) (t := 54) (xs := sa.map encSt) (ys := sb.map encSt) el_sSta zo_sSta (by decide) (by simp only [List.length_map]; omega) (by simp only [List.length_map]; omega) (fun x hx => by obtain ⟨y, _, rfl⟩ := List.mem_map.1 hx; rfl) (fun x hx => by obtain ⟨y, _, rfl⟩ := List.mem_map.1 hx; rfl) (sanLL_St _) (sanLL_St _)
 obtain ⟨c1, c2, c3⟩ := app2 (P := Tryz.prog) (t := 38) (xs := ca.map encCs) (ys := cb.map encCs) el_sCst zo_sCst (by decide) (by simp only [List.length_map]; omega) (by simp only [List.length_map]; omega) (fun x hx => by obtain ⟨y, _, rfl⟩ := List.mem_map.1 hx; rfl) (fun x hx => by obtain ⟨y, _, rfl⟩ := List.mem_map.1 hx; rfl) (sanLL_C _) (sanLL_C _)
 obtain ⟨x1, x2, x3⟩ := app2 (P := Tryz.prog) (t := 55) (xs := xa.map encX) (ys := xb.map encX) el_sFau zo_sFau (by decide) (by simp only [List.length_map]; omega) (by simp only [List.length_map]; omega) (fun x hx => by obtain ⟨y, _, rfl⟩ := List.mem_map.1 hx; rfl) (fun x hx => by obtain ⟨y, _, rfl⟩ := List.mem_map.1 hx; rfl) (sanLL_X _) (sanLL_X _)
 unfold encW
 simp only [go_sem, simprocAttr, rs, sanLL_St, sanLL_C, sanLL_X, s1, s2, s3, c1, c2, c3, x1, x2, x3, AnyOk_up, AnyOk_put, usO_get, usO_next]
 simp only [← List.map_append, sanLL_St, sanLL_C, sanLL_X]
theorem j_rFlow (a b : Flw) (hl : a.sts.length + b.sts.length ≤ LA) (hcl : a.cs.length + b.cs.length ≤ LA) (hfl : a.fs.length + b.fs.length ≤ LA) (fa : Few a.out) (fb : Few b.out) (H : Heap) :
  calls Tryz.prog cfgF 24 [.agg (encW a), .agg (encW b)] H = some (.ret (.agg (encW (joinW a b))) H) := by
 refine calls_pure (fn := Tryz.f24) rfl rfl rfl rfl rfl ?_ H
 have rs : Tryz.f24.results.toList = [.cell 4 57] := rfl
 have hb := fun H => j_behind a b hl hcl hfl H
 have hj := fun H => j_rJoin a.out b.out fa fb H
 obtain ⟨sa, ca, xa, oa⟩ := a
 obtain ⟨sb, cb, xb, ob⟩ := b
 unfold encW at hb ⊢
 unfold encSt at hj
 simp only at hj
 have i1 : cfgF.imp 56 = false := rfl
 have i2 : cfgF.imp 57 = false := rfl
 simp only [go_sem, simprocAttr, rs, sanLL_St, sanLL_C, sanLL_X, hb, hj, i1, i2, joinW]
theorem j_casts (l : List Cst) (hl : l.length ≤ LA) (o o' : Own) (H : Heap) : calls Tryz.prog cfgF 29 [.sl o (l.map encCs), .sl o' (l.map encCs)] H = some (.ret (.lit (.bool true)) H) := by
 refine calls_pure (fn := Tryz.f29) rfl rfl rfl rfl rfl ?_ H
 have rs : Tryz.f29.results.toList = [.tmp 4] := rfl
 have dn : ∀ n : Nat, decide ((n : Int) = (n : Nat)) = true := fun n => by simp
 simp only [go_sem, simprocAttr, rs, List.length_map, sanLL_C, dn]
 refine W_loop_ind (fun k e H => ∃ i : Nat, k = l.length - i ∧ i ≤ l.length ∧ gget .bad e 0 = .sl .sh (l.map encCs) ∧ gget .bad e 1 = .sl .sh (l.map encCs) ∧ gget .bad e 5 = .lit (.int .i64 (i : Nat)))
  l.length ⟨0, rfl, by omega, by simp only [go_sem, simprocAttr], by simp only [go_sem, simprocAttr], by simp only [go_sem, simprocAttr]⟩ ?_
 rintro k ih e H ⟨i, rfl, hle, g0, g1, g5⟩
 by_cases hlt : i < l.length
 ·have d1 : decide ((i : Int) < (l.length : Nat)) = true := by simp; omega
  have hw := wrap1 (show i + 1 ≤ 9223372036854775807 by unfold LA at hl; omega)
  have hI := iad_map (f := encCs) (t := 71) (n := 6) (b := 56) (o := .sh) hlt (fun _ => rfl)
  have y1 : (encCs l[i]).length = 6 := rfl
  have y2 : (encCs l[i]).take 6 = encCs l[i] := rfl
  have y3 := bin_ncst l[i]
  simp only [go_sem, simprocAttr, g0, g1, g5, d1, List.length_map]
  refine W_drawH [(3, 7)] (by kernel_rfl) _ (by simp only [go_sem, simprocAttr, hoH]; rfl) ?_
  simp only [go_sem, simprocAttr, g0, g1, g5, d1, List.length_map, hI, hw, y1, y2, y3]
  exact ih (l.length - (i + 1)) (by omega) _ _ ⟨i + 1, rfl, by omega, by simp only [go_sem, simprocAttr, g0], by simp only [go_sem, simprocAttr, g1], by simp only [go_sem, simprocAttr]⟩
 ·have d1 : decide ((i : Int) < (l.length : Nat)) = false := by simp; omega
  simp only [go_sem, simprocAttr, g0, g1, g5, d1, List.length_map, rs]
theorem j_sameW (w : Flw) (hs : ∀ s, s ∈ w.sts → StOk s) (ho : StOk w.out) (hl : w.sts.length ≤ LA) (hc : w.cs.length ≤ LA) (hf : w.fs.length ≤ LA) (H : Heap) : calls Tryz.prog cfgF 22 [.agg (encW w), .agg (encW w)] H = some (.ret (.lit (.bool true)) H) := by
 refine calls_pure (fn := Tryz.f22) rfl rfl rfl rfl rfl ?_ H
 have rs : Tryz.f22.results.toList = [.tmp 4] := rfl
 have dn : ∀ n : Nat, decide ((n : Int) = (n : Nat)) = true := fun n => by simp
 have hj := fun H => j_same w.out ho H
 have hk := fun H => j_casts w.cs hc .sh .sh H
 obtain ⟨sa, ca, xa, oa⟩ := w
 simp only at hs hl hf hk
 unfold encSt at hj
 simp only at hj
 have e0 : sanL [AV.agg (encW ⟨sa, ca, xa, oa⟩), .agg (encW ⟨sa, ca, xa, oa⟩)] = [.agg (encW ⟨sa, ca, xa, oa⟩), .agg (encW ⟨sa, ca, xa, oa⟩)] := by simp only [sanL, san, sanL_encW]
 rw [e0]
 have i1 : cfgF.imp 17 = false := rfl
 have i2 : cfgF.imp 29 = false := rfl
 unfold encW
 simp only [go_sem, simprocAttr, rs, List.length_map, dn, hj, hk, i1, i2]
 refine W_loop_ind (fun k e H => ∃ i : Nat, k = sa.length - i ∧ i ≤ sa.length ∧ gget .bad e 2 = .ptr 0 0 ∧ gget .bad e 3 = .ptr 1 0 ∧ gget .bad e 5 = .lit (.int .i64 (i : Nat)) ∧ H.get 0 = some [.sl .sh (sa.map encSt), .sl .sh (ca.map encCs), .sl .sh (xa.map encX), .lit (.bool oa.dead), .sl .sh (oa.vars.map encB), .sl .sh (oa.locs.map encL)] ∧
   H.get 1 = some [.sl .sh (sa.map encSt), .sl .sh (ca.map encCs), .sl .sh (xa.map encX), .lit (.bool oa.dead), .sl .sh (oa.vars.map encB), .sl .sh (oa.locs.map encL)] ∧ 2 ≤ H.next)
  sa.length ⟨0, rfl, by omega, by simp only [go_sem, simprocAttr], by simp only [go_sem, simprocAttr], by simp only [go_sem, simprocAttr], by simp only [go_sem, simprocAttr], by simp only [go_sem, simprocAttr], by simp only [go_sem, simprocAttr] <;> omega⟩ ?_
 rintro k ih e H ⟨i, rfl, hle, g2, g3, g5, h0, h1, hnx⟩
 obtain ⟨m, hm⟩ : ∃ m, H.next = m + 2 := ⟨H.next - 2, by omega⟩
 by_cases hlt : i < sa.length
 ·have d1 : decide ((i : Int) < (sa.length : Nat)) = true := by simp; omega
  have hw := wrap1 (show i + 1 ≤ 9223372036854775807 by unfold LA at hl; omega)
  have hI := iad_map (f := encSt) (t := 26) (n := 3) (b := 56) (o := .sh) hlt (fun _ => rfl)
  have hsx := fun H => j_same sa[i] (hs _ (List.getElem_mem hlt)) H
  have y1 := encSt_len sa[i]
  have y2 := encSt_take sa[i]
  have y3 := encSt_one sa[i]
  simp only [go_sem, simprocAttr, g2, g3, g5, h0, h1, hm, d1, List.length_map]
  refine W_drawH [(1, 6), (4, 6), (1, 9), (4, 9)] (by kernel_rfl) _ (by simp only [go_sem, simprocAttr, hoH]; rfl) ?_
  simp only [go_sem, simprocAttr, g2, g3, g5, h0, h1, hm, hI, hw, y1, y2, y3, hsx, i1]
  exact ih (sa.length - (i + 1)) (by omega) _ _ ⟨i + 1, rfl, by omega, by simp only [go_sem, simprocAttr, g2], by simp only [go_sem, simprocAttr, g3], by simp only [go_sem, simprocAttr], by simp only [go_sem, simprocAttr, h0], by simp only [go_sem, simprocAttr, h1], by simp only [go_sem, simprocAttr, hm] <;> omega⟩
 ·have d1 : decide ((i : Int) < (sa.length : Nat)) = false := by simp; omega
  simp only [go_sem, simprocAttr, g2, g3, g5, h0, h1, hm, d1, List.length_map, rs]
  refine W_loop_ind (fun k e H => ∃ i : Nat, k = xa.length - i ∧ i ≤ xa.length ∧ gget .bad e 2 = .ptr 0 0 ∧ gget .bad e 3 = .ptr 1 0 ∧ gget .bad e 6 = .lit (.int .i64 (i : Nat)) ∧ H.get 0 = some [.sl .sh (sa.map encSt), .sl .sh (ca.map encCs), .sl .sh (xa.map encX), .lit (.bool oa.dead), .sl .sh (oa.vars.map encB), .sl .sh (oa.locs.map encL)] ∧
    H.get 1 = some [.sl .sh (sa.map encSt), .sl .sh (ca.map encCs), .sl .sh (xa.map encX), .lit (.bool oa.dead), .sl .sh (oa.vars.map encB), .sl .sh (oa.locs.map encL)] ∧ 2 ≤ H.next)
   xa.length ⟨0, rfl, by omega, by simp only [go_sem, simprocAttr, g2], by simp only [go_sem, simprocAttr, g3], by simp only [go_sem, simprocAttr], by simp only [go_sem, simprocAttr, h0], by simp only [go_sem, simprocAttr, h1], by simp only [go_sem, simprocAttr, hm] <;> omega⟩ ?_
  clear ih g2 g3 g5 h0 h1 hm hnx hlt d1 hle
  clear m e H i
  rintro k ih e H ⟨i, rfl, hle, g2, g3, g6, h0, h1, hnx⟩
  obtain ⟨m, hm⟩ : ∃ m, H.next = m + 2 := ⟨H.next - 2, by omega⟩
  by_cases hlt : i < xa.length
  ·have d1 : decide ((i : Int) < (xa.length : Nat)) = true := by simp; omega
   have hw := wrap1 (show i + 1 ≤ 9223372036854775807 by unfold LA at hf; omega)
   have hI := iad_map (f := encX) (t := 103) (n := 2) (b := 16) (o := .sh) hlt (fun _ => rfl)
   have y1 : (encX xa[i]).length = 2 := rfl
   have y2 : (encX xa[i]).take 2 = encX xa[i] := rfl
   have y3 := bin_nflt xa[i]
   simp only [go_sem, simprocAttr, g2, g3, g6, h0, h1, hm, d1, List.length_map]
   refine W_drawH [(1, 6), (4, 6), (1, 9), (4, 9)] (by kernel_rfl) _ (by simp only [go_sem, simprocAttr, hoH]; rfl) ?_
   simp only [go_sem, simprocAttr, g2, g3, g6, h0, h1, hm, hI, hw, y1, y2, y3]
   exact ih (xa.length - (i + 1)) (by omega) _ _ ⟨i + 1, rfl, by omega, by simp only [go_sem, simprocAttr, g2], by simp only [go_sem, simprocAttr, g3], by simp only [go_sem, simprocAttr], by simp only [go_sem, simprocAttr, h0], by simp only [go_sem, simprocAttr, h1], by simp only [go_sem, simprocAttr, hm] <;> omega⟩
  ·have d1 : decide ((i : Int) < (xa.length : Nat)) = false := by simp; omega
   simp only [go_sem, simprocAttr, g2, g3, g6, h0, h1, hm, d1, List.length_map, rs]
end Go.Proofs.YtnoahchdmkpleaaGreat.VA

/-! Fj5 -/
namespace Go.Proofs.YtnoahchdmkpleaaGreat.VA
open Go Go.RowKit
attribute [local go_sem] Nat.add_eq_left Nat.left_eq_add true_and and_true ite_true if_false Int.cast_ofNat_Int eq_self Nat.add_assoc Option.some.injEq decide_true decide_false Bool.not_true Bool.not_false List.size_toArray List.length_cons List.length_nil
set_option linter.unusedSimpArgs false
set_option linter.unusedVariables false
set_option maxRecDepth 100000

/-- A flow of no longer lists than half of what a machine holds. -/
structure FlwOk (w : Flw) : Prop where
 sts : ∀ s, s ∈ w.sts → StOk s
 cs : w.cs.length ≤ LB
 fs : w.fs.length ≤ LB
theorem c_FlowJoins (a b : Flw) (ha : FlwOk a) (hb : FlwOk b) (H : Heap) : calls Tryz.prog cfgF 6 [.agg (encW a), .agg (encW b)] H = some (.ret (.lit (.bool true)) H) := by
 refine calls_pure (fn := Tryz.f6) rfl rfl rfl rfl rfl ?_ H
 have rs : Tryz.f6.results.toList = [.tmp 4] := rfl
 have hLA : LA = 1000000000000 := rfl
 have hLB : LB = 100000000000 := rfl
 have e0 : sanL [AV.agg (encW a), .agg (encW b)] = [.agg (encW a), .agg (encW b)] := by simp only [sanL, san, sanL_encW]
 have hfx := fun H => j_fixed H
 have a1 : (encW a).length = 6 := rfl
 have a2 : (encW a).take 6 = encW a := rfl
 have a3 : (encW a).all AV.one = true := rfl
 have a4 : (encW a)[0]? = some (.sl .sh (a.sts.map encSt)) := rfl
 have a5 : (encW a).drop 3 = encSt a.out := rfl
 have b1 : (encW b).length = 6 := rfl
 have b2 : (encW b).take 6 = encW b := rfl
 have b3 : (encW b).all AV.one = true := rfl
 have b4 : (encW b)[0]? = some (.sl .sh (b.sts.map encSt)) := rfl
 have b5 : (encW b).drop 3 = encSt b.out := rfl
 have s1 : ∀ s : Sta, (encSt s).length = 3 := fun _ => rfl
 have s2 : ∀ s : Sta, (encSt s).take 3 = encSt s := fun _ => rfl
 have s3 : ∀ s : Sta, (encSt s).all AV.one = true := fun _ => rfl
 have i1 : cfgF.imp 10 = false := rfl
 have i2 : cfgF.imp 21 = false := rfl
 rw [e0]
 by_cases hla : a.sts.length ≤ 40
 ·have da : decide ((40 : Int) < (a.sts.length : Nat)) = false := by simp; omega
  by_cases hlb : b.sts.length ≤ 40
  ·have db : decide ((40 : Int) < (b.sts.length : Nat)) = false := by simp; omega
   simp only [go_sem, simprocAttr, rs, List.length_map, a1, a2, a3, a4, b1, b2, b3, b4, da, db, hfx, i1, i2]
   refine W_loop_ind (fun k e H => ∃ (i : Nat), k = a.sts.length - i ∧ i ≤ a.sts.length ∧ H.get 0 = some (encW a) ∧ H.get 1 = some (encW b) ∧ 2 ≤ H.next ∧ gget .bad e 2 = .ptr 0 0 ∧ gget .bad e 3 = .ptr 1 0 ∧ gget .bad e 5 = .lit (.int .i64 (i : Nat)))
    a.sts.length ⟨0, rfl, by omega, by simp only [go_sem, simprocAttr], by simp only [go_sem, simprocAttr], by simp only [go_sem, simprocAttr] <;> omega, by simp only [go_sem, simprocAttr], by simp only [go_sem, simprocAttr], by simp only [go_sem, simprocAttr]⟩ ?_
   rintro k ih e H ⟨i, rfl, hle, h0, h1, hnx, e2, e3, e5⟩
   obtain ⟨m, hm⟩ : ∃ m, H.next = m + 2 := ⟨H.next - 2, by omega⟩
   by_cases hlt : i < a.sts.length
   ·have d1 : decide ((i : Int) < (a.sts.length : Nat)) = true := by simp; omega
    have hw := wrap1 (show i + 1 ≤ 9223372036854775807 by omega)
    have hI := iad_map (f := encSt) (t := 26) (n := 3) (b := 56) (o := .sh) hlt (fun _ => rfl)
    have hsm := fun H => j_small a.sts[i] H
    cases hv : smT a.sts[i] with
    | false =>
     rw [hv] at hsm
     simp only [go_sem, simprocAttr, rs, List.length_map, h0, h1, hm, e2, e3, e5, a1, a2, a3, a4, b1, b2, b3, b4, d1, hI, s1, s2, s3, hsm, hfx, i1, i2]
    | true =>
     rw [hv] at hsm
     simp only [go_sem, simprocAttr, rs, List.length_map, h0, h1, hm, e2, e3, e5, a1, a2, a3, a4, b1, b2, b3, b4, d1, hI, s1, s2, s3, hsm, hfx, i1, i2, hw]
     exact ih (a.sts.length - (i + 1)) (by omega) _ _ ⟨i + 1, rfl, by omega, by simp only [go_sem, simprocAttr, h0], by simp only [go_sem, simprocAttr, h1], by simp only [go_sem, simprocAttr, hm] <;> omega, by simp only [go_sem, simprocAttr, e2], by simp only [go_sem, simprocAttr, e3], by simp only [go_sem, simprocAttr]⟩
   ·have d1 : decide ((i : Int) < (a.sts.length : Nat)) = false := by simp; omega
    have hsa := fun H => j_small a.out H
    have hsb := fun H => j_small b.out H
    cases hva : smT a.out with
    | false =>
     rw [hva] at hsa
     simp only [go_sem, simprocAttr, rs, List.length_map, h0, h1, hm, e2, e3, e5, a1, a2, a3, a4, a5, b1, b2, b3, b4, b5, d1, s1, s2, s3, hsa, hsb, hfx, i1, i2]
    | true =>
     rw [hva] at hsa
     cases hvb : smT b.out with
     | false =>
      rw [hvb] at hsb
      simp only [go_sem, simprocAttr, rs, List.length_map, h0, h1, hm, e2, e3, e5, a1, a2, a3, a4, a5, b1, b2, b3, b4, b5, d1, s1, s2, s3, hsa, hsb, hfx, i1, i2]
     | true =>
      rw [hvb] at hsb
      have fa := few_of hva
      have fb := few_of hvb
      have hac := ha.cs
      have hbc := hb.cs
      have haf := ha.fs
      have hbf := hb.fs
      have hj := fun H => j_flow a b ha.sts hb.sts (by omega) (by omega) (by omega) fa fb H
      have hr := fun H => j_rFlow a b (by omega) (by omega) (by omega) fa fb H
      have hs := fun H => j_sameW (joinW a b) (fun s hs => by
       rcases List.mem_append.1 (show s ∈ a.sts ++ b.sts from hs) with h | h
       ·exact ha.sts s h
       ·exact hb.sts s h) (joinT_ok fa fb) (by show (a.sts ++ b.sts).length ≤ LA; rw [List.length_append]; omega) (by show (a.cs ++ b.cs).length ≤ LA; rw [List.length_append]; omega) (by show (a.fs ++ b.fs).length ≤ LA; rw [List.length_append]; omega) H
      have i3 : cfgF.imp 23 = false := rfl
      have i4 : cfgF.imp 24 = false := rfl
      have i5 : cfgF.imp 22 = false := rfl
      simp only [go_sem, simprocAttr, rs, List.length_map, h0, h1, hm, e2, e3, e5, a1, a2, a3, a4, a5, b1, b2, b3, b4, b5, d1, s1, s2, s3, hsa, hsb, hfx, i1, i2]
      refine W_drawH [(2, 3), (2, 5), (3, 5), (4, 5), (2, 6), (3, 6), (4, 6), (5, 6)] (by kernel_rfl) _ (by simp only [go_sem, simprocAttr, hoH]; rfl) ?_
      simp only [go_sem, simprocAttr, rs, List.length_map, h0, h1, hm, e2, e3, e5, a1, a2, a3, a4, a5, b1, b2, b3, b4, b5, d1, s1, s2, s3, hj, hr, hs, hfx, i1, i2, i3, i4, i5]
  ·have db : decide ((40 : Int) < (b.sts.length : Nat)) = true := by simp; omega
   simp only [go_sem, simprocAttr, rs, List.length_map, a1, a2, a3, a4, b1, b2, b3, b4, da, db, hfx, i1, i2]
 ·have da : decide ((40 : Int) < (a.sts.length : Nat)) = true := by simp; omega
  simp only [go_sem, simprocAttr, rs, List.length_map, a1, a2, a3, a4, b1, b2, b3, b4, da, hfx, i1, i2]
end Go.Proofs.YtnoahchdmkpleaaGreat.VA

/-! Dr -/
namespace Go.Proofs.YtnoahchdmkpleaaGreat.VA
open Go Go.RowKit
set_option linter.unusedSimpArgs false
set_option maxRecDepth 100000

instance : Inhabited Bnd := ⟨⟨⟨#[]⟩, []⟩⟩
instance : Inhabited Fd := ⟨⟨⟨#[]⟩, false, []⟩⟩
instance : Inhabited Lc := ⟨⟨(0, 0), ⟨[], []⟩⟩⟩
theorem cells_read {w : World} {a : Addr} : ∀ (n : Nat) (vs : List Value), ((List.range n).mapM fun i => w.cell? (a.add i)) = some vs → vs.length = n ∧ ∀ j, j < n → w.cell? (a.add j) = vs[j]? := by
 intro n vs h
 have key : ∀ (l : List Nat) (vs : List Value), (l.mapM fun i => w.cell? (a.add i)) = some vs → vs.length = l.length ∧ ∀ j (hj : j < l.length), w.cell? (a.add l[j]) = vs[j]? := by
  intro l
  induction l with
  | nil => intro vs h; simp at h; subst h; exact ⟨rfl, fun j hj => by simp at hj⟩
  | cons i l ih =>
   intro vs h
   rw [List.mapM_cons] at h
   simp only [Option.bind_eq_bind, Option.bind_eq_some_iff] at h
   obtain ⟨v, h1, vs', h2, h3⟩ := h
   simp at h3
   subst h3
   obtain ⟨k1, k2⟩ := ih vs' h2
   refine ⟨by simp [k1], fun j hj => ?_⟩
   cases j with
   | zero => simpa using h1
   | succ j => simpa using k2 j (by simpa using hj)
 obtain ⟨h1, h2⟩ := key _ _ h
 simp at h1
 exact ⟨h1, fun j hj => by have := h2 j (by simpa using hj); simpa using this⟩
theorem bulk_list {H G : Type} (mu : G → Nat) : ∀ (l : List G) (el : List (DataW H)), l.length = el.length → (∀ (i : Nat) g y, l[i]? = some g → el[i]? = some y → mu g ≤ Rows.uptoBulk y) → (l.map mu).sum ≤ Rows.uptoBulkAll el
 | [], el, _, _ => Nat.zero_le _
 | g :: l, [], h, _ => by simp at h
 | g :: l, y :: el, h, k => by
  have h1 := k 0 g y rfl rfl
  have h2 := bulk_list mu l el (by simpa using h) (fun i g y a b => k (i + 1) g y (by simpa using a) (by simpa using b))
  simp only [List.map_cons, List.sum_cons, Rows.uptoBulkAll]
  omega
set_option maxHeartbeats 1000000 in
/-- A slice: what its elements mean, it means. -/
theorem open_slice {H G : Type} [Inhabited G] {enc : TypeId × Value → H} {w : World} {base : Nat} {spare : Nat → Bool} {held : Bool} {fuel : Nat} {t e : TypeId} {sz : Nat}
  (ht : Tryz.prog.underlying t = some (.slice e)) (hsz : Tryz.prog.cellsOf e = sz) (h0 : 0 < sz) (encA : G → List AV) (ok : G → Bool) (mu : G → Nat)
  (each : ∀ n cs x, fuel = n + 1 → DataW.trod enc Tryz.prog w base spare held n e cs = some x → ∃ g, RelL (ghost w) w (encA g) cs ∧ cs.length = sz ∧ (∀ v ∈ cs, v.oneCell' = true) ∧ ok g = true ∧ mu g ≤ Rows.uptoBulk x.1)
  {cs : List Value} {x : DataW H × List MemPlace} (h : DataW.trod enc Tryz.prog w base spare held fuel t cs = some x) :
  ∃ (v : Value) (l : List G), cs = [v] ∧ v.oneCell' = true ∧ Rel (ghost w) w (.sl .sh (l.map encA)) v ∧ l.all ok = true ∧ (l.map mu).sum + 1 ≤ Rows.uptoBulk x.1 := by
 rcases DataW.trod_slice ht h with ⟨rfl, rfl⟩ | ⟨a, len, cap, elems, rest, n, rfl, rfl, rfl, hb, hlc, hcm, hel, hi, _, _⟩
 ·refine ⟨_, [], rfl, rfl, ?_, rfl, by simp [Rows.uptoBulk]⟩
  exact .sl .sh [] none 0 0 0 (fun _ => undef) (by simp) rfl (Nat.le_refl _) (by simp) (by simp) (by simp) (by simp) (fun h => absurd rfl h) (by simp)
 ·rw [hsz] at hi
  have each' : ∀ i, i < len → ∃ (g : G) (cs : List Value) (y : DataW H × List MemPlace), elems[i]? = some y ∧ RelL (ghost w) w (encA g) cs ∧ cs.length = sz ∧ (∀ v ∈ cs, v.oneCell' = true) ∧ ok g = true ∧ mu g ≤ Rows.uptoBulk y.1 ∧ ∀ j, j < sz → w.cell? ((a.add (i * sz)).add j) = cs[j]? := by
   intro i hlt
   have h1 := hi i hlt
   have h2 : elems[i]? = some elems[i] := List.getElem?_eq_getElem (by omega)
   rw [h2] at h1
   simp only [Option.bind_eq_some_iff] at h1
   obtain ⟨cs, h3, h4⟩ := h1
   obtain ⟨g, k1, k2, k3, k4, k5⟩ := each n cs _ rfl h4
   refine ⟨g, cs, _, h2, k1, k2, k3, k4, k5, fun j hj => ?_⟩
   unfold World.cells? at h3
   split at h3
   ·exact (cells_read sz _ h3).2 j hj
   ·cases h3
  let G' : Nat → G := fun i => open Classical in if h : i < len then (each' i h).choose else default
  have hG : ∀ i, i < len → ∃ (cs : List Value) (y : DataW H × List MemPlace), elems[i]? = some y ∧ RelL (ghost w) w (encA (G' i)) cs ∧ cs.length = sz ∧ (∀ v ∈ cs, v.oneCell' = true) ∧ ok (G' i) = true ∧ mu (G' i) ≤ Rows.uptoBulk y.1 ∧ ∀ j, j < sz → w.cell? ((a.add (i * sz)).add j) = cs[j]? := by
   intro i hlt
   have : G' i = (each' i hlt).choose := by simp [G', hlt]
   rw [this]
   exact (each' i hlt).choose_spec
  have addr : ∀ i j, i * sz + j ≠ 0 → (a.add (i * sz)).add j = ⟨a.block, a.off + (i * sz + j), none⟩ := by
   intro i j hij
   unfold Addr.add
   by_cases h1 : i * sz = 0
   ·rw [if_pos h1, if_neg (by omega)]; congr 1; omega
   ·rw [if_neg h1]
    by_cases h2 : j = 0
    ·rw [if_pos h2]; congr 1; omega
    ·rw [if_neg h2]; congr 1; simp only; omega
  have cell : 0 < len → a = ⟨a.block, a.off, none⟩ := by
   intro hl0
   obtain ⟨cs, y, _, _, k2, _, _, _, k6⟩ := hG 0 hl0
   have h1 := k6 0 h0
   have h2 : (a.add (0 * sz)).add 0 = a := by rw [Nat.zero_mul]; rfl
   rw [h2, List.getElem?_eq_getElem (by omega)] at h1
   unfold World.cell? at h1
   split at h1
   ·split at h1
    ·cases h1
    ·rename_i hs
     cases a with
     | mk b o sp => cases sp with
      | none => rfl
      | some s => simp at hs
   ·cases h1
  have hcell : ∀ i, i < len → ∃ cs : List Value, RelL (ghost w) w (encA (G' i)) cs ∧ cs.length = sz ∧ (∀ v ∈ cs, v.oneCell' = true) ∧ ∀ j, j < sz → w.cell? ⟨a.block, a.off + (i * sz + j), none⟩ = cs[j]? := by
   intro i hlt
   obtain ⟨cs, y, _, k1, k2, k3, _, _, k6⟩ := hG i hlt
   refine ⟨cs, k1, k2, k3, fun j hj => ?_⟩
   rw [← k6 j hj]
   by_cases hz : i * sz + j = 0
   ·have e2 : j = 0 := by omega
    have e3 : i * sz = 0 := by omega
    have := cell (by omega)
    rw [e3, e2]
    show w.cell? ⟨a.block, a.off, none⟩ = w.cell? a
    rw [← this]
   ·rw [addr i j hz]
  have split : ∀ k, k < len * sz → ∃ i j, k = i * sz + j ∧ j < sz ∧ i < len := fun k hk =>
   ⟨k / sz, k % sz, (Nat.div_add_mod' k sz).symm, Nat.mod_lt _ h0, Nat.div_lt_of_lt_mul (by rw [Nat.mul_comm]; exact hk)⟩
  refine ⟨_, (List.range len).map G', rfl, rfl, ?_, ?_, ?_⟩
  ·refine .sl .sh _ (some a) len cap sz (fun k => (w.cell? ⟨a.block, a.off + k, none⟩).getD undef) (by simp) (by simp) hlc (by simp) (by simp) ?_ ?_ ?_ ?_
   ·intro e he
    obtain ⟨g, hg, rfl⟩ := List.mem_map.1 he
    obtain ⟨i, hi, rfl⟩ := List.mem_map.1 hg
    obtain ⟨cs, k1, k2, _⟩ := hcell i (List.mem_range.1 hi)
    rw [k1.1, k2]
   ·intro k hk
    obtain ⟨i, j, rfl, hj, hlt⟩ := split k hk
    obtain ⟨cs, k1, k2, k3, k4⟩ := hcell i hlt
    have hjl : j < cs.length := by omega
    rw [k4 j hj, List.getElem?_eq_getElem hjl]
    exact k3 _ (List.getElem_mem hjl)
   ·intro hn0
    have ha := cell (by omega)
    refine ⟨a.block, a.off, by rw [← ha], ?_, ?_⟩
    ·obtain ⟨cs, k1, k2, k3, k4⟩ := hcell (len - 1) (by omega)
     have hlast := k4 (sz - 1) (by omega)
     rw [List.getElem?_eq_getElem (by omega)] at hlast
     have hmul : (len - 1) * sz + sz = len * sz := by
      rw [← Nat.succ_mul]; congr 1; omega
     show a.off + len * sz ≤ cellsIn w a.block
     unfold World.cell? at hlast
     unfold cellsIn
     split at hlast
     ·rename_i c _ _ hheap
      rw [hheap]
      simp only
      simp at hlast
      have := (Array.getElem?_eq_some_iff.1 hlast).1
      omega
     ·cases hlast
    ·intro k hk
     obtain ⟨i, j, rfl, hj, hlt⟩ := split k hk
     obtain ⟨cs, k1, k2, k3, k4⟩ := hcell i hlt
     rw [k4 j hj, List.getElem?_eq_getElem (by omega)]
     rfl
   ·intro i e j x he hx
    rw [List.map_map, List.getElem?_map] at he
    have hlt : i < len := by
     apply Classical.byContradiction
     intro hh
     rw [List.getElem?_eq_none (by simpa using hh)] at he
     cases he
    rw [List.getElem?_range hlt] at he
    simp only [Option.map_some, Option.some.injEq, Function.comp_apply] at he
    subst he
    obtain ⟨cs, k1, k2, k3, k4⟩ := hcell i hlt
    have hj : j < sz := by
     have := (List.getElem?_eq_some_iff.1 hx).1
     rw [k1.1] at this
     omega
    have hjl : j < cs.length := by omega
    rw [k4 j hj, List.getElem?_eq_getElem hjl]
    exact k1.2 j x _ hx (List.getElem?_eq_getElem hjl)
  ·rw [List.all_eq_true]
   intro g hg
   obtain ⟨i, hi, rfl⟩ := List.mem_map.1 hg
   obtain ⟨cs, y, _, _, _, _, k5, _⟩ := hG i (List.mem_range.1 hi)
   exact k5
  ·have := bulk_list mu ((List.range len).map G') (elems.map (·.1)) (by simp [hel]) (fun i g y hg hy => by
    have hlt : i < len := by
     apply Classical.byContradiction
     intro hh
     rw [List.getElem?_eq_none (by simpa using hh)] at hg
     cases hg
    rw [List.getElem?_map, List.getElem?_range hlt] at hg
    simp only [Option.map_some, Option.some.injEq] at hg
    subst hg
    obtain ⟨cs, z, k0, _, _, _, _, k6, _⟩ := hG i hlt
    rw [List.getElem?_map, k0] at hy
    simp only [Option.map_some, Option.some.injEq] at hy
    subst hy
    exact k6)
   simp only [Rows.uptoBulk]
   omega
theorem cells_int : Tryz.prog.cellsOf 3 = 1 := by kernel_rfl
theorem cells_bool : Tryz.prog.cellsOf 4 = 1 := by kernel_rfl
theorem cells_string : Tryz.prog.cellsOf 9 = 1 := by kernel_rfl
theorem cells_atm : Tryz.prog.cellsOf 81 = 2 := by kernel_rfl
theorem cells_bnd : Tryz.prog.cellsOf 76 = 2 := by kernel_rfl
theorem cells_fld : Tryz.prog.cellsOf 85 = 3 := by kernel_rfl
theorem cells_shp : Tryz.prog.cellsOf 79 = 2 := by kernel_rfl
theorem cells_loc : Tryz.prog.cellsOf 83 = 4 := by kernel_rfl
theorem cells_sta : Tryz.prog.cellsOf 26 = 3 := by kernel_rfl
theorem cells_sAtm : Tryz.prog.cellsOf 50 = 1 := by kernel_rfl
theorem cells_sBnd : Tryz.prog.cellsOf 23 = 1 := by kernel_rfl
theorem cells_sFld : Tryz.prog.cellsOf 77 = 1 := by kernel_rfl
theorem cells_sLoc : Tryz.prog.cellsOf 24 = 1 := by kernel_rfl
theorem tk1 (c : Value) (r : List Value) (n : Nat) (h : n = 1) : (c :: r).take n = [c] := by subst h; rfl
theorem tk2 (c d : Value) (r : List Value) (n : Nat) (h : n = 2) : (c :: d :: r).take n = [c, d] := by subst h; rfl
theorem RelL.app {g : Gh} {w : World} {a b : List AV} {c d : List Value} (h : RelL g w a c) (k : RelL g w b d) : RelL g w (a ++ b) (c ++ d) := by
 obtain ⟨h1, h2⟩ := h
 obtain ⟨k1, k2⟩ := k
 refine ⟨by simp [h1, k1], fun i x v hx hv => ?_⟩
 by_cases hi : i < a.length
 ·rw [List.getElem?_append_left hi] at hx
  rw [List.getElem?_append_left (by omega)] at hv
  exact h2 i x v hx hv
 ·rw [List.getElem?_append_right (by omega)] at hx
  rw [List.getElem?_append_right (by omega), ← h1] at hv
  exact k2 (i - a.length) x v hx hv
section
variable {H : Type} {enc : TypeId × Value → H} {w : World} {base : Nat} {spare : Nat → Bool} {held : Bool}
theorem open_atm {fuel : Nat} {cs : List Value} {x : DataW H × List MemPlace} (h : DataW.trod enc Tryz.prog w base spare held fuel 81 cs = some x) :
  ∃ g : Int × Int, RelL (ghost w) w (avA g) cs ∧ cs.length = 2 ∧ (∀ v ∈ cs, v.oneCell' = true) ∧ true = true ∧ 0 ≤ Rows.uptoBulk x.1 := by
 obtain ⟨xs, n, rfl, rfl, hl, hxs, hf⟩ := DataW.trod_struct Tryz.underlying81 h
 rw [cells_atm] at hl
 obtain ⟨c0, c1, rfl⟩ : ∃ c0 c1, cs = [c0, c1] := by
  match cs, hl with
  | [c0, c1], _ => exact ⟨c0, c1, rfl⟩
 obtain ⟨x0, x1, rfl⟩ : ∃ x0 x1, xs = [x0, x1] := by
  match xs, hxs with
  | [x0, x1], _ => exact ⟨x0, x1, rfl⟩
 have f0 : DataW.trod enc Tryz.prog w base spare held n 3 ([c0, c1].take (Tryz.prog.cellsOf 3)) = some x0 := hf 0 _ rfl
 have f1 : DataW.trod enc Tryz.prog w base spare held n 3 ([c1].take (Tryz.prog.cellsOf 3)) = some x1 := hf 1 _ rfl
 rw [tk1 _ _ _ cells_int] at f0 f1
 obtain ⟨k, e0, rfl, _⟩ := DataW.trod_int und_int f0
 obtain ⟨a, e1, rfl, _⟩ := DataW.trod_int und_int f1
 simp only [List.cons.injEq, and_true] at e0 e1
 subst e0; subst e1
 refine ⟨(k, a), .cons (.lit _) (.cons (.lit _) (.nil _ _)), rfl, ?_, rfl, Nat.zero_le _⟩
 intro v hv
 simp only [List.mem_cons, List.not_mem_nil, or_false] at hv
 rcases hv with rfl | rfl <;> rfl
theorem open_atms {fuel : Nat} {cs : List Value} {x : DataW H × List MemPlace} (h : DataW.trod enc Tryz.prog w base spare held fuel 50 cs = some x) :
  ∃ (v : Value) (l : List (Int × Int)), cs = [v] ∧ v.oneCell' = true ∧ Rel (ghost w) w (.sl .sh (encAs l)) v := by
 obtain ⟨v, l, h1, h2, h3, _⟩ := open_slice Tryz.underlying50 cells_atm (by omega) avA (fun _ => true) (fun _ => 0) (fun _ _ _ _ h => open_atm h) h
 exact ⟨v, l, h1, h2, h3⟩
theorem open_bnd {fuel : Nat} {cs : List Value} {x : DataW H × List MemPlace} (h : DataW.trod enc Tryz.prog w base spare held fuel 76 cs = some x) :
  ∃ g : Bnd, RelL (ghost w) w (encB g) cs ∧ cs.length = 2 ∧ (∀ v ∈ cs, v.oneCell' = true) ∧ true = true ∧ 0 ≤ Rows.uptoBulk x.1 := by
 obtain ⟨xs, n, rfl, rfl, hl, hxs, hf⟩ := DataW.trod_struct Tryz.underlying76 h
 rw [cells_bnd] at hl
 obtain ⟨c0, c1, rfl⟩ : ∃ c0 c1, cs = [c0, c1] := by
  match cs, hl with
  | [c0, c1], _ => exact ⟨c0, c1, rfl⟩
 obtain ⟨x0, x1, rfl⟩ : ∃ x0 x1, xs = [x0, x1] := by
  match xs, hxs with
  | [x0, x1], _ => exact ⟨x0, x1, rfl⟩
 have f0 : DataW.trod enc Tryz.prog w base spare held n 9 ([c0, c1].take (Tryz.prog.cellsOf 9)) = some x0 := hf 0 _ rfl
 have f1 : DataW.trod enc Tryz.prog w base spare held n 50 ([c1].take (Tryz.prog.cellsOf 50)) = some x1 := hf 1 _ rfl
 rw [tk1 _ _ _ cells_string] at f0
 rw [tk1 _ _ _ cells_sAtm] at f1
 obtain ⟨s, e0, rfl, _⟩ := DataW.trod_string und_string f0
 obtain ⟨v, l, e1, o1, r1⟩ := open_atms f1
 simp only [List.cons.injEq, and_true] at e0 e1
 subst e0; subst e1
 refine ⟨⟨s, l⟩, .cons (.lit _) (.cons r1 (.nil _ _)), rfl, ?_, rfl, Nat.zero_le _⟩
 intro v hv
 simp only [List.mem_cons, List.not_mem_nil, or_false] at hv
 rcases hv with rfl | rfl
 ·rfl
 ·exact o1
theorem open_fld {fuel : Nat} {cs : List Value} {x : DataW H × List MemPlace} (h : DataW.trod enc Tryz.prog w base spare held fuel 85 cs = some x) :
  ∃ g : Fd, RelL (ghost w) w (encF g) cs ∧ cs.length = 3 ∧ (∀ v ∈ cs, v.oneCell' = true) ∧ true = true ∧ 0 ≤ Rows.uptoBulk x.1 := by
 obtain ⟨xs, n, rfl, rfl, hl, hxs, hf⟩ := DataW.trod_struct Tryz.underlying85 h
 rw [cells_fld] at hl
 obtain ⟨c0, c1, c2, rfl⟩ : ∃ c0 c1 c2, cs = [c0, c1, c2] := by
  match cs, hl with
  | [c0, c1, c2], _ => exact ⟨c0, c1, c2, rfl⟩
 obtain ⟨x0, x1, x2, rfl⟩ : ∃ x0 x1 x2, xs = [x0, x1, x2] := by
  match xs, hxs with
  | [x0, x1, x2], _ => exact ⟨x0, x1, x2, rfl⟩
 have f0 : DataW.trod enc Tryz.prog w base spare held n 9 ([c0, c1, c2].take (Tryz.prog.cellsOf 9)) = some x0 := hf 0 _ rfl
 have f1 : DataW.trod enc Tryz.prog w base spare held n 4 ([c1, c2].take (Tryz.prog.cellsOf 4)) = some x1 := hf 1 _ rfl
 have f2 : DataW.trod enc Tryz.prog w base spare held n 50 ([c2].take (Tryz.prog.cellsOf 50)) = some x2 := hf 2 _ rfl
 rw [tk1 _ _ _ cells_string] at f0
 rw [tk1 _ _ _ cells_bool] at f1
 rw [tk1 _ _ _ cells_sAtm] at f2
 obtain ⟨s, e0, rfl, _⟩ := DataW.trod_string und_string f0
 obtain ⟨b, e1, rfl⟩ := DataW.trod_bool und_bool f1
 obtain ⟨v, l, e2, o2, r2⟩ := open_atms f2
 simp only [List.cons.injEq, and_true] at e0 e1 e2
 subst e0; subst e1; subst e2
 refine ⟨⟨s, b, l⟩, .cons (.lit _) (.cons (.lit _) (.cons r2 (.nil _ _))), rfl, ?_, rfl, Nat.zero_le _⟩
 intro v hv
 simp only [List.mem_cons, List.not_mem_nil, or_false] at hv
 rcases hv with rfl | rfl | rfl
 ·rfl
 ·rfl
 ·exact o2
theorem open_shp {fuel : Nat} {cs : List Value} {x : DataW H × List MemPlace} (h : DataW.trod enc Tryz.prog w base spare held fuel 79 cs = some x) :
  ∃ g : Sh, RelL (ghost w) w (encSh g) cs ∧ cs.length = 2 ∧ (∀ v ∈ cs, v.oneCell' = true) := by
 obtain ⟨xs, n, rfl, rfl, hl, hxs, hf⟩ := DataW.trod_struct Tryz.underlying79 h
 rw [cells_shp] at hl
 obtain ⟨c0, c1, rfl⟩ : ∃ c0 c1, cs = [c0, c1] := by
  match cs, hl with
  | [c0, c1], _ => exact ⟨c0, c1, rfl⟩
 obtain ⟨x0, x1, rfl⟩ : ∃ x0 x1, xs = [x0, x1] := by
  match xs, hxs with
  | [x0, x1], _ => exact ⟨x0, x1, rfl⟩
 have f0 : DataW.trod enc Tryz.prog w base spare held n 77 ([c0, c1].take (Tryz.prog.cellsOf 77)) = some x0 := hf 0 _ rfl
 have f1 : DataW.trod enc Tryz.prog w base spare held n 50 ([c1].take (Tryz.prog.cellsOf 50)) = some x1 := hf 1 _ rfl
 rw [tk1 _ _ _ cells_sFld] at f0
 rw [tk1 _ _ _ cells_sAtm] at f1
 obtain ⟨u, fs, e0, o0, r0, _⟩ := open_slice Tryz.underlying77 cells_fld (by omega) encF (fun _ => true) (fun _ => 0) (fun _ _ _ _ h => open_fld h) f0
 obtain ⟨v, l, e1, o1, r1⟩ := open_atms f1
 simp only [List.cons.injEq, and_true] at e0 e1
 subst e0; subst e1
 refine ⟨⟨fs, l⟩, .cons r0 (.cons r1 (.nil _ _)), rfl, ?_⟩
 intro v hv
 simp only [List.mem_cons, List.not_mem_nil, or_false] at hv
 rcases hv with rfl | rfl
 ·exact o0
 ·exact o1
theorem open_loc {fuel : Nat} {cs : List Value} {x : DataW H × List MemPlace} (h : DataW.trod enc Tryz.prog w base spare held fuel 83 cs = some x) :
  ∃ g : Lc, RelL (ghost w) w (encL g) cs ∧ cs.length = 4 ∧ (∀ v ∈ cs, v.oneCell' = true) ∧ true = true ∧ 0 ≤ Rows.uptoBulk x.1 := by
 obtain ⟨xs, n, rfl, rfl, hl, hxs, hf⟩ := DataW.trod_struct Tryz.underlying83 h
 rw [cells_loc] at hl
 obtain ⟨c0, c1, c2, c3, rfl⟩ : ∃ c0 c1 c2 c3, cs = [c0, c1, c2, c3] := by
  match cs, hl with
  | [c0, c1, c2, c3], _ => exact ⟨c0, c1, c2, c3, rfl⟩
 obtain ⟨x0, x1, rfl⟩ : ∃ x0 x1, xs = [x0, x1] := by
  match xs, hxs with
  | [x0, x1], _ => exact ⟨x0, x1, rfl⟩
 have f0 : DataW.trod enc Tryz.prog w base spare held n 81 ([c0, c1, c2, c3].take (Tryz.prog.cellsOf 81)) = some x0 := hf 0 _ rfl
 have f1 : DataW.trod enc Tryz.prog w base spare held n 79 (([c0, c1, c2, c3].drop (Tryz.prog.cellsOf 81)).take (Tryz.prog.cellsOf 79)) = some x1 := hf 1 _ rfl
 rw [tk2 _ _ _ _ cells_atm] at f0
 rw [cells_atm, show [c0, c1, c2, c3].drop 2 = [c2, c3] from rfl, tk2 _ _ _ _ cells_shp] at f1
 obtain ⟨a, r0, _, o0, _⟩ := open_atm f0
 obtain ⟨s, r1, _, o1⟩ := open_shp f1
 refine ⟨⟨a, s⟩, RelL.app r0 r1, rfl, ?_, rfl, Nat.zero_le _⟩
 intro v hv
 rcases List.mem_append.1 (show v ∈ [c0, c1] ++ [c2, c3] from hv) with hv | hv
 ·exact o0 v hv
 ·exact o1 v hv
theorem open_sta {fuel : Nat} {cs : List Value} {x : DataW H × List MemPlace} (h : DataW.trod enc Tryz.prog w base spare held fuel 26 cs = some x) :
  ∃ g : Sta, RelL (ghost w) w (encSt g) cs := by
 obtain ⟨xs, n, rfl, rfl, hl, hxs, hf⟩ := DataW.trod_struct Tryz.underlying26 h
 rw [cells_sta] at hl
 obtain ⟨c0, c1, c2, rfl⟩ : ∃ c0 c1 c2, cs = [c0, c1, c2] := by
  match cs, hl with
  | [c0, c1, c2], _ => exact ⟨c0, c1, c2, rfl⟩
 obtain ⟨x0, x1, x2, rfl⟩ : ∃ x0 x1 x2, xs = [x0, x1, x2] := by
  match xs, hxs with
  | [x0, x1, x2], _ => exact ⟨x0, x1, x2, rfl⟩
 have f0 : DataW.trod enc Tryz.prog w base spare held n 4 ([c0, c1, c2].take (Tryz.prog.cellsOf 4)) = some x0 := hf 0 _ rfl
 have f1 : DataW.trod enc Tryz.prog w base spare held n 23 ([c1, c2].take (Tryz.prog.cellsOf 23)) = some x1 := hf 1 _ rfl
 have f2 : DataW.trod enc Tryz.prog w base spare held n 24 ([c2].take (Tryz.prog.cellsOf 24)) = some x2 := hf 2 _ rfl
 rw [tk1 _ _ _ cells_bool] at f0
 rw [tk1 _ _ _ cells_sBnd] at f1
 rw [tk1 _ _ _ cells_sLoc] at f2
 obtain ⟨b, e0, rfl⟩ := DataW.trod_bool und_bool f0
 obtain ⟨u, vs, e1, _, r1, _⟩ := open_slice Tryz.underlying23 cells_bnd (by omega) encB (fun _ => true) (fun _ => 0) (fun _ _ _ _ h => open_bnd h) f1
 obtain ⟨v, ls, e2, _, r2, _⟩ := open_slice Tryz.underlying24 cells_loc (by omega) encL (fun _ => true) (fun _ => 0) (fun _ _ _ _ h => open_loc h) f2
 simp only [List.cons.injEq, and_true] at e0 e1 e2
 subst e0; subst e1; subst e2
 exact ⟨⟨b, vs, ls⟩, .cons (.lit _) (.cons r1 (.cons r2 (.nil _ _)))⟩
end
end Go.Proofs.YtnoahchdmkpleaaGreat.VA

/-! Dv -/
namespace Go.Proofs.YtnoahchdmkpleaaGreat.VA
open Go Go.RowKit
set_option linter.unusedSimpArgs false
set_option linter.unusedVariables false
set_option maxRecDepth 100000

instance : Inhabited Cst := ⟨⟨0, 0, 0, 0, ⟨#[]⟩, 0⟩⟩
instance : Inhabited Flt := ⟨⟨0, 0⟩⟩
instance : Inhabited Sta := ⟨⟨false, [], []⟩⟩
def mB (b : Bnd) : Nat := b.vals.length + 1
def mF (f : Fd) : Nat := f.vals.length + 1
def mS (s : Sh) : Nat := (s.fields.map mF).sum + s.proto.length + 1
def mL (l : Lc) : Nat := mS l.shape
def mT (s : Sta) : Nat := (s.vars.map mB).sum + (s.locs.map mL).sum + 1
theorem sum_one {T : Type} : ∀ l : List T, (l.map fun _ => 1).sum = l.length
 | [] => rfl
 | _ :: l => by simp only [List.map_cons, List.sum_cons, List.length_cons, sum_one l]; omega
theorem sum_mem {T : Type} (f : T → Nat) : ∀ {l : List T} {x : T}, x ∈ l → f x ≤ (l.map f).sum
 | [], x, h => by cases h
 | y :: l, x, h => by
  simp only [List.map_cons, List.sum_cons]
  rcases List.mem_cons.1 h with rfl | h
  ·omega
  ·have := sum_mem f h; omega
theorem sum_len {T : Type} (f : T → Nat) (h1 : ∀ x, 1 ≤ f x) : ∀ l : List T, l.length ≤ (l.map f).sum
 | [] => Nat.le_refl _
 | y :: l => by
  have := sum_len f h1 l
  have := h1 y
  simp only [List.map_cons, List.sum_cons, List.length_cons]; omega
theorem mT_ok {s : Sta} (h : mT s ≤ LB) : StOk s := by
 have hLA : LA = 1000000000000 := rfl
 have hLB : LB = 100000000000 := rfl
 unfold mT at h
 have h1 := sum_len mB (fun b => Nat.le_add_left _ _) s.vars
 have h2 := sum_len mL (fun b => Nat.le_add_left _ _) s.locs
 refine ⟨fun b hb => ?_, by omega, fun l hl => ?_, by omega⟩
 ·have := sum_mem mB hb
  unfold mB at this
  unfold BOk
  have e : (fun b : Bnd => b.vals.length + 1) = mB := rfl
  rw [e] at this
  omega
 ·have h3 := sum_mem mL hl
  have h4 : mL l = (l.shape.fields.map mF).sum + l.shape.proto.length + 1 := rfl
  have h5 := sum_len mF (fun b => Nat.le_add_left _ _) l.shape.fields
  refine ⟨fun f hf => ?_, by omega, by omega⟩
  have h6 := sum_mem mF hf
  have h7 : mF f = f.vals.length + 1 := rfl
  unfold FOk
  omega
theorem cells_cst : Tryz.prog.cellsOf 71 = 6 := by kernel_rfl
theorem cells_flt : Tryz.prog.cellsOf 103 = 2 := by kernel_rfl
theorem cells_flw : Tryz.prog.cellsOf 57 = 6 := by kernel_rfl
theorem cells_errno : Tryz.prog.cellsOf 39 = 1 := by kernel_rfl
theorem cells_sSta : Tryz.prog.cellsOf 54 = 1 := by kernel_rfl
theorem cells_sCst : Tryz.prog.cellsOf 38 = 1 := by kernel_rfl
theorem cells_sFlt : Tryz.prog.cellsOf 55 = 1 := by kernel_rfl
theorem tk3 (c d f : Value) (r : List Value) (n : Nat) (h : n = 3) : (c :: d :: f :: r).take n = [c, d, f] := by subst h; rfl
def mW (w : Flw) : Nat := (w.sts.map mT).sum + w.cs.length + w.fs.length + mT w.out + 1
section
variable {H : Type} {enc : TypeId × Value → H} {w : World} {base : Nat} {spare : Nat → Bool} {held : Bool}
theorem open_atmB {fuel : Nat} {cs : List Value} {x : DataW H × List MemPlace} (h : DataW.trod enc Tryz.prog w base spare held fuel 81 cs = some x) :
  ∃ g : Int × Int, RelL (ghost w) w (avA g) cs ∧ cs.length = 2 ∧ (∀ v ∈ cs, v.oneCell' = true) ∧ true = true ∧ 1 ≤ Rows.uptoBulk x.1 := by
 obtain ⟨xs, n, rfl, rfl, hl, hxs, hf⟩ := DataW.trod_struct Tryz.underlying81 h
 rw [cells_atm] at hl
 obtain ⟨c0, c1, rfl⟩ : ∃ c0 c1, cs = [c0, c1] := by
  match cs, hl with
  | [c0, c1], _ => exact ⟨c0, c1, rfl⟩
 obtain ⟨x0, x1, rfl⟩ : ∃ x0 x1, xs = [x0, x1] := by
  match xs, hxs with
  | [x0, x1], _ => exact ⟨x0, x1, rfl⟩
 have f0 : DataW.trod enc Tryz.prog w base spare held n 3 ([c0, c1].take (Tryz.prog.cellsOf 3)) = some x0 := hf 0 _ rfl
 rw [tk1 _ _ _ cells_int] at f0
 have f1 : DataW.trod enc Tryz.prog w base spare held n 3 ([c1].take (Tryz.prog.cellsOf 3)) = some x1 := hf 1 _ rfl
 rw [tk1 _ _ _ cells_int] at f1
 obtain ⟨a0, e0, rfl, _⟩ := DataW.trod_int und_int f0
 obtain ⟨a1, e1, rfl, _⟩ := DataW.trod_int und_int f1
 simp only [List.cons.injEq, and_true] at e0 e1
 subst e0; subst e1
 refine ⟨(a0, a1), (.cons (.lit _) (.cons (.lit _) (.nil _ _))), rfl, ?_, rfl, ?_⟩
 ·intro v hv
  simp only [List.mem_cons, List.not_mem_nil, or_false] at hv
  rcases hv with rfl | rfl
  ·exact rfl
  ·exact rfl
 ·simp only [mB, mF, mS, mL, mT, mW, Rows.uptoBulk, Rows.uptoBulkAll, List.map_cons, List.map_nil] at *
  omega
theorem open_bndB {fuel : Nat} {cs : List Value} {x : DataW H × List MemPlace} (h : DataW.trod enc Tryz.prog w base spare held fuel 76 cs = some x) :
  ∃ g : Bnd, RelL (ghost w) w (encB g) cs ∧ cs.length = 2 ∧ (∀ v ∈ cs, v.oneCell' = true) ∧ true = true ∧ mB g ≤ Rows.uptoBulk x.1 := by
 obtain ⟨xs, n, rfl, rfl, hl, hxs, hf⟩ := DataW.trod_struct Tryz.underlying76 h
 rw [cells_bnd] at hl
 obtain ⟨c0, c1, rfl⟩ : ∃ c0 c1, cs = [c0, c1] := by
  match cs, hl with
  | [c0, c1], _ => exact ⟨c0, c1, rfl⟩
 obtain ⟨x0, x1, rfl⟩ : ∃ x0 x1, xs = [x0, x1] := by
  match xs, hxs with
  | [x0, x1], _ => exact ⟨x0, x1, rfl⟩
 have f0 : DataW.trod enc Tryz.prog w base spare held n 9 ([c0, c1].take (Tryz.prog.cellsOf 9)) = some x0 := hf 0 _ rfl
 rw [tk1 _ _ _ cells_string] at f0
 have f1 : DataW.trod enc Tryz.prog w base spare held n 50 ([c1].take (Tryz.prog.cellsOf 50)) = some x1 := hf 1 _ rfl
 rw [tk1 _ _ _ cells_sAtm] at f1
 obtain ⟨a0, e0, rfl, _⟩ := DataW.trod_string und_string f0
 obtain ⟨v1, a1, e1, o1, r1, _, b1⟩ := open_slice Tryz.underlying50 cells_atm (by omega) avA (fun _ => true) (fun _ => 1) (fun _ _ _ _ h => open_atmB h) f1
 rw [sum_one] at b1
 simp only [List.cons.injEq, and_true] at e0 e1
 subst e0; subst e1
 refine ⟨⟨a0, a1⟩, (.cons (.lit _) (.cons r1 (.nil _ _))), rfl, ?_, rfl, ?_⟩
 ·intro v hv
  simp only [List.mem_cons, List.not_mem_nil, or_false] at hv
  rcases hv with rfl | rfl
  ·exact rfl
  ·exact o1
 ·simp only [mB, mF, mS, mL, mT, mW, Rows.uptoBulk, Rows.uptoBulkAll, List.map_cons, List.map_nil] at *
  omega
theorem open_fldB {fuel : Nat} {cs : List Value} {x : DataW H × List MemPlace} (h : DataW.trod enc Tryz.prog w base spare held fuel 85 cs = some x) :
  ∃ g : Fd, RelL (ghost w) w (encF g) cs ∧ cs.length = 3 ∧ (∀ v ∈ cs, v.oneCell' = true) ∧ true = true ∧ mF g ≤ Rows.uptoBulk x.1 := by
 obtain ⟨xs, n, rfl, rfl, hl, hxs, hf⟩ := DataW.trod_struct Tryz.underlying85 h
 rw [cells_fld] at hl
 obtain ⟨c0, c1, c2, rfl⟩ : ∃ c0 c1 c2, cs = [c0, c1, c2] := by
  match cs, hl with
  | [c0, c1, c2], _ => exact ⟨c0, c1, c2, rfl⟩
 obtain ⟨x0, x1, x2, rfl⟩ : ∃ x0 x1 x2, xs = [x0, x1, x2] := by
  match xs, hxs with
  | [x0, x1, x2], _ => exact ⟨x0, x1, x2, rfl⟩
 have f0 : DataW.trod enc Tryz.prog w base spare held n 9 ([c0, c1, c2].take (Tryz.prog.cellsOf 9)) = some x0 := hf 0 _ rfl
 rw [tk1 _ _ _ cells_string] at f0
 have f1 : DataW.trod enc Tryz.prog w base spare held n 4 ([c1, c2].take (Tryz.prog.cellsOf 4)) = some x1 := hf 1 _ rfl
 rw [tk1 _ _ _ cells_bool] at f1
 have f2 : DataW.trod enc Tryz.prog w base spare held n 50 ([c2].take (Tryz.prog.cellsOf 50)) = some x2 := hf 2 _ rfl
 rw [tk1 _ _ _ cells_sAtm] at f2
 obtain ⟨a0, e0, rfl, _⟩ := DataW.trod_string und_string f0
 obtain ⟨a1, e1, rfl⟩ := DataW.trod_bool und_bool f1
 obtain ⟨v2, a2, e2, o2, r2, _, b2⟩ := open_slice Tryz.underlying50 cells_atm (by omega) avA (fun _ => true) (fun _ => 1) (fun _ _ _ _ h => open_atmB h) f2
 rw [sum_one] at b2
 simp only [List.cons.injEq, and_true] at e0 e1 e2
 subst e0; subst e1; subst e2
 refine ⟨⟨a0, a1, a2⟩, (.cons (.lit _) (.cons (.lit _) (.cons r2 (.nil _ _)))), rfl, ?_, rfl, ?_⟩
 ·intro v hv
  simp only [List.mem_cons, List.not_mem_nil, or_false] at hv
  rcases hv with rfl | rfl | rfl
  ·exact rfl
  ·exact rfl
  ·exact o2
 ·simp only [mB, mF, mS, mL, mT, mW, Rows.uptoBulk, Rows.uptoBulkAll, List.map_cons, List.map_nil] at *
  omega
theorem open_shpB {fuel : Nat} {cs : List Value} {x : DataW H × List MemPlace} (h : DataW.trod enc Tryz.prog w base spare held fuel 79 cs = some x) :
  ∃ g : Sh, RelL (ghost w) w (encSh g) cs ∧ cs.length = 2 ∧ (∀ v ∈ cs, v.oneCell' = true) ∧ true = true ∧ mS g ≤ Rows.uptoBulk x.1 := by
 obtain ⟨xs, n, rfl, rfl, hl, hxs, hf⟩ := DataW.trod_struct Tryz.underlying79 h
 rw [cells_shp] at hl
 obtain ⟨c0, c1, rfl⟩ : ∃ c0 c1, cs = [c0, c1] := by
  match cs, hl with
  | [c0, c1], _ => exact ⟨c0, c1, rfl⟩
 obtain ⟨x0, x1, rfl⟩ : ∃ x0 x1, xs = [x0, x1] := by
  match xs, hxs with
  | [x0, x1], _ => exact ⟨x0, x1, rfl⟩
 have f0 : DataW.trod enc Tryz.prog w base spare held n 77 ([c0, c1].take (Tryz.prog.cellsOf 77)) = some x0 := hf 0 _ rfl
 rw [tk1 _ _ _ cells_sFld] at f0
 have f1 : DataW.trod enc Tryz.prog w base spare held n 50 ([c1].take (Tryz.prog.cellsOf 50)) = some x1 := hf 1 _ rfl
 rw [tk1 _ _ _ cells_sAtm] at f1
 obtain ⟨v0, a0, e0, o0, r0, _, b0⟩ := open_slice Tryz.underlying77 cells_fld (by omega) encF (fun _ => true) mF (fun _ _ _ _ h => open_fldB h) f0
 obtain ⟨v1, a1, e1, o1, r1, _, b1⟩ := open_slice Tryz.underlying50 cells_atm (by omega) avA (fun _ => true) (fun _ => 1) (fun _ _ _ _ h => open_atmB h) f1
 rw [sum_one] at b1
 simp only [List.cons.injEq, and_true] at e0 e1
 subst e0; subst e1
 refine ⟨⟨a0, a1⟩, (.cons r0 (.cons r1 (.nil _ _))), rfl, ?_, rfl, ?_⟩
 ·intro v hv
  simp only [List.mem_cons, List.not_mem_nil, or_false] at hv
  rcases hv with rfl | rfl
  ·exact o0
  ·exact o1
 ·simp only [mB, mF, mS, mL, mT, mW, Rows.uptoBulk, Rows.uptoBulkAll, List.map_cons, List.map_nil] at *
  omega
theorem open_locB {fuel : Nat} {cs : List Value} {x : DataW H × List MemPlace} (h : DataW.trod enc Tryz.prog w base spare held fuel 83 cs = some x) :
  ∃ g : Lc, RelL (ghost w) w (encL g) cs ∧ cs.length = 4 ∧ (∀ v ∈ cs, v.oneCell' = true) ∧ true = true ∧ mL g ≤ Rows.uptoBulk x.1 := by
 obtain ⟨xs, n, rfl, rfl, hl, hxs, hf⟩ := DataW.trod_struct Tryz.underlying83 h
 rw [cells_loc] at hl
 obtain ⟨c0, c1, c2, c3, rfl⟩ : ∃ c0 c1 c2 c3, cs = [c0, c1, c2, c3] := by
  match cs, hl with
  | [c0, c1, c2, c3], _ => exact ⟨c0, c1, c2, c3, rfl⟩
 obtain ⟨x0, x1, rfl⟩ : ∃ x0 x1, xs = [x0, x1] := by
  match xs, hxs with
  | [x0, x1], _ => exact ⟨x0, x1, rfl⟩
 have f0 : DataW.trod enc Tryz.prog w base spare held n 81 ([c0, c1, c2, c3].take (Tryz.prog.cellsOf 81)) = some x0 := hf 0 _ rfl
 rw [tk2 _ _ _ _ cells_atm] at f0
 have f1 : DataW.trod enc Tryz.prog w base spare held n 79 (([c0, c1, c2, c3].drop (Tryz.prog.cellsOf 81)).take (Tryz.prog.cellsOf 79)) = some x1 := hf 1 _ rfl
 rw [cells_atm, show [c0, c1, c2, c3].drop 2 = [c2, c3] from rfl, tk2 _ _ _ _ cells_shp] at f1
 obtain ⟨a0, r0, _, o0, _, b0⟩ := open_atm f0
 obtain ⟨a1, r1, _, o1, _, b1⟩ := open_shpB f1
 refine ⟨⟨a0, a1⟩, (RelL.app r0 r1), rfl, ?_, rfl, ?_⟩
 ·intro v hv
  rcases List.mem_append.1 (show v ∈ [c0, c1] ++ [c2, c3] from hv) with hv | hv
  ·exact o0 v hv
  ·exact o1 v hv
 ·simp only [mB, mF, mS, mL, mT, mW, Rows.uptoBulk, Rows.uptoBulkAll, List.map_cons, List.map_nil] at *
  omega
theorem open_staB {fuel : Nat} {cs : List Value} {x : DataW H × List MemPlace} (h : DataW.trod enc Tryz.prog w base spare held fuel 26 cs = some x) :
  ∃ g : Sta, RelL (ghost w) w (encSt g) cs ∧ cs.length = 3 ∧ (∀ v ∈ cs, v.oneCell' = true) ∧ true = true ∧ mT g ≤ Rows.uptoBulk x.1 := by
 obtain ⟨xs, n, rfl, rfl, hl, hxs, hf⟩ := DataW.trod_struct Tryz.underlying26 h
 rw [cells_sta] at hl
 obtain ⟨c0, c1, c2, rfl⟩ : ∃ c0 c1 c2, cs = [c0, c1, c2] := by
  match cs, hl with
  | [c0, c1, c2], _ => exact ⟨c0, c1, c2, rfl⟩
 obtain ⟨x0, x1, x2, rfl⟩ : ∃ x0 x1 x2, xs = [x0, x1, x2] := by
  match xs, hxs with
  | [x0, x1, x2], _ => exact ⟨x0, x1, x2, rfl⟩
 have f0 : DataW.trod enc Tryz.prog w base spare held n 4 ([c0, c1, c2].take (Tryz.prog.cellsOf 4)) = some x0 := hf 0 _ rfl
 rw [tk1 _ _ _ cells_bool] at f0
 have f1 : DataW.trod enc Tryz.prog w base spare held n 23 ([c1, c2].take (Tryz.prog.cellsOf 23)) = some x1 := hf 1 _ rfl
 rw [tk1 _ _ _ cells_sBnd] at f1
 have f2 : DataW.trod enc Tryz.prog w base spare held n 24 ([c2].take (Tryz.prog.cellsOf 24)) = some x2 := hf 2 _ rfl
 rw [tk1 _ _ _ cells_sLoc] at f2
 obtain ⟨a0, e0, rfl⟩ := DataW.trod_bool und_bool f0
 obtain ⟨v1, a1, e1, o1, r1, _, b1⟩ := open_slice Tryz.underlying23 cells_bnd (by omega) encB (fun _ => true) mB (fun _ _ _ _ h => open_bndB h) f1
 obtain ⟨v2, a2, e2, o2, r2, _, b2⟩ := open_slice Tryz.underlying24 cells_loc (by omega) encL (fun _ => true) mL (fun _ _ _ _ h => open_locB h) f2
 simp only [List.cons.injEq, and_true] at e0 e1 e2
 subst e0; subst e1; subst e2
 refine ⟨⟨a0, a1, a2⟩, (.cons (.lit _) (.cons r1 (.cons r2 (.nil _ _)))), rfl, ?_, rfl, ?_⟩
 ·intro v hv
  simp only [List.mem_cons, List.not_mem_nil, or_false] at hv
  rcases hv with rfl | rfl | rfl
  ·exact rfl
  ·exact o1
  ·exact o2
 ·simp only [mB, mF, mS, mL, mT, mW, Rows.uptoBulk, Rows.uptoBulkAll, List.map_cons, List.map_nil] at *
  omega
theorem open_cst {fuel : Nat} {cs : List Value} {x : DataW H × List MemPlace} (h : DataW.trod enc Tryz.prog w base spare held fuel 71 cs = some x) :
  ∃ g : Cst, RelL (ghost w) w (encCs g) cs ∧ cs.length = 6 ∧ (∀ v ∈ cs, v.oneCell' = true) ∧ true = true ∧ 1 ≤ Rows.uptoBulk x.1 := by
 obtain ⟨xs, n, rfl, rfl, hl, hxs, hf⟩ := DataW.trod_struct Tryz.underlying71 h
 rw [cells_cst] at hl
 obtain ⟨c0, c1, c2, c3, c4, c5, rfl⟩ : ∃ c0 c1 c2 c3 c4 c5, cs = [c0, c1, c2, c3, c4, c5] := by
  match cs, hl with
  | [c0, c1, c2, c3, c4, c5], _ => exact ⟨c0, c1, c2, c3, c4, c5, rfl⟩
 obtain ⟨x0, x1, x2, x3, x4, x5, rfl⟩ : ∃ x0 x1 x2 x3 x4 x5, xs = [x0, x1, x2, x3, x4, x5] := by
  match xs, hxs with
  | [x0, x1, x2, x3, x4, x5], _ => exact ⟨x0, x1, x2, x3, x4, x5, rfl⟩
 have f0 : DataW.trod enc Tryz.prog w base spare held n 3 ([c0, c1, c2, c3, c4, c5].take (Tryz.prog.cellsOf 3)) = some x0 := hf 0 _ rfl
 rw [tk1 _ _ _ cells_int] at f0
 have f1 : DataW.trod enc Tryz.prog w base spare held n 3 ([c1, c2, c3, c4, c5].take (Tryz.prog.cellsOf 3)) = some x1 := hf 1 _ rfl
 rw [tk1 _ _ _ cells_int] at f1
 have f2 : DataW.trod enc Tryz.prog w base spare held n 3 ([c2, c3, c4, c5].take (Tryz.prog.cellsOf 3)) = some x2 := hf 2 _ rfl
 rw [tk1 _ _ _ cells_int] at f2
 have f3 : DataW.trod enc Tryz.prog w base spare held n 3 ([c3, c4, c5].take (Tryz.prog.cellsOf 3)) = some x3 := hf 3 _ rfl
 rw [tk1 _ _ _ cells_int] at f3
 have f4 : DataW.trod enc Tryz.prog w base spare held n 9 ([c4, c5].take (Tryz.prog.cellsOf 9)) = some x4 := hf 4 _ rfl
 rw [tk1 _ _ _ cells_string] at f4
 have f5 : DataW.trod enc Tryz.prog w base spare held n 3 ([c5].take (Tryz.prog.cellsOf 3)) = some x5 := hf 5 _ rfl
 rw [tk1 _ _ _ cells_int] at f5
 obtain ⟨a0, e0, rfl, _⟩ := DataW.trod_int und_int f0
 obtain ⟨a1, e1, rfl, _⟩ := DataW.trod_int und_int f1
 obtain ⟨a2, e2, rfl, _⟩ := DataW.trod_int und_int f2
 obtain ⟨a3, e3, rfl, _⟩ := DataW.trod_int und_int f3
 obtain ⟨a4, e4, rfl, _⟩ := DataW.trod_string und_string f4
 obtain ⟨a5, e5, rfl, _⟩ := DataW.trod_int und_int f5
 simp only [List.cons.injEq, and_true] at e0 e1 e2 e3 e4 e5
 subst e0; subst e1; subst e2; subst e3; subst e4; subst e5
 refine ⟨⟨a0, a1, a2, a3, a4, a5⟩, (.cons (.lit _) (.cons (.lit _) (.cons (.lit _) (.cons (.lit _) (.cons (.lit _) (.cons (.lit _) (.nil _ _))))))), rfl, ?_, rfl, ?_⟩
 ·intro v hv
  simp only [List.mem_cons, List.not_mem_nil, or_false] at hv
  rcases hv with rfl | rfl | rfl | rfl | rfl | rfl
  ·exact rfl
  ·exact rfl
  ·exact rfl
  ·exact rfl
  ·exact rfl
  ·exact rfl
 ·simp only [mB, mF, mS, mL, mT, mW, Rows.uptoBulk, Rows.uptoBulkAll, List.map_cons, List.map_nil] at *
  omega
theorem open_flt {fuel : Nat} {cs : List Value} {x : DataW H × List MemPlace} (h : DataW.trod enc Tryz.prog w base spare held fuel 103 cs = some x) :
  ∃ g : Flt, RelL (ghost w) w (encX g) cs ∧ cs.length = 2 ∧ (∀ v ∈ cs, v.oneCell' = true) ∧ true = true ∧ 1 ≤ Rows.uptoBulk x.1 := by
 obtain ⟨xs, n, rfl, rfl, hl, hxs, hf⟩ := DataW.trod_struct Tryz.underlying103 h
 rw [cells_flt] at hl
 obtain ⟨c0, c1, rfl⟩ : ∃ c0 c1, cs = [c0, c1] := by
  match cs, hl with
  | [c0, c1], _ => exact ⟨c0, c1, rfl⟩
 obtain ⟨x0, x1, rfl⟩ : ∃ x0 x1, xs = [x0, x1] := by
  match xs, hxs with
  | [x0, x1], _ => exact ⟨x0, x1, rfl⟩
 have f0 : DataW.trod enc Tryz.prog w base spare held n 39 ([c0, c1].take (Tryz.prog.cellsOf 39)) = some x0 := hf 0 _ rfl
 rw [tk1 _ _ _ cells_errno] at f0
 have f1 : DataW.trod enc Tryz.prog w base spare held n 3 ([c1].take (Tryz.prog.cellsOf 3)) = some x1 := hf 1 _ rfl
 rw [tk1 _ _ _ cells_int] at f1
 obtain ⟨a0, e0, rfl, _⟩ := DataW.trod_int und_errno f0
 obtain ⟨a1, e1, rfl, _⟩ := DataW.trod_int und_int f1
 simp only [List.cons.injEq, and_true] at e0 e1
 subst e0; subst e1
 refine ⟨⟨a0, a1⟩, (.cons (.lit _) (.cons (.lit _) (.nil _ _))), rfl, ?_, rfl, ?_⟩
 ·intro v hv
  simp only [List.mem_cons, List.not_mem_nil, or_false] at hv
  rcases hv with rfl | rfl
  ·exact rfl
  ·exact rfl
 ·simp only [mB, mF, mS, mL, mT, mW, Rows.uptoBulk, Rows.uptoBulkAll, List.map_cons, List.map_nil] at *
  omega
theorem open_flw {fuel : Nat} {cs : List Value} {x : DataW H × List MemPlace} (h : DataW.trod enc Tryz.prog w base spare held fuel 57 cs = some x) :
  ∃ g : Flw, RelL (ghost w) w (encW g) cs ∧ cs.length = 6 ∧ (∀ v ∈ cs, v.oneCell' = true) ∧ true = true ∧ mW g ≤ Rows.uptoBulk x.1 := by
 obtain ⟨xs, n, rfl, rfl, hl, hxs, hf⟩ := DataW.trod_struct Tryz.underlying57 h
 rw [cells_flw] at hl
 obtain ⟨c0, c1, c2, c3, c4, c5, rfl⟩ : ∃ c0 c1 c2 c3 c4 c5, cs = [c0, c1, c2, c3, c4, c5] := by
  match cs, hl with
  | [c0, c1, c2, c3, c4, c5], _ => exact ⟨c0, c1, c2, c3, c4, c5, rfl⟩
 obtain ⟨x0, x1, x2, x3, rfl⟩ : ∃ x0 x1 x2 x3, xs = [x0, x1, x2, x3] := by
  match xs, hxs with
  | [x0, x1, x2, x3], _ => exact ⟨x0, x1, x2, x3, rfl⟩
 have f0 : DataW.trod enc Tryz.prog w base spare held n 54 ([c0, c1, c2, c3, c4, c5].take (Tryz.prog.cellsOf 54)) = some x0 := hf 0 _ rfl
 rw [tk1 _ _ _ cells_sSta] at f0
 have f1 : DataW.trod enc Tryz.prog w base spare held n 38 ([c1, c2, c3, c4, c5].take (Tryz.prog.cellsOf 38)) = some x1 := hf 1 _ rfl
 rw [tk1 _ _ _ cells_sCst] at f1
 have f2 : DataW.trod enc Tryz.prog w base spare held n 55 ([c2, c3, c4, c5].take (Tryz.prog.cellsOf 55)) = some x2 := hf 2 _ rfl
 rw [tk1 _ _ _ cells_sFlt] at f2
 have f3 : DataW.trod enc Tryz.prog w base spare held n 26 ([c3, c4, c5].take (Tryz.prog.cellsOf 26)) = some x3 := hf 3 _ rfl
 rw [tk3 _ _ _ _ _ cells_sta] at f3
 obtain ⟨v0, a0, e0, o0, r0, _, b0⟩ := open_slice Tryz.underlying54 cells_sta (by omega) encSt (fun _ => true) mT (fun _ _ _ _ h => open_staB h) f0
 obtain ⟨v1, a1, e1, o1, r1, _, b1⟩ := open_slice Tryz.underlying38 cells_cst (by omega) encCs (fun _ => true) (fun _ => 1) (fun _ _ _ _ h => open_cst h) f1
 rw [sum_one] at b1
 obtain ⟨v2, a2, e2, o2, r2, _, b2⟩ := open_slice Tryz.underlying55 cells_flt (by omega) encX (fun _ => true) (fun _ => 1) (fun _ _ _ _ h => open_flt h) f2
 rw [sum_one] at b2
 obtain ⟨a3, r3, _, o3, _, b3⟩ := open_staB f3
 simp only [List.cons.injEq, and_true] at e0 e1 e2
 subst e0; subst e1; subst e2
 refine ⟨⟨a0, a1, a2, a3⟩, (RelL.app (.cons r0 (.cons r1 (.cons r2 (.nil _ _)))) r3), rfl, ?_, rfl, ?_⟩
 ·intro v hv
  rcases List.mem_append.1 (show v ∈ [c0, c1, c2] ++ [c3, c4, c5] from hv) with hv | hv
  ·simp only [List.mem_cons, List.not_mem_nil, or_false] at hv
   rcases hv with rfl | rfl | rfl
   ·exact o0
   ·exact o1
   ·exact o2
  ·exact o3 v hv
 ·simp only [mB, mF, mS, mL, mT, mW, Rows.uptoBulk, Rows.uptoBulkAll, List.map_cons, List.map_nil] at *
  omega
end
end Go.Proofs.YtnoahchdmkpleaaGreat.VA
