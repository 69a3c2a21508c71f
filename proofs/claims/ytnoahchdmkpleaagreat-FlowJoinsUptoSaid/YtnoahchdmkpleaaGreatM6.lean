/- What is proved: what may be appended to, and what stays of the memory, in the abstract interpreter (VA). No condition.
What is proved: slices.Concat of two lists, and a union of atoms, in the abstract interpreter (VA). Condition: no longer lists than a machine holds.
What is proved: what slices.Delete of one element does to an array of the abstract interpreter (VA), out of what it does to rows of cells. Its condition: what it does to rows.
What is proved: arrays with room behind them: one element inserted, one deleted, in the abstract interpreter (VA). No condition.
What is proved: slices.Insert of one element at []api.Bind, walked at this program: in place, in a new row, at the end. Conditions: the rows' sizes.
What is proved: slices.Insert of one element at []api.Field, walked at this program: in place, in a new row, at the end. Conditions: the rows' sizes.
What is proved: slices.Insert of one element at []api.Bind, walked at this program: in a new row, at the end; and so what it does to an array. Conditions: the rows' sizes.
What is proved: slices.Insert of one element at []api.Field, walked at this program: in a new row, at the end; and so what it does to an array. Conditions: the rows' sizes.
What is proved: the place of a name among fields, in the abstract interpreter (VA). Condition: no longer lists than a machine holds.
What is proved: a shape's field by its name, from an array, in the abstract interpreter (VA). Condition: no longer lists than a machine holds.
What is proved: a field put at its place into a shape's array, in the abstract interpreter (VA). Condition: no longer lists than a machine holds.
What is proved: a shape's copy in its own memory, in the abstract interpreter (VA). Condition: no longer lists than a machine holds.
What is proved: two shapes joined, in the abstract interpreter (VA). Condition: no longer lists than a machine holds.
What is proved: an atom's objects in a state, in the abstract interpreter (VA). Condition: no longer lists than a machine holds.
What is proved: slices.Insert of one element at []api.Loc, walked at this program: in place, in a new row, at the end. Conditions: the rows' sizes. -/
import Derived.Test.YtnoahchdmkpleaaGreatM5
import Derived.Test.YtnoahchdmkpleaaGreatM4
import Derived.Test.YtnoahchdmkpleaaGreatProg
/-! Ax1 -/
namespace Go.Proofs.YtnoahchdmkpleaaGreat.VA
open Go Go.RowKit
set_option linter.unusedSimpArgs false
set_option linter.unusedVariables false
set_option maxRecDepth 100000

/-- May one append: to what one owns, to nil, to a literal. -/
def AnyOk (H : Heap) (o : Own) (es : List (List AV)) (e : TypeId) (sz : Nat) : Prop :=
 match o with
 | .ex => firstLen sz es = true
 | o => OwnOk H o e sz
theorem append_lit {P : Program} {t : TypeId} {e : TypeId} {sz bs : Nat} {o o' : Own} {es xs : List (List AV)} {x : List AV} (ht : tElem P t = some (e, sz, bs)) (hz : zeroOk P e sz = true) (hs : 0 < sz)
  (hb : (es.length + (xs.length + 1)) * bs ≤ 140737488355328) (hl : es.length + (xs.length + 1) ≤ 140737488355328) (hx : x.length = sz) (H : Heap) (id : Nat) (ho : AnyOk H o es e sz) (hmu : mutT e = false := by rfl) :
  aAppend P t (.sl o es) (.sl o' (x :: xs)) H id = some (.sl (.own id e sz) (es ++ sanLL (x :: xs)), ownUs o id, ownRs o) := by
 cases o with
 | ex =>
  have h : firstLen sz es = true := ho
  simp only [aAppend, ht]
  rw [if_pos ⟨hx, hs, hz, hb, hl⟩, if_pos h]
  rfl
 | nil => exact append_eq ht hz hs hb hl hx H id ho hmu
 | own k e' z => exact append_eq ht hz hs hb hl hx H id ho hmu
 | sh => exact ho.elim
/-- What was there stays; so does what may be appended to, but for one. -/
structure Frl (x : Own) (H H' : Heap) : Prop where
 f : Frm H H'
 lv : ∀ k, k < H.next → (∀ e z, x ≠ .own k e z) → H'.isLive k = H.isLive k
theorem Frl.refl (x : Own) (H : Heap) : Frl x H H := ⟨Frm.refl H, fun _ _ _ => rfl⟩
theorem Frl.up {x : Own} {H H1 : Heap} (h : Frl x H H1) (n : Nat) : Frl x H (H1.up n) := ⟨h.f.up n, h.lv⟩
theorem Frl.put {x : Own} {H H1 : Heap} (h : Frl x H H1) {b : Nat} (cs : List AV) (hb : H.next ≤ b) : Frl x H (H1.put b cs) := ⟨h.f.put cs hb, h.lv⟩
theorem Frl.trans {x : Own} {H H1 H2 : Heap} (h : Frl x H H1) (k : Frl .nil H1 H2) : Frl x H H2 :=
 ⟨h.f.trans k.f, fun i hi hx => (k.lv i (Nat.lt_of_lt_of_le hi h.f.nx) (fun _ _ e => by cases e)).trans (h.lv i hi hx)⟩
theorem Frl.owns {x : Own} {H H1 : Heap} (h : Frl x H H1) {o : Own} {b : Nat} (hb : H.next ≤ b) (ho : ∀ k e z, o = .own k e z → H.next ≤ k ∨ x = .own k e z) : Frl x H (appU H1 (ownUs o b)) := by
 have hf : Frm H (appU H1 (ownUs o b)) := ⟨by rw [ownUs_next]; exact h.f.nx, fun k hk => by
  have := h.f.ho k hk
  cases o <;> exact this⟩
 refine ⟨hf, fun k hk hx => ?_⟩
 have h1 := h.lv k hk hx
 rw [← h1]
 cases o with
 | own k' e z =>
  have hne : k' ≠ k := by
   rintro rfl
   rcases ho k' e z rfl with h2 | h2
   ·omega
   ·exact hx e z h2
  simp only [ownUs, appU, U.app, List.foldl_cons, List.foldl_nil]
  rw [Heap.isLive_setLive, if_neg (by omega), Heap.isLive_setLive, if_neg hne]
 | nil => simp only [ownUs, appU, U.app, List.foldl_cons, List.foldl_nil]; rw [Heap.isLive_setLive, if_neg (by omega)]
 | sh => simp only [ownUs, appU, U.app, List.foldl_cons, List.foldl_nil]; rw [Heap.isLive_setLive, if_neg (by omega)]
 | ex => simp only [ownUs, appU, U.app, List.foldl_cons, List.foldl_nil]; rw [Heap.isLive_setLive, if_neg (by omega)]
theorem AnyOk_up (H : Heap) (k : Nat) (o : Own) (es : List (List AV)) (e : TypeId) (sz : Nat) : AnyOk (H.up k) o es e sz = AnyOk H o es e sz := by cases o <;> rfl
theorem AnyOk_put (H : Heap) (r : Nat) (cs : List AV) (o : Own) (es : List (List AV)) (e : TypeId) (sz : Nat) : AnyOk (H.put r cs) o es e sz = AnyOk H o es e sz := by cases o <;> rfl
theorem AnyOk_ownUs (H : Heap) (o : Own) (id : Nat) (es : List (List AV)) (e : TypeId) (sz : Nat) : AnyOk (appU H (ownUs o id)) (.own id e sz) es e sz := by
 have := OwnOk_ownUs (H := H) (id := id) o e sz
 exact this.mpr trivial
def newO (o : Own) (xs : List (List AV)) (id : Nat) (e : TypeId) (sz : Nat) : Own := match xs with | [] => o | _ => .own id e sz
def usO (o : Own) (xs : List (List AV)) (id : Nat) : List U := match xs with | [] => [] | _ => ownUs o id
def rsO (o : Own) (xs : List (List AV)) : List Nat := match xs with | [] => [] | _ => ownRs o
theorem usO_next (H : Heap) (o : Own) (xs : List (List AV)) (id : Nat) : (appU H (usO o xs id)).next = H.next := by
 cases xs with
 | nil => rfl
 | cons x xs => exact ownUs_next ..
theorem app_any {P : Program} {t e : TypeId} {sz bs : Nat} {o o' : Own} {es xs : List (List AV)} (ht : tElem P t = some (e, sz, bs)) (hz : zeroOk P e sz = true) (hs : 0 < sz) (hb : (es.length + xs.length) * bs ≤ 140737488355328) (hl : es.length + xs.length ≤ 140737488355328)
  (hx : ∀ x, x ∈ xs → x.length = sz) (hsx : sanLL xs = xs) (H : Heap) (id : Nat) (ho : AnyOk H o es e sz) (hmu : mutT e = false := by rfl) :
  aAppend P t (.sl o es) (.sl o' xs) H id = some (.sl (newO o xs id e sz) (es ++ xs), usO o xs id, rsO o xs) := by
 cases xs with
 | nil => simp [aAppend, ht, newO, usO, rsO]
 | cons x xs =>
  simp only [List.length_cons] at hb hl
  rw [append_lit ht hz hs hb hl (hx x (List.mem_cons_self ..)) H id ho hmu, hsx]
  rfl
theorem AnyOk_new {H : Heap} {o : Own} {es xs : List (List AV)} {id : Nat} {e : TypeId} {sz : Nat} (ho : AnyOk H o es e sz) : AnyOk (appU H (usO o xs id)) (newO o xs id e sz) (es ++ xs) e sz := by
 cases xs with
 | nil => rw [List.append_nil]; exact ho
 | cons x xs => exact AnyOk_ownUs ..
end Go.Proofs.YtnoahchdmkpleaaGreat.VA

/-! Un1 -/
namespace Go.Proofs.YtnoahchdmkpleaaGreat.VA
open Go Go.RowKit
attribute [local go_sem] Nat.add_eq_left Nat.left_eq_add true_and and_true ite_true if_false Int.cast_ofNat_Int eq_self Nat.add_assoc Option.some.injEq decide_true decide_false Bool.not_true Bool.not_false List.size_toArray List.length_cons List.length_nil
set_option linter.unusedSimpArgs false
set_option linter.unusedVariables false
set_option maxRecDepth 100000

/-- The table for unions. -/
noncomputable def cfgU : Cfg := mkC Tryz.prog [134, 86, 88] [173, 129] []
 [(60, toldBy Tryz.prog cfg1 60)]
 [(173, grwN 81 2), (129, grwN 76 2)]
theorem cfgU_ok : CfgOk Tryz.prog Cond.none cfgU := mkC_ok (by kernel_rfl) (by kernel_rfl) (by
 intro p hp
 simp only [List.mem_cons, List.not_mem_nil, or_false] at hp
 rcases hp with rfl
 exact toldBy_ok cfg1_ok (fn := Tryz.f60) (by kernel_rfl) (by kernel_rfl) rfl) (by
 intro p hp
 simp only [List.mem_cons, List.not_mem_nil, or_false] at hp
 rcases hp with rfl | rfl
 ·exact growAtom_ok _
 ·exact growBind_ok _)
/-- What Grow gives: nil, or a row of its own. -/
def OwnL (H : Heap) (o : Own) (e : TypeId) (sz : Nat) : Prop := ∃ k, o = .own k e sz ∧ H.isLive k = true
theorem app_ow {P : Program} {t e : TypeId} {sz bs : Nat} {o o' : Own} {es xs : List (List AV)} (ht : tElem P t = some (e, sz, bs)) (hz : zeroOk P e sz = true) (hs : 0 < sz) (hb : (es.length + xs.length) * bs ≤ 140737488355328) (hl : es.length + xs.length ≤ 140737488355328)
  (hx : ∀ x, x ∈ xs → x.length = sz) (hsx : sanLL xs = xs) (H : Heap) (id : Nat) (ho : xs = [] ∨ OwnL H o e sz) :
  aAppend P t (.sl o es) (.sl o' xs) H id = some (.sl (newO o xs id e sz) (es ++ xs), usO o xs id, rsO o xs) := by
 cases xs with
 | nil => simp [aAppend, ht, newO, usO, rsO]
 | cons x xs =>
  rcases ho with h | ⟨k, rfl, h⟩
  ·cases h
  ·simp only [List.length_cons] at hb hl
   simp only [aAppend, ht]
   rw [if_pos ⟨hx x (List.mem_cons_self ..), hs, hz, hb, hl⟩, if_pos (by simp [h]), hsx]
   rfl
theorem OwnL_new {H : Heap} {o : Own} {xs : List (List AV)} {id : Nat} {e : TypeId} {sz : Nat} (h : xs = [] → OwnL H o e sz) : OwnL (appU H (usO o xs id)) (newO o xs id e sz) e sz := by
 cases xs with
 | nil => exact h rfl
 | cons x xs => exact ⟨id, rfl, by cases o <;> simp [usO, ownUs, appU, U.app, Heap.isLive_setLive]⟩
theorem OwnL_up (H : Heap) (n : Nat) (o : Own) (e : TypeId) (sz : Nat) : OwnL (H.up n) o e sz = OwnL H o e sz := rfl
theorem OwnL_put (H : Heap) (b : Nat) (cs : List AV) (o : Own) (e : TypeId) (sz : Nat) : OwnL (H.put b cs) o e sz = OwnL H o e sz := rfl
@[go_sem] theorem el_ssAtm : tElem Tryz.prog 188 = some (50, 1, 24) := by kernel_rfl
@[go_sem] theorem el_ssBnd : tElem Tryz.prog 149 = some (23, 1, 24) := by kernel_rfl
theorem all_len {n : Nat} {l : List (List AV)} (h : Unif n l) : ∀ x, x ∈ l → x.length = n := h
theorem c_growA (n : Nat) (hn : n ≤ LA) (H : Heap) : ∃ v H', calls Tryz.prog cfgU 173 [.sl .nil [], .lit (.int .i64 (n : Nat))] H = some (.ret v H') ∧ ∃ o, v = .sl o [] ∧ (n = 0 ∨ OwnL H' o 81 2) := by
 have hLA : LA = 1000000000000 := rfl
 by_cases h0 : n = 0
 ·subst h0
  exact ⟨_, _, calls_tolH (h := grwN 81 2) (v := .sl .nil []) (us := []) rfl rfl rfl rfl, .nil, rfl, .inl rfl⟩
 ·refine ⟨_, _, calls_tolH (h := grwN 81 2) (v := .sl (.own H.next 81 2) []) (us := [.live H.next true]) rfl rfl rfl ?_, _, rfl, .inr ⟨_, rfl, by simp [appU, U.app, Heap.isLive_setLive]⟩⟩
  unfold grwN
  simp only
  rw [if_neg (by omega), if_pos ⟨by omega, by omega⟩]
theorem c_concatA (A B : List (List AV)) (hA : Unif 2 A) (hB : Unif 2 B) (sA : sanLL A = A) (sB : sanLL B = B) (hl : A.length + B.length ≤ LA) (o o1 o2 : Own) (H : Heap) :
  calls Tryz.prog cfgU 134 [.sl o [[.sl o1 A], [.sl o2 B]]] H = some (.ret (.sl .sh (A ++ B)) H) := by
 refine calls_pure (fn := Tryz.f134) rfl rfl rfl rfl rfl ?_ H
 have rs : Tryz.f134.results.toList = [.tmp 2] := rfl
 have e0 : sanL [AV.sl o [[.sl o1 A], [.sl o2 B]]] = [.sl .sh [[.sl .sh A], [.sl .sh B]]] := by simp only [sanL, san, sanLL, sA, sB]
 have hLA : LA = 1000000000000 := rfl
 have l1 : decide ((0 : Int) < 2) = true := rfl
 have l2 : decide ((1 : Int) < 2) = true := rfl
 have l3 : decide ((2 : Int) < 2) = false := rfl
 have a1 : decide (((A.length : Nat) : Int) < 0) = false := by simp
 have a2 : decide ((((A.length + B.length) : Nat) : Int) < 0) = false := by simp; omega
 have w1 : IntKind.wrap .i64 (0 + ((A.length : Nat) : Int)) = ((A.length : Nat) : Int) := by rw [Int.zero_add]; exact wrapI ⟨by omega, by omega⟩
 have w2 : IntKind.wrap .i64 (((A.length : Nat) : Int) + ((B.length : Nat) : Int)) = (((A.length + B.length) : Nat) : Int) := by rw [wrapI ⟨by omega, by omega⟩]; omega
 have v1 : IntKind.i64.wrap 1 = 1 := by decide
 have v2 : IntKind.i64.wrap 2 = 2 := by decide
 have i0 : ∀ o, iad (some (50, 1, 24)) (.sl o [[.sl .sh A], [.sl .sh B]]) (some 0) = some (.ep [.sl .sh A]) := fun o => rfl
 have i1 : ∀ o, iad (some (50, 1, 24)) (.sl o [[.sl .sh A], [.sl .sh B]]) (some 1) = some (.ep [.sl .sh B]) := fun o => rfl
 rw [e0]
 simp only [go_sem, simprocAttr, rs]
 rw [W_loop]
 simp only [go_sem, simprocAttr, l1, i0, a1, w1, v1]
 rw [W_loop]
 simp only [go_sem, simprocAttr, l2, i1, a2, w2, v2]
 rw [W_loop]
 simp only [go_sem, simprocAttr, l3]
 refine goC_ex (c_growA (A.length + B.length) hl _) ?_
 rintro v H1 ⟨ow, rfl, hO⟩
 have hO' : (A = [] ∧ B = []) ∨ OwnL H1 ow 81 2 := by
  rcases hO with h | h
  ·exact .inl ⟨List.eq_nil_of_length_eq_zero (by omega), List.eq_nil_of_length_eq_zero (by omega)⟩
  ·exact .inr h
 have p1 : ∀ (H : Heap) (id : Nat), ((A = [] ∧ B = []) ∨ OwnL H ow 81 2) → ∀ o', aAppend Tryz.prog 50 (.sl ow []) (.sl o' A) H id = some (.sl (newO ow A id 81 2) A, usO ow A id, rsO ow A) := fun H id h o' =>
  app_ow (es := []) el_sAtm zo_sAtm (by decide) (by simp only [List.length_nil]; omega) (by simp only [List.length_nil]; omega) hA sA H id (h.elim (fun h => .inl h.1) .inr)
 have q2 : ∀ (H : Heap) (id : Nat), ((A = [] ∧ B = []) ∨ OwnL H ow 81 2) → (B = [] ∨ OwnL (appU H (usO ow A id)) (newO ow A id 81 2) 81 2) := fun H id h => by
  rcases h with h | h
  ·exact .inl h.2
  ·exact .inr (OwnL_new fun _ => h)
 have p2 : ∀ (H : Heap) (id id0 : Nat), (B = [] ∨ OwnL H (newO ow A id0 81 2) 81 2) → ∀ o', aAppend Tryz.prog 50 (.sl (newO ow A id0 81 2) A) (.sl o' B) H id = some (.sl (newO (newO ow A id0 81 2) B id 81 2) (A ++ B), usO (newO ow A id0 81 2) B id, rsO (newO ow A id0 81 2) B) := fun H id id0 h o' =>
  app_ow el_sAtm zo_sAtm (by decide) (by omega) (by omega) hB sB H id h
 simp only [go_sem, simprocAttr]
 rw [W_loop]
 simp only [go_sem, simprocAttr, l1, i0, v1, fun a b c d id => p1 ((((H1.up a).up b).up c).up d) id (by simpa only [OwnL_up] using hO')]
 rw [W_loop]
 simp only [go_sem, simprocAttr, l2, i1, v2, fun a b c d i0 x y z w id => p2 (((((appU ((((H1.up a).up b).up c).up d) (usO ow A i0)).up x).up y).up z).up w) id i0 (by simp only [OwnL_up]; exact q2 _ _ (by simpa only [OwnL_up] using hO'))]
 rw [W_loop]
 have sab : sanLL (A ++ B) = A ++ B := by rw [sanLL_app, sA, sB]
 simp only [go_sem, simprocAttr, rs, l3, sab]
theorem c_growB (n : Nat) (hn : n ≤ LA) (H : Heap) : ∃ v H', calls Tryz.prog cfgU 129 [.sl .nil [], .lit (.int .i64 (n : Nat))] H = some (.ret v H') ∧ ∃ o, v = .sl o [] ∧ (n = 0 ∨ OwnL H' o 76 2) := by
 have hLA : LA = 1000000000000 := rfl
 by_cases h0 : n = 0
 ·subst h0
  exact ⟨_, _, calls_tolH (h := grwN 76 2) (v := .sl .nil []) (us := []) rfl rfl rfl rfl, .nil, rfl, .inl rfl⟩
 ·refine ⟨_, _, calls_tolH (h := grwN 76 2) (v := .sl (.own H.next 76 2) []) (us := [.live H.next true]) rfl rfl rfl ?_, _, rfl, .inr ⟨_, rfl, by simp [appU, U.app, Heap.isLive_setLive]⟩⟩
  unfold grwN
  simp only
  rw [if_neg (by omega), if_pos ⟨by omega, by omega⟩]
theorem c_concatB (A B : List (List AV)) (hA : Unif 2 A) (hB : Unif 2 B) (sA : sanLL A = A) (sB : sanLL B = B) (hl : A.length + B.length ≤ LA) (o o1 o2 : Own) (H : Heap) :
  calls Tryz.prog cfgU 86 [.sl o [[.sl o1 A], [.sl o2 B]]] H = some (.ret (.sl .sh (A ++ B)) H) := by
 refine calls_pure (fn := Tryz.f86) rfl rfl rfl rfl rfl ?_ H
 have rs : Tryz.f86.results.toList = [.tmp 2] := rfl
 have e0 : sanL [AV.sl o [[.sl o1 A], [.sl o2 B]]] = [.sl .sh [[.sl .sh A], [.sl .sh B]]] := by simp only [sanL, san, sanLL, sA, sB]
 have hLA : LA = 1000000000000 := rfl
 have l1 : decide ((0 : Int) < 2) = true := rfl
 have l2 : decide ((1 : Int) < 2) = true := rfl
 have l3 : decide ((2 : Int) < 2) = false := rfl
 have a1 : decide (((A.length : Nat) : Int) < 0) = false := by simp
 have a2 : decide ((((A.length + B.length) : Nat) : Int) < 0) = false := by simp; omega
 have w1 : IntKind.wrap .i64 (0 + ((A.length : Nat) : Int)) = ((A.length : Nat) : Int) := by rw [Int.zero_add]; exact wrapI ⟨by omega, by omega⟩
 have w2 : IntKind.wrap .i64 (((A.length : Nat) : Int) + ((B.length : Nat) : Int)) = (((A.length + B.length) : Nat) : Int) := by rw [wrapI ⟨by omega, by omega⟩]; omega
 have v1 : IntKind.i64.wrap 1 = 1 := by decide
 have v2 : IntKind.i64.wrap 2 = 2 := by decide
 have i0 : ∀ o, iad (some (23, 1, 24)) (.sl o [[.sl .sh A], [.sl .sh B]]) (some 0) = some (.ep [.sl .sh A]) := fun o => rfl
 have i1 : ∀ o, iad (some (23, 1, 24)) (.sl o [[.sl .sh A], [.sl .sh B]]) (some 1) = some (.ep [.sl .sh B]) := fun o => rfl
 rw [e0]
 simp only [go_sem, simprocAttr, rs]
 rw [W_loop]
 simp only [go_sem, simprocAttr, l1, i0, a1, w1, v1]
 rw [W_loop]
 simp only [go_sem, simprocAttr, l2, i1, a2, w2, v2]
 rw [W_loop]
 simp only [go_sem, simprocAttr, l3]
 refine goC_ex (c_growB (A.length + B.length) hl _) ?_
 rintro v H1 ⟨ow, rfl, hO⟩
 have hO' : (A = [] ∧ B = []) ∨ OwnL H1 ow 76 2 := by
  rcases hO with h | h
  ·exact .inl ⟨List.eq_nil_of_length_eq_zero (by omega), List.eq_nil_of_length_eq_zero (by omega)⟩
  ·exact .inr h
 have p1 : ∀ (H : Heap) (id : Nat), ((A = [] ∧ B = []) ∨ OwnL H ow 76 2) → ∀ o', aAppend Tryz.prog 23 (.sl ow []) (.sl o' A) H id = some (.sl (newO ow A id 76 2) A, usO ow A id, rsO ow A) := fun H id h o' =>
  app_ow (es := []) el_sBnd zo_sBnd (by decide) (by simp only [List.length_nil]; omega) (by simp only [List.length_nil]; omega) hA sA H id (h.elim (fun h => .inl h.1) .inr)
 have q2 : ∀ (H : Heap) (id : Nat), ((A = [] ∧ B = []) ∨ OwnL H ow 76 2) → (B = [] ∨ OwnL (appU H (usO ow A id)) (newO ow A id 76 2) 76 2) := fun H id h => by
  rcases h with h | h
  ·exact .inl h.2
  ·exact .inr (OwnL_new fun _ => h)
 have p2 : ∀ (H : Heap) (id id0 : Nat), (B = [] ∨ OwnL H (newO ow A id0 76 2) 76 2) → ∀ o', aAppend Tryz.prog 23 (.sl (newO ow A id0 76 2) A) (.sl o' B) H id = some (.sl (newO (newO ow A id0 76 2) B id 76 2) (A ++ B), usO (newO ow A id0 76 2) B id, rsO (newO ow A id0 76 2) B) := fun H id id0 h o' =>
  app_ow el_sBnd zo_sBnd (by decide) (by omega) (by omega) hB sB H id h
 simp only [go_sem, simprocAttr]
 rw [W_loop]
 simp only [go_sem, simprocAttr, l1, i0, v1, fun a b c d id => p1 ((((H1.up a).up b).up c).up d) id (by simpa only [OwnL_up] using hO')]
 rw [W_loop]
 simp only [go_sem, simprocAttr, l2, i1, v2, fun a b c d i0 x y z w id => p2 (((((appU ((((H1.up a).up b).up c).up d) (usO ow A i0)).up x).up y).up z).up w) id i0 (by simp only [OwnL_up]; exact q2 _ _ (by simpa only [OwnL_up] using hO'))]
 rw [W_loop]
 have sab : sanLL (A ++ B) = A ++ B := by rw [sanLL_app, sA, sB]
 simp only [go_sem, simprocAttr, rs, l3, sab]
theorem c_union (a b : List (Int × Int)) (hl : a.length + b.length ≤ LA) (o1 o2 : Own) (H : Heap) : calls Tryz.prog cfgU 88 [.sl o1 (encAs a), .sl o2 (encAs b)] H = some (.ret (.sl .sh (encAs (normA (a ++ b)))) H) := by
 refine calls_pure (fn := Tryz.f88) rfl rfl rfl rfl rfl ?_ H
 have rs : Tryz.f88.results.toList = [.tmp 4] := rfl
 have e0 : sanL [AV.sl o1 (encAs a), .sl o2 (encAs b)] = [.sl .sh (encAs a), .sl .sh (encAs b)] := by simp only [sanL, san, sanLL_encAs]
 have hb : aBuildSlice Tryz.prog 188 2 [(0, .sl .sh (encAs a)), (1, .sl .sh (encAs b))] = some (.sl .ex [[.sl .sh (encAs a)], [.sl .sh (encAs b)]]) := by
  simp only [aBuildSlice, el_ssAtm, zr_sAtm]
  rfl
 have hc := fun H => c_concatA (encAs a) (encAs b) (encAs_unif a) (encAs_unif b) (sanLL_encAs a) (sanLL_encAs b) (by simp only [encAs, List.length_map]; exact hl) .ex .sh .sh H
 have hab : encAs a ++ encAs b = encAs (a ++ b) := by simp only [encAs, List.map_append]
 have hn := fun H => (calls_by (P := Tryz.prog) (c := cfgU) (c0 := cfg1) (f := 60) (args := [.sl .sh (encAs (a ++ b))]) rfl (fun H => by simp only [sanL, san, sanLL_encAs]; exact c_norm (a ++ b) (by simpa using hl) .sh H) (by simp only [san, sanLL_encAs]) H)
 rw [hab] at hc
 rw [e0]
 simp only [go_sem, simprocAttr, rs, hb, hc, hn, sanLL_encAs]
end Go.Proofs.YtnoahchdmkpleaaGreat.VA

/-! De1 -/
namespace Go.Proofs.YtnoahchdmkpleaaGreat.VA
open Go Go.RowKit
set_option linter.unusedSimpArgs false

theorem wpList_clear_runI {P : Program} (w : World) {ops : Array Oper} {rest : List Oper} {o : Oper} {a : Act} {Q : Exit → Act → World → Prop} (hgd : o.guard = none) (d : Operand) (t : TypeId)
  (ho : o.op = .call { callee := .builtin .clear, args := #[d], argTypes := #[t] }) (v : Value) (hd : a.eval d = v) {v' : Value} {w' : World}
  (hr : (Builtin.clear_ #[t] o.type #[v]).run P w = .ok v' w') (h : wpList P ops Q rest (a.put o.dst v') w') : wpList P ops Q (o :: rest) a w :=
 wpList_plain hgd fun _ hK => by
  unfold Oper.wp execOp
  simp only [ho, resolve, invoke, builtin, Sem.run_bind, Sem.run_pure, Result.andThen_ok, List.map_toArray, List.map_cons, List.map_nil, hd, hr]
  exact hK _ _ h
theorem step_append_runI {P : Program} {ops : Array Oper} {o : Oper} {a : Act} {w : World} {K : Act → World → Prop} {Q : Exit → Act → World → Prop} {E : Prop}
  (hg : o.guard = none) (d x : Operand) (dT sT : TypeId) (hop : o.op = Op.call { callee := Callee.builtin Builtin.append, args := #[d, x], argTypes := #[dT, sT] })
  (v u : Value) (hd : a.eval d = v) (hx : a.eval x = u) {v' : Value} {w' : World} (hr : (Builtin.append_ #[dT, sT] o.type #[v, u]).run P w = .ok v' w') (hK : K (a.put o.dst v') w') :
  if Region.wanted o (yielded ops a.tmps) = true then Oper.wp P o a w K Q else E := by
 have hw : Region.wanted o (yielded ops a.tmps) = true := by simp [Region.wanted, hg]
 rw [if_pos hw]
 unfold Oper.wp
 simp [execOp, hop, resolve, invoke, builtin, hd, hx, hr, Result.andThen]
 exact hK
theorem run_clear_row1 {P : Program} (w : World) (t ty e : TypeId) (z : Value) (ht : P.underlying t = some (.slice e)) (hz : (zeroValue e).run P w = .ok z w) (b o c : Nat) (vs : Array Value) (t' : TypeId)
  (hb : w.heap[b]? = some (.cells vs t' (0, 0))) (hfit : o + z.cells.size ≤ vs.size) (h1 : ∀ u, u ∈ z.cells.toList → u.oneCell' = true) :
  (Builtin.clear_ #[t] ty #[.slice (some ⟨b, o, none⟩) 1 c]).run P w = .ok (.tuple #[]) (w.setRow b (vs.toList.take o ++ z.cells.toList ++ vs.toList.drop (o + z.cells.size)).toArray) := by
 have hzc : Builtin.zeroCells z.cells 1 = z.cells := by
  simp [Builtin.zeroCells]
  apply Array.ext
  ·simp
  ·intro i h1 h2
   simp [Nat.mod_eq_of_lt h2, h2]
 have hst := run_storeCells_at P b o t' z.cells.toList 0 vs w hb (by simpa using hfit) h1
 simp only [Nat.add_zero, Array.length_toList] at hst
 simp [Builtin.clear_, run_underlying ht, hz, hzc, hst]
def delRow {α : Type} (l zs : List α) (a s m : Nat) : List α := l.take a ++ (l.take m).drop (a + s) ++ zs ++ l.drop m
theorem delRow_two {α : Type} (l zs : List α) (a s m : Nat) (h1 : a + s ≤ m) (h2 : m ≤ l.length) (hz : zs.length = s) :
  (l.take a ++ (l.take m).drop (a + s) ++ l.drop (m - s)).take (m - s) ++ zs ++ (l.take a ++ (l.take m).drop (a + s) ++ l.drop (m - s)).drop (m - s + zs.length) = delRow l zs a s m := by
 have e1 : (l.take a ++ (l.take m).drop (a + s)).length = m - s := by simp only [List.length_append, List.length_take, List.length_drop]; omega
 have e2 : (l.take a ++ (l.take m).drop (a + s) ++ l.drop (m - s)).take (m - s) = l.take a ++ (l.take m).drop (a + s) := by rw [← e1]; exact List.take_left
 have e3 : (l.take a ++ (l.take m).drop (a + s) ++ l.drop (m - s)).drop (m - s + zs.length) = l.drop m := by
  rw [← List.drop_drop, List.drop_left' e1, List.drop_drop, hz]; congr 1; omega
 rw [e2, e3]; rfl
/-- What slices.Delete of one element does to rows. -/
structure DelWalks (P : Program) (f : FuncId) (t e : TypeId) (sz : Nat) : Prop where
 enters : ∀ vs w, (callFunc f vs).run P w = .ok (.enter f vs) w
 del : ∀ (b n c i : Nat) (vs : Array Value) (t' : TypeId) (z : Value) (w : World), i < n → n ≤ c → c ≤ 9223372036854775807 → ((P.info? e).bind fun i => i.zero) = some z → w.heap[b]? = some (.cells vs t' (0, 0)) → vs.size = c * sz →
  (∀ u, u ∈ z.cells.toList → u.oneCell' = true) → (∀ u, u ∈ vs.toList.take (n * sz) → u.oneCell' = true) →
  Calls P f #[.slice (some ⟨b, 0, none⟩) n c, .int .i64 i, .int .i64 ((i + 1 : Nat) : Int)] w fun en w' =>
   en = .returned (.slice (some ⟨b, 0, none⟩) (n - 1) c) ∧ w' = w.drew.setRow b (delRow vs.toList z.cells.toList (i * sz) sz (n * sz)).toArray
/-- Delete of one element of an array. -/
def delB (P : Program) (t : TypeId) (args : List AV) (H : Heap) : Option (AV × List U) :=
 match args with
 | [.ar r 0 n z, .lit (.int .i64 i), .lit (.int .i64 j)] =>
  match tElem P t, H.get r with
  | some (e, sz, _), some cs =>
   match tZero P e with
   | some zs => if z = sz ∧ 0 ≤ i ∧ j = i + 1 ∧ i < n ∧ n * sz ≤ cs.length ∧ 0 < sz ∧ zs.length = sz ∧ zs.all AV.one = true ∧ (cs.take (n * sz)).all AV.one = true then
     some (.ar r 0 (n - 1) sz, [.box r (delRow cs zs (i.toNat * sz) sz (n * sz))])
    else none
   | none => none
  | _, _ => none
 | _ => none
theorem delB_ok {P : Program} {C : Cond} {f : FuncId} {t e : TypeId} {sz by_ : Nat} (hW : DelWalks P f t e sz) (het : tElem P t = some (e, sz, by_)) : TolHOk P C f (delB P t) := by
 refine ⟨hW.enters, fun args H v us h g w vs hC hi ht hr => ?_⟩
 unfold delB at h
 split at h
 ·rename_i r n z i j
  obtain ⟨a1, a2, a3, hvs, r1, r2, r3⟩ := relL3 hr
  have hvs' : vs = #[a1, a2, a3] := by rw [← Array.toArray_toList (xs := vs), hvs]
  subst hvs'
  have hi2 := r2.lit_inv
  have hi3 := r3.lit_inv
  subst hi2 hi3
  obtain ⟨b, cap, m0, off, c, e1, rfl, hbx, hown, hnc, hcc, hoff⟩ := r1.ar_inv
  split at h
  ·rename_i e' sz' _ cs het' hcs
   rw [het] at het'
   simp only [Option.some.injEq, Prod.mk.injEq] at het'
   obtain ⟨rfl, rfl, rfl⟩ := het'
   split at h
   ·rename_i zs hzs
    split at h
    ·rename_i hc0
     obtain ⟨rfl, h0, rfl, hlt, hcl, hpos, hzl, hzo, hco⟩ := hc0
     simp only [Option.some.injEq, Prod.mk.injEq] at h
     obtain ⟨rfl, rfl⟩ := h
     obtain ⟨k, rfl⟩ : ∃ k : Nat, i = (k : Int) := ⟨i.toNat, by omega⟩
     have hkn : k < n := by omega
     simp only [Int.toNat_natCast]
     obtain ⟨zv, i', hzr, hi', hiz, hzrel⟩ := tZero_run hzs g w
     obtain ⟨b', vs, t', q1, q2, q3⟩ := hi.boxE hcs hbx
     rw [hbx] at q1
     simp at q1; subst q1
     obtain ⟨ha1, us0, ha2, ha3⟩ := hi.arr r b m0 cap e1 z (by rw [hcs]; rfl) hbx hown
     rw [q2] at ha2
     simp only [Option.some.injEq, Obj.cells.injEq] at ha2
     obtain ⟨rfl, rfl, _⟩ := ha2
     have hcap : cap = c := by omega
     subst hcap
     have ho : off = 0 := by have := hoff (by omega); omega
     subst ho
     have hcl2 : cs.length ≤ vs.toList.length := by have := q3.1; rw [List.length_take] at this; omega
     have hvl : vs.toList.length = cap * z := by simpa using ha3
     have hmax : maxLen = 9223372036854775807 := rfl
     have hkz : (k + 1) * z ≤ n * z := Nat.mul_le_mul_right z (by omega)
     rw [Nat.add_mul, Nat.one_mul] at hkz
     have hq4 : RelL g w (cs.take (n * z)) (vs.toList.take (n * z)) := by
      have := q3.take (n * z)
      rwa [List.take_take, Nat.min_eq_left (by omega)] at this
     have hpre : RelL g w (cs.take (k * z)) (vs.toList.take (k * z)) := by
      have := q3.take (k * z)
      rwa [List.take_take, Nat.min_eq_left (by omega)] at this
     have hzrel' : RelL g w zs zv.cells.toList := hzrel
     have hzc : zv.cells.size = z := by have := hzrel'.1; simp at this; omega
     have hzl2 : zv.cells.toList.length = z := by simp [hzc]
     have hnz : n * z ≤ vs.toList.length := by omega
     have hnew : RelL g w (delRow cs zs (k * z) z (n * z)) (((delRow vs.toList zv.cells.toList (k * z) z (n * z))).take cs.length) := by
      have hd := q3.drop (n * z)
      rw [List.drop_take] at hd
      have e5 : (delRow vs.toList zv.cells.toList (k * z) z (n * z)).take cs.length = vs.toList.take (k * z) ++ (vs.toList.take (n * z)).drop (k * z + z) ++ zv.cells.toList ++ (vs.toList.drop (n * z)).take (cs.length - n * z) := by
       unfold delRow
       have e6 : (vs.toList.take (k * z) ++ (vs.toList.take (n * z)).drop (k * z + z) ++ zv.cells.toList).length = n * z := by
        simp only [List.length_append, List.length_take, List.length_drop, hzl2]; omega
       rw [List.take_append, e6, List.take_of_length_le (by omega)]
      rw [e5]
      exact ((hpre.append (hq4.drop (k * z + z))).append hzrel').append hd
     have hdl : (delRow cs zs (k * z) z (n * z)).length = cs.length := by
      unfold delRow; simp only [List.length_append, List.length_take, List.length_drop, hzl]; omega
     have hdv : (delRow vs.toList zv.cells.toList (k * z) z (n * z)).length = vs.toList.length := by
      unfold delRow; simp only [List.length_append, List.length_take, List.length_drop, hzl2]; omega
     refine (hW.del b n cap k vs t' zv w hkn hnc (by omega) (by rw [hi']; exact hiz) q2 (by simpa using hvl) (relL_one hzrel' hzo) (relL_one hq4 hco)).mono fun en w' hp => ?_
     obtain ⟨rfl, rfl⟩ := hp
     obtain ⟨hd1, hd2⟩ := hi.drew
     obtain ⟨he, hinv⟩ := inv_store (w := w.drew) (vs' := (delRow vs.toList zv.cells.toList (k * z) z (n * z)).toArray) (cs' := delRow cs zs (k * z) z (n * z)) hd2 hcs hbx q2 (by simpa using hdv) (by
      rw [hdl]; exact hnew.ext hd1)
     exact ⟨_, g, rfl, tolH_past (us := [.box r _]) ht (hd1.trans he) hinv (fun _ _ => ⟨rfl, rfl⟩), .ar r 0 (n - 1) z b cap m0 0 cap t' hbx hown (by omega) hcc hoff⟩
    ·cases h
   ·cases h
  ·cases h
 ·cases h
end Go.Proofs.YtnoahchdmkpleaaGreat.VA

/-! Ap2 -/
namespace Go.Proofs.YtnoahchdmkpleaaGreat.VA
open Go Go.RowKit
set_option linter.unusedSimpArgs false
set_option linter.unusedVariables false

/-- A list that is nil, or an array's beginning, behind a number. -/
def ArrS (sz : Nat) (H : Heap) (lo : Nat) (A : AV) (es : List (List AV)) : Prop :=
 (A = .sl .nil [] ∧ es = []) ∨ ∃ r z, A = .ar r 0 es.length sz ∧ H.get r = some (es ++ z).flatten ∧ lo ≤ r ∧ r < H.next ∧ Unif sz z ∧ z.flatten.all AV.one = true
theorem ArrOf.s {H : Heap} {lo : Nat} {A : AV} {sz : Nat} {es : List (List AV)} (h : ArrOf H lo A sz es) : ArrS sz H lo A es := by
 rcases h with h | ⟨r, h1, h2, h3, h4, h5⟩
 ·exact .inl h
 ·exact .inr ⟨r, [], h1, by rw [List.append_nil]; exact h3, h4, h5, Unif.nil _, rfl⟩
section
variable {sz lo : Nat} {H H' : Heap} {A A' : AV} {es : List (List AV)}
theorem ArrS.up (h : ArrS sz H lo A es) (n : Nat) : ArrS sz (H.up n) lo A es := by
 rcases h with h | ⟨r, z, h1, h2, h3, h4, h5⟩
 ·exact .inl h
 ·exact .inr ⟨r, z, h1, h2, h3, Nat.lt_of_lt_of_le h4 (Nat.le_add_right _ _), h5⟩
theorem ArrS.put (h : ArrS sz H lo A es) {b : Nat} (cs : List AV) (hb : arrNo A b) : ArrS sz (H.put b cs) lo A es := by
 rcases h with h | ⟨r, z, rfl, h2, h3⟩
 ·exact .inl h
 ·have hb' : r ≠ b := hb
  exact .inr ⟨r, z, rfl, by rw [Heap.get_put, if_neg (fun e => hb' e.symm)]; exact h2, h3⟩
theorem ArrS.no (h : ArrS sz H lo A es) {k : Nat} (hk : k < lo) : arrNo A k := by
 rcases h with ⟨rfl, _⟩ | ⟨r, z, rfl, _, h4, _⟩
 ·trivial
 ·show r ≠ k; omega
theorem ArrS.no' (h : ArrS sz H lo A es) {k : Nat} (hk : H.next ≤ k) : arrNo A k := by
 rcases h with ⟨rfl, _⟩ | ⟨r, z, rfl, _, _, h5, _⟩
 ·trivial
 ·show r ≠ k; omega
theorem ArrS.of (h : ArrS sz H lo A es) (hn : H.next ≤ H'.next) (hk : ∀ k, lo ≤ k → k < H.next → ¬ arrNo A k → H'.get k = H.get k) : ArrS sz H' lo A es := by
 rcases h with h | ⟨r, z, rfl, h2, h3, h4, h5⟩
 ·exact .inl h
 ·exact .inr ⟨r, z, rfl, by rw [hk r h3 h4 (fun e => e rfl)]; exact h2, h3, by omega, h5⟩
theorem ArrS.mono (h : ArrS sz H lo A es) {lo' : Nat} (hl : lo' ≤ lo) : ArrS sz H lo' A es := by
 rcases h with h | ⟨r, z, h1, h2, h3, h4⟩
 ·exact .inl h
 ·exact .inr ⟨r, z, h1, h2, by omega, h4⟩
theorem ArrS.one (h : ArrS sz H lo A es) : A.one = true := by
 rcases h with ⟨rfl, _⟩ | ⟨r, z, rfl, _⟩ <;> rfl
theorem ArrS.lnn {P : Program} {t e : TypeId} {bs : Nat} (h : ArrS sz H lo A es) (ht : tElem P t = some (e, sz, bs)) : lnn P t A = some (.lit (.int .i64 (es.length : Nat))) := by
 rcases h with ⟨rfl, rfl⟩ | ⟨r, z, rfl, _⟩
 ·rw [lnn_sl (q := (e, sz, bs)) _ _ ht]
 ·rw [lnn_ar (q := (e, sz, bs)) _ _ _ _ ht]
theorem ArrS.frz (h : ArrS sz H lo A es) (hu : Unif sz es) (h1 : es.flatten.all AV.one = true) : san (frz H A) = .sl .sh (sanLL es) := by
 rcases h with ⟨rfl, rfl⟩ | ⟨r, z, rfl, h3, _, _, h4, h5⟩
 ·rfl
 ·have hul := hu.append h4
  simp only [VA.frz, h3]
  rw [if_pos ⟨by rw [flat_len hul, Nat.zero_add, List.length_append]; exact Nat.mul_le_mul_right sz (Nat.le_add_right _ _), by rw [List.flatten_append, List.all_append, h1, h5]; rfl⟩, Nat.zero_mul, List.drop_zero, chunk_flat _ hul (by simp), List.take_left]
  rfl
/-- A list's array is at its number or behind all; all else stays. -/
structure Chg (H H' : Heap) (A A' : AV) : Prop where
 nx : H.next ≤ H'.next
 ho : ∀ j, j < H.next → arrNo A j → H'.ho j = H.ho j ∧ arrNo A' j
theorem Chg.refl (H : Heap) (A : AV) : Chg H H A A := ⟨Nat.le_refl _, fun _ _ h => ⟨rfl, h⟩⟩
theorem Chg.trans {H1 H2 : Heap} {A1 A2 : AV} (h : Chg H H1 A A1) (k : Chg H1 H2 A1 A2) : Chg H H2 A A2 :=
 ⟨Nat.le_trans h.nx k.nx, fun j hj hn => by
  have h1 := h.ho j hj hn
  have h2 := k.ho j (Nat.lt_of_lt_of_le hj h.nx) h1.2
  exact ⟨h2.1.trans h1.1, h2.2⟩⟩
theorem Chg.up (h : Chg H H' A A') (n : Nat) : Chg H (H'.up n) A A' := ⟨Nat.le_trans h.nx (Nat.le_add_right _ _), h.ho⟩
theorem Chg.put (h : Chg H H' A A') {b : Nat} (cs : List AV) (hb : H.next ≤ b) : Chg H (H'.put b cs) A A' :=
 ⟨h.nx, fun j hj hn => by
  have hne : ¬ b = j := by omega
  refine ⟨?_, (h.ho j hj hn).2⟩
  simp only [Heap.put, Heap.ho_set, if_neg hne]; exact (h.ho j hj hn).1⟩
theorem Chg.wr {r a n z b n2 z2 : Nat} (h : Chg H H' A (.ar r a n z)) (cs : List AV) : Chg H (H'.put r cs) A (.ar r b n2 z2) :=
 ⟨h.nx, fun j hj hn => by
  have hne : ¬ r = j := (h.ho j hj hn).2
  refine ⟨?_, (h.ho j hj hn).2⟩
  simp only [Heap.put, Heap.ho_set, if_neg hne]; exact (h.ho j hj hn).1⟩
theorem Chg.frm (h : Frm H H') : Chg H H' A A := ⟨h.nx, fun j hj hn => ⟨h.ho j hj, hn⟩⟩
theorem Chg.get (h : Chg H H' A A') {j : Nat} (hj : j < H.next) (hn : arrNo A j) : H'.get j = H.get j := by rw [Heap.get, Heap.get, (h.ho j hj hn).1]
end
theorem flat_rowS {sz : Nat} {es : List (List AV)} (h : Unif sz es) {i : Nat} (hi : i < es.length) : i * sz + sz ≤ es.flatten.length := by
 rw [flat_len h]
 have := Nat.mul_le_mul_right sz (show i + 1 ≤ es.length from hi)
 rw [Nat.add_mul, Nat.one_mul] at this
 exact this
theorem cells_of_oneS {v : AV} (h : v.one = true) : v.cells = [v] := by cases v <;> first | rfl | simp [AV.one] at h
section
variable {P : Program} {c : Cfg} {st : List Fr} {Q : Post} {ds : List (Option Tmp)} {base : Nat} {dst : Option Tmp} {os : List Oper} {i : Nat} {f : FuncId} {args : List AV} {e : List AV} {H : Heap} {R : AV → Heap → Prop} {un : List (Nat × Nat)} {tr : List Tr}
theorem dK_exS {ho : Bool} (h : ∃ v H', calls P c f args H = some (.ret v H') ∧ R v H') (hi : c.imp f = true) (k : ∀ v H', R v H' → WD P c ho un ds base os i (tr ++ [.call v H H']) st (aput e dst v) H' Q) : dK P c ho (calls P c f args H) (c.imp f) un ds base dst os i tr st e H Q := by
 obtain ⟨v, H', h1, h2⟩ := h
 rw [h1, hi]; exact k v H' h2
end
theorem del_arr {P : Program} {c : Cfg} {f : FuncId} {t e : TypeId} {sz bs lo : Nat} {z0 : List AV} (ht : c.told f = none) (hi : c.imp f = true) (hto : c.tolH f = some (delB P t)) (hel : tElem P t = some (e, sz, bs)) (hs : 0 < sz) (hz : tZero P e = some z0) (hzl : z0.length = sz) (hz1 : z0.all AV.one = true)
  {H : Heap} {A : AV} {es : List (List AV)} (hA : ArrS sz H lo A es) (hu : Unif sz es) (h1 : es.flatten.all AV.one = true) {k : Nat} (hk : k < es.length) :
  ∃ v H', calls P c f [A, .lit (.int .i64 (k : Nat)), .lit (.int .i64 ((k + 1 : Nat) : Int))] H = some (.ret v H') ∧ (ArrS sz H' lo v (es.take k ++ es.drop (k + 1)) ∧ Chg H H' A v ∧ ∃ r, A = .ar r 0 es.length sz ∧ v = .ar r 0 (es.length - 1) sz) := by
 rcases hA with ⟨rfl, rfl⟩ | ⟨r, z, rfl, hg, hlo, hr, hzu, hzo⟩
 ·simp at hk
 have hul := hu.append hzu
 have hll : (es ++ z).flatten.length = (es.length + z.length) * sz := by rw [flat_len hul, List.length_append]
 have hkz : k * sz + sz = (k + 1) * sz := by rw [Nat.add_mul, Nat.one_mul]
 have hle : es.length * sz ≤ (es ++ z).flatten.length := by rw [hll]; exact Nat.mul_le_mul_right sz (Nat.le_add_right _ _)
 have htk : (es ++ z).flatten.take (es.length * sz) = es.flatten := by rw [(flat_cut hul es.length (by simp)).1, List.take_left]
 have hdk : (es ++ z).flatten.drop (es.length * sz) = z.flatten := by rw [(flat_cut hul es.length (by simp)).2, List.drop_left]
 have e1 : delRow (es ++ z).flatten z0 (k * sz) sz (es.length * sz) = ((es.take k ++ es.drop (k + 1)) ++ (z0 :: z)).flatten := by
  unfold delRow
  rw [htk, hdk, hkz, (flat_cut hu (k + 1) hk).2, (flat_cut hul k (by simp; omega)).1, List.take_append_of_le_length (by omega)]
  simp only [List.flatten_append, List.flatten_cons, List.append_assoc]
 refine ⟨_, _, calls_tolH (h := delB P t) (v := .ar r 0 (es.length - 1) sz) (us := [.box r (delRow (es ++ z).flatten z0 (k * sz) sz (es.length * sz))]) ht hi hto ?_, .inr ⟨r, z0 :: z, ?_, ?_, hlo, ?_, Unif.cons hzl hzu, ?_⟩, ⟨Nat.le_succ _, fun j hj hne => ⟨?_, hne⟩⟩, r, rfl, rfl⟩
 ·unfold delB
  simp only [hel, hg, hz]
  rw [if_pos ⟨by trivial, by omega, by omega, by omega, hle, hs, hzl, hz1, by rw [htk]; exact h1⟩]
  simp
 ·congr 1; simp; omega
 ·rw [e1]; simp [appU, U.app]
 ·simp [appU, U.app]; omega
 ·rw [List.flatten_cons, List.all_append, hz1, hzo]; rfl
 ·have hne' : ¬ r = j := fun e => hne e
  simp [appU, U.app, Heap.put, Heap.ho_set, hne']
theorem ins_arr {P : Program} {c : Cfg} {f : FuncId} {t e : TypeId} {sz bs lo : Nat} (ht : c.told f = none) (hi : c.imp f = true) (hto : c.tolH f = some (insB P t)) (hel : tElem P t = some (e, sz, bs)) (hs : 0 < sz) (hz0 : zeroOk P e sz = true) (hm : mutT e = true) (hbs : bs ≤ 100)
  {H : Heap} {A : AV} {es : List (List AV)} (hA : ArrS sz H lo A es) (hlo : lo ≤ H.next) (hu : Unif sz es) (h1 : es.flatten.all AV.one = true) {k : Nat} (hk : k ≤ es.length) (hl : es.length + 1 ≤ LA) {x : List AV} (hx : x.length = sz) (hx1 : x.all AV.one = true) :
  ∃ v H', calls P c f [A, .lit (.int .i64 (k : Nat)), .sl .ex [x]] H = some (.ret v H') ∧ (ArrS sz H' lo v (es.take k ++ [x] ++ es.drop k) ∧ Chg H H' A v) := by
 have hLA : LA = 1000000000000 := rfl
 have hb1 : (es.length + 1) * bs ≤ 140737488355328 := Nat.le_trans (Nat.mul_le_mul_left _ hbs) (by omega)
 rcases hA with ⟨rfl, rfl⟩ | ⟨r, z, rfl, hg, hlr, hrn, hz, hzo⟩
 ·have hk0 : k = 0 := by simpa using hk
  subst hk0
  have hap := append_nilA (P := P) (H := H) (id := H.next) (o := .ex) (y := x) (xs := []) hel hm hs hz0 (by simpa using hb1) (by decide) (fun y hy => by simp at hy; subst hy; exact hx)
  refine ⟨_, _, calls_tolH (h := insB P t) (v := .ar H.next 0 1 sz) (us := [.box H.next [x].flatten]) ht hi hto ?_, .inr ⟨H.next, [], rfl, ?_, hlo, ?_, Unif.nil sz, rfl⟩, ⟨Nat.le_succ _, fun j hj _ => ⟨?_, show H.next ≠ j by omega⟩⟩⟩
  ·show insB P t [.sl .nil [], .lit (.int .i64 ((0 : Nat) : Int)), .sl .ex [x]] H = _
   unfold insB
   simp only [hap]
   rfl
  ·simp [appU, U.app]
  ·simp [appU, U.app]
  ·have hne' : ¬ H.next = j := by omega
   simp [appU, U.app, Heap.put, Heap.ho_set, hne']
 ·have hul := hu.append hz
  have hll : (es ++ z).flatten.length = (es.length + z.length) * sz := by rw [flat_len hul, List.length_append]
  have htk : (es ++ z).flatten.take (es.length * sz) = es.flatten := by rw [(flat_cut hul es.length (by simp)).1, List.take_left]
  by_cases hkn : k = es.length
  ·subst hkn
   have hes : es.take es.length ++ [x] ++ es.drop es.length = es ++ [x] := by simp
   have hnw : newsA sz H (.sl .ex [x]) = some (x, 1, []) := by
    rw [news_sl (fun e he => by simp at he; subst he; exact hx)]; simp
   have hrun : ∀ q, aAppend P t (.ar r 0 es.length sz) (.sl .ex [x]) H H.next = some q → insB P t [.ar r 0 es.length sz, .lit (.int .i64 ((es.length : Nat) : Int)), .sl .ex [x]] H = some (q.1, q.2.1) := by
    intro q hq
    unfold insB
    simp only [hq, if_true]
    rfl
   rw [hes]
   cases z with
   | nil =>
    rw [List.append_nil] at hg
    have hap := append_arN (P := P) (id := H.next) (r := r) (n := es.length) (m := 1) hel hg hnw (by omega) hs hz0 hb1 (by omega) hx1 (by rw [flat_len hu])
    refine ⟨_, _, calls_tolH (h := insB P t) (v := .ar H.next 0 (es.length + 1) sz) ht hi hto (hrun _ hap), .inr ⟨H.next, [], by simp, ?_, hlo, ?_, Unif.nil sz, rfl⟩, ⟨Nat.le_succ _, fun j hj hne => ⟨?_, show H.next ≠ j by omega⟩⟩⟩
    ·simp [appU, U.app]
    ·simp [appU, U.app]
    ·have hne' : ¬ H.next = j := by omega
     have hne2 : r ≠ j := hne
     simp [appU, U.app, Heap.put, Heap.set, Heap.del, hne', hne2]
   | cons y z =>
    have hle : (es.length + 1) * sz ≤ (es ++ y :: z).flatten.length := by rw [hll]; exact Nat.mul_le_mul_right sz (by simp)
    have hap := append_ar (P := P) (id := H.next) (r := r) (n := es.length) (m := 1) hel hg hnw (by omega) hs hz0 hb1 (by omega) hx1 hle
    refine ⟨_, _, calls_tolH (h := insB P t) (v := .ar r 0 (es.length + 1) sz) ht hi hto (hrun _ hap), .inr ⟨r, z, by simp, ?_, hlr, ?_, fun e he => hz e (List.mem_cons_of_mem _ he), ?_⟩, ⟨Nat.le_succ _, fun j hj hne => ⟨?_, hne⟩⟩⟩
    ·have hdr : (es ++ y :: z).flatten.drop ((es.length + 1) * sz) = z.flatten := by
      rw [(flat_cut hul (es.length + 1) (by simp)).2]; congr 1
      rw [show es ++ y :: z = (es ++ [y]) ++ z by simp]; exact List.drop_left' (by simp)
     simp only [htk, hdr]
     simp [appU, U.app]
    ·simp [appU, U.app]; omega
    ·rw [List.flatten_cons, List.all_append] at hzo
     exact (Bool.and_eq_true _ _ ▸ hzo).2
    ·have hne2 : ¬ r = j := hne
     simp [appU, U.app, Heap.put, Heap.ho_set, hne2]
  ·have hkl : k < es.length := by omega
   have hcells : (es ++ z).flatten.take (k * sz) ++ x ++ ((es ++ z).flatten.take (es.length * sz)).drop (k * sz) = (es.take k ++ [x] ++ es.drop k).flatten := by
    have h1 : (es ++ z).flatten.take (k * sz) = (es.take k).flatten := by
     rw [(flat_cut hul k (by simp; omega)).1, List.take_append_of_le_length (by omega)]
    rw [htk, h1, (flat_cut hu k hk).2]
    simp
   refine ⟨_, _, calls_tolH (h := insB P t) (v := .ar H.next 0 (es.length + 1) sz) (us := [.del r, .box H.next ((es ++ z).flatten.take (k * sz) ++ x ++ ((es ++ z).flatten.take (es.length * sz)).drop (k * sz))]) ht hi hto ?_, .inr ⟨H.next, [], ?_, ?_, hlo, ?_, Unif.nil sz, rfl⟩, ⟨Nat.le_succ _, fun j hj hne => ⟨?_, show H.next ≠ j by omega⟩⟩⟩
   ·unfold insB
    have hne' : ¬ ((k : Nat) : Int) = ((es.length : Nat) : Int) := by omega
    simp only [if_neg hne', hel, hg]
    rw [if_pos ⟨by trivial, by omega, by omega, by rw [hll]; exact Nat.mul_le_mul_right sz (Nat.le_add_right _ _), hx, hs, hz0, by omega, hx1, by rw [htk]; exact h1⟩]
    simp
   ·congr 1; simp; omega
   ·rw [hcells]; simp [appU, U.app]
   ·simp [appU, U.app]
   ·have hne' : ¬ H.next = j := by omega
    have hne2 : r ≠ j := hne
    simp [appU, U.app, Heap.put, Heap.set, Heap.del, hne', hne2]
end Go.Proofs.YtnoahchdmkpleaaGreat.VA

/-! In3 -/
namespace Go.Proofs.YtnoahchdmkpleaaGreat.VA
open Go Go.Shelf Go.RowKit
set_option linter.unusedVariables false
set_option linter.unusedSimpArgs false
def Hid2 (p : Prop) : Prop := p
theorem hid2 {p : Prop} (h : p) : Hid2 p := h
theorem Hid2.out {p : Prop} (h : Hid2 p) : p := h

set_option maxHeartbeats 4000000 in
set_option maxRecDepth 100000 in
theorem insBind_shift (b n c i vc : Nat) (ad : Addr) (vs : Array Value) (nv : List Value) (t' : TypeId) (w : World) (hi : i < n) (hroom : n + 1 ≤ c) (hc63 : c ≤ 9223372036854775807)
  (hb : w.heap[b]? = some (.cells vs t' (0, 0))) (hvl : vs.size = c * 2) (hnl : nv.length = 2)
  (hnc : ∀ j u, nv[j]? = some u → w.cell? (ad.add j) = some u) (h1n : ∀ u, u ∈ nv → u.oneCell' = true) (h1o : ∀ u, u ∈ vs.toList.take (n * 2) → u.oneCell' = true) (hvb : ad.block ≠ b) (hsp : ad.spot = none) :
  Calls Tryz.prog 133 #[.slice (some ⟨b, 0, none⟩) n c, .int .i64 i, .slice (some ad) 1 vc] w fun en w' =>
   en = .returned (.slice (some ⟨b, 0, none⟩) (n + 1) c) ∧ w' = w.drew.setRow b (insRow vs.toList nv (i * 2) (n * 2)).toArray := by
 obtain ⟨vb, voff, sp⟩ := ad
 simp only at hsp hvb
 subst hsp
 have ht : Tryz.prog.underlying 23 = some (.slice 76) := by kernel_rfl
 have hinf : ∃ inf, Tryz.prog.info? 76 = some inf ∧ inf.size = 2 := ⟨_, rfl, by kernel_rfl⟩
 obtain ⟨inf, hinf1, hinf2⟩ := hinf
 have hvl2 : vs.toList.length = c * 2 := by simpa using hvl
 have hxv : ∃ x, w.cell? ⟨vb, voff, none⟩ = some x := by
  match nv, hnl with
  | [x, y], _ => exact ⟨x, by simpa [addr_add] using hnc 0 x rfl⟩
 obtain ⟨x0, hx0⟩ := hxv
 have hov : ∀ lb cb, (callFunc 171 #[.slice (some ⟨vb, voff, none⟩) 1 vc, .slice (some ⟨b, (i + 1) * 2, none⟩) lb cb]).run Tryz.prog w = .ok (.value (.bool false)) w := fun lb cb => by
  rw [run_callFunc_extern (fn := Tryz.f171) (by kernel_rfl) (by kernel_rfl) (by kernel_rfl) (by kernel_rfl) (e := Extern.SlicesOverlaps.overlaps #[23, 23] #[4]) (by kernel_rfl),
   run_overlaps_row w 23 4 76 ht 2 (fun w => by simp [sizeOf, typeInfo, hinf1, hinf2]) ⟨vb, voff, none⟩ ⟨b, (i + 1) * 2, none⟩ 1 vc lb cb hvb x0 hx0 vs t' hb (by omega)]
  rfl
 have hdl : ((vs.toList.take (n * 2)).drop (i * 2)).length = (n - i) * 2 := by rw [List.length_drop, List.length_take]; omega
 have hcp1 : ∀ ty dc sc, (Builtin.copy_ #[23, 23] ty #[.slice (some ⟨b, (i + 1) * 2, none⟩) (n - i) dc, .slice (some ⟨b, i * 2, none⟩) (n + 1 - i) sc]).run Tryz.prog w.drew =
   .ok (goInt ((n - i : Nat) : Int)) (w.drew.setRow b (vs.toList.take ((i + 1) * 2) ++ (vs.toList.take (n * 2)).drop (i * 2) ++ vs.toList.drop ((i + 1) * 2 + ((vs.toList.take (n * 2)).drop (i * 2)).length)).toArray) := fun ty dc sc =>
  run_copy_rowK w.drew _ _ ty 76 inf b ((i + 1) * 2) (n - i) dc ⟨b, i * 2, none⟩ (n + 1 - i) sc (n - i) vs t' _ ht hinf1 hb (by simp only [Nat.min_def]; split <;> omega) (by rw [hinf2, hdl])
   (fun j v hj => by
    rw [addr_add, cell_of_row w.drew b (i * 2 + j) vs t' (0, 0) hb]
    rw [List.getElem?_drop, List.getElem?_take] at hj
    split at hj
    ·rwa [Array.getElem?_toList] at hj
    ·cases hj) (by rw [hdl]; omega) (fun v hv => h1o v (List.mem_of_mem_drop hv))
 obtain ⟨R1, hR1⟩ : ∃ R1, R1 = (vs.toList.take ((i + 1) * 2) ++ (vs.toList.take (n * 2)).drop (i * 2) ++ vs.toList.drop ((i + 1) * 2 + ((vs.toList.take (n * 2)).drop (i * 2)).length)).toArray := ⟨_, rfl⟩
 have hR1s : R1.size = vs.size := by
  rw [hR1]
  simp only [List.size_toArray, List.length_append, List.length_take, hdl, List.length_drop]
  simp at hvl2 ⊢
  omega
 rw [← hR1] at hcp1
 have hb1 : (w.drew.setRow b R1).heap[b]? = some (.cells R1 t' (0, 0)) := setRow_heap w.drew b vs R1 t' (0, 0) hb
 have hcp2 : ∀ ty dc, (Builtin.copy_ #[23, 23] ty #[.slice (some ⟨b, i * 2, none⟩) (n + 1 - i) dc, .slice (some ⟨vb, voff, none⟩) 1 vc]).run Tryz.prog (w.drew.setRow b R1) =
   .ok (goInt 1) (w.drew.setRow b (insRow vs.toList nv (i * 2) (n * 2)).toArray) := fun ty dc => by
  have h := run_copy_rowK (P := Tryz.prog) (w.drew.setRow b R1) 23 23 ty 76 inf b (i * 2) (n + 1 - i) dc ⟨vb, voff, none⟩ 1 vc 1 R1 t' nv ht hinf1 hb1 (by simp only [Nat.min_def]; split <;> omega) (by rw [hinf2, hnl])
   (fun j v hj => by
    rw [addr_add, cell_setRow_other w.drew b R1 ⟨vb, voff + j, none⟩ hvb]
    have := hnc j v hj
    rwa [addr_add] at this) (by rw [hR1s]; omega) h1n
  rw [h, setRow_setRow]
  have e := insRow_two vs.toList nv (i * 2) (n * 2) (by omega) (by omega)
  rw [hnl] at e
  have e3 : (i + 1) * 2 = i * 2 + 2 := by omega
  rw [e3] at hR1
  rw [hnl, ← e, hR1]
  rfl
 have hw1 : IntKind.i64.wrap ((i : Int) + 1) = (i : Int) + 1 := by rw [IntKind.wrap_i64]; omega
 have hw2 : IntKind.i64.wrap ((n : Int) + 1) = (n : Int) + 1 := by rw [IntKind.wrap_i64]; omega
 have hz2 : ¬ ((i : Int) = (n : Int)) := by omega
 have hin : i ≤ n := by omega
 have hp3 : (i : Int) ≤ (n : Int) + 1 := by omega
 have hp1 : (0 : Int) ≤ (i : Int) + 1 := by omega
 have hp2 : (0 : Int) ≤ (n : Int) + 1 := by omega
 have hb3 : ¬ ((c : Int) < (n : Int) + 1) := by omega
 have hb2 : ¬ (c = i + 1) := by omega
 have hb4 : ¬ (c = i) := by omega
 have hgt : ((n : Int) + 1).toNat = n + 1 := by omega
 have hgi : ((i : Int) + 1).toNat = i + 1 := by omega
 have HCP1 := hid2 hcp1
 have HCP2 := hid2 hcp2
 clear hcp1 hcp2 hnc h1n h1o hR1
 go_enter Tryz.func133, Tryz.ntmps133
 go_wp2_with (simp only [hov])
 go_region_law (refine step_copy_runI rfl _ _ 23 23 rfl (.slice (some ⟨b, (i + 1) * 2, none⟩) (n - i) (c - (i + 1))) (.slice (some ⟨b, i * 2, none⟩) (n + 1 - i) (c - i)) (by simp [Act.eval, Act.put]) (by simp [Act.eval, Act.put]) (HCP1.out 3 (c - (i + 1)) (c - i)) ?_)
 go_wp2_with (refine wpList_copy_runI _ rfl _ _ 23 23 rfl (.slice (some ⟨b, i * 2, none⟩) (n + 1 - i) (c - i)) (.slice (some ⟨vb, voff, none⟩) 1 vc) (by first | rfl | simp [Act.eval, Act.put]) (by first | rfl | simp [Act.eval, Act.put]) (HCP2.out 3 (c - i)) ?_)

 go_ret
 exact ⟨rfl, rfl⟩
end Go.Proofs.YtnoahchdmkpleaaGreat.VA

/-! In5 -/
namespace Go.Proofs.YtnoahchdmkpleaaGreat.VA
open Go Go.Shelf Go.RowKit
set_option linter.unusedVariables false
set_option linter.unusedSimpArgs false
set_option maxHeartbeats 4000000 in
set_option maxRecDepth 100000 in
theorem insFld_shift (b n c i vc : Nat) (ad : Addr) (vs : Array Value) (nv : List Value) (t' : TypeId) (w : World) (hi : i < n) (hroom : n + 1 ≤ c) (hc63 : c ≤ 9223372036854775807)
  (hb : w.heap[b]? = some (.cells vs t' (0, 0))) (hvl : vs.size = c * 3) (hnl : nv.length = 3)
  (hnc : ∀ j u, nv[j]? = some u → w.cell? (ad.add j) = some u) (h1n : ∀ u, u ∈ nv → u.oneCell' = true) (h1o : ∀ u, u ∈ vs.toList.take (n * 3) → u.oneCell' = true) (hvb : ad.block ≠ b) (hsp : ad.spot = none) :
  Calls Tryz.prog 181 #[.slice (some ⟨b, 0, none⟩) n c, .int .i64 i, .slice (some ad) 1 vc] w fun en w' =>
   en = .returned (.slice (some ⟨b, 0, none⟩) (n + 1) c) ∧ w' = w.drew.setRow b (insRow vs.toList nv (i * 3) (n * 3)).toArray := by
 obtain ⟨vb, voff, sp⟩ := ad
 simp only at hsp hvb
 subst hsp
 have ht : Tryz.prog.underlying 77 = some (.slice 85) := by kernel_rfl
 have hinf : ∃ inf, Tryz.prog.info? 85 = some inf ∧ inf.size = 3 := ⟨_, rfl, by kernel_rfl⟩
 obtain ⟨inf, hinf1, hinf2⟩ := hinf
 have hvl2 : vs.toList.length = c * 3 := by simpa using hvl
 have hxv : ∃ x, w.cell? ⟨vb, voff, none⟩ = some x := by
  match nv, hnl with
  | [x, y, _], _ => exact ⟨x, by simpa [addr_add] using hnc 0 x rfl⟩
 obtain ⟨x0, hx0⟩ := hxv
 have hov : ∀ lb cb, (callFunc 210 #[.slice (some ⟨vb, voff, none⟩) 1 vc, .slice (some ⟨b, (i + 1) * 3, none⟩) lb cb]).run Tryz.prog w = .ok (.value (.bool false)) w := fun lb cb => by
  rw [run_callFunc_extern (fn := Tryz.f210) (by kernel_rfl) (by kernel_rfl) (by kernel_rfl) (by kernel_rfl) (e := Extern.SlicesOverlaps.overlaps #[77, 77] #[4]) (by kernel_rfl),
   run_overlaps_row w 77 4 85 ht 3 (fun w => by simp [sizeOf, typeInfo, hinf1, hinf2]) ⟨vb, voff, none⟩ ⟨b, (i + 1) * 3, none⟩ 1 vc lb cb hvb x0 hx0 vs t' hb (by omega)]
  rfl
 have hdl : ((vs.toList.take (n * 3)).drop (i * 3)).length = (n - i) * 3 := by rw [List.length_drop, List.length_take]; omega
 have hcp1 : ∀ ty dc sc, (Builtin.copy_ #[77, 77] ty #[.slice (some ⟨b, (i + 1) * 3, none⟩) (n - i) dc, .slice (some ⟨b, i * 3, none⟩) (n + 1 - i) sc]).run Tryz.prog w.drew =
   .ok (goInt ((n - i : Nat) : Int)) (w.drew.setRow b (vs.toList.take ((i + 1) * 3) ++ (vs.toList.take (n * 3)).drop (i * 3) ++ vs.toList.drop ((i + 1) * 3 + ((vs.toList.take (n * 3)).drop (i * 3)).length)).toArray) := fun ty dc sc =>
  run_copy_rowK w.drew _ _ ty 85 inf b ((i + 1) * 3) (n - i) dc ⟨b, i * 3, none⟩ (n + 1 - i) sc (n - i) vs t' _ ht hinf1 hb (by simp only [Nat.min_def]; split <;> omega) (by rw [hinf2, hdl])
   (fun j v hj => by
    rw [addr_add, cell_of_row w.drew b (i * 3 + j) vs t' (0, 0) hb]
    rw [List.getElem?_drop, List.getElem?_take] at hj
    split at hj
    ·rwa [Array.getElem?_toList] at hj
    ·cases hj) (by rw [hdl]; omega) (fun v hv => h1o v (List.mem_of_mem_drop hv))
 obtain ⟨R1, hR1⟩ : ∃ R1, R1 = (vs.toList.take ((i + 1) * 3) ++ (vs.toList.take (n * 3)).drop (i * 3) ++ vs.toList.drop ((i + 1) * 3 + ((vs.toList.take (n * 3)).drop (i * 3)).length)).toArray := ⟨_, rfl⟩
 have hR1s : R1.size = vs.size := by
  rw [hR1]
  simp only [List.size_toArray, List.length_append, List.length_take, hdl, List.length_drop]
  simp at hvl2 ⊢
  omega
 rw [← hR1] at hcp1
 have hb1 : (w.drew.setRow b R1).heap[b]? = some (.cells R1 t' (0, 0)) := setRow_heap w.drew b vs R1 t' (0, 0) hb
 have hcp2 : ∀ ty dc, (Builtin.copy_ #[77, 77] ty #[.slice (some ⟨b, i * 3, none⟩) (n + 1 - i) dc, .slice (some ⟨vb, voff, none⟩) 1 vc]).run Tryz.prog (w.drew.setRow b R1) =
   .ok (goInt 1) (w.drew.setRow b (insRow vs.toList nv (i * 3) (n * 3)).toArray) := fun ty dc => by
  have h := run_copy_rowK (P := Tryz.prog) (w.drew.setRow b R1) 77 77 ty 85 inf b (i * 3) (n + 1 - i) dc ⟨vb, voff, none⟩ 1 vc 1 R1 t' nv ht hinf1 hb1 (by simp only [Nat.min_def]; split <;> omega) (by rw [hinf2, hnl])
   (fun j v hj => by
    rw [addr_add, cell_setRow_other w.drew b R1 ⟨vb, voff + j, none⟩ hvb]
    have := hnc j v hj
    rwa [addr_add] at this) (by rw [hR1s]; omega) h1n
  rw [h, setRow_setRow]
  have e := insRow_two vs.toList nv (i * 3) (n * 3) (by omega) (by omega)
  rw [hnl] at e
  have e3 : (i + 1) * 3 = i * 3 + 3 := by omega
  rw [e3] at hR1
  rw [hnl, ← e, hR1]
  rfl
 have hw1 : IntKind.i64.wrap ((i : Int) + 1) = (i : Int) + 1 := by rw [IntKind.wrap_i64]; omega
 have hw2 : IntKind.i64.wrap ((n : Int) + 1) = (n : Int) + 1 := by rw [IntKind.wrap_i64]; omega
 have hz2 : ¬ ((i : Int) = (n : Int)) := by omega
 have hin : i ≤ n := by omega
 have hp3 : (i : Int) ≤ (n : Int) + 1 := by omega
 have hp1 : (0 : Int) ≤ (i : Int) + 1 := by omega
 have hp2 : (0 : Int) ≤ (n : Int) + 1 := by omega
 have hb3 : ¬ ((c : Int) < (n : Int) + 1) := by omega
 have hb2 : ¬ (c = i + 1) := by omega
 have hb4 : ¬ (c = i) := by omega
 have hgt : ((n : Int) + 1).toNat = n + 1 := by omega
 have hgi : ((i : Int) + 1).toNat = i + 1 := by omega
 have HCP1 := hid2 hcp1
 have HCP2 := hid2 hcp2
 clear hcp1 hcp2 hnc h1n h1o hR1
 go_enter Tryz.func181, Tryz.ntmps181
 go_wp2_with (simp only [hov])
 go_region_law (refine step_copy_runI rfl _ _ 77 77 rfl (.slice (some ⟨b, (i + 1) * 3, none⟩) (n - i) (c - (i + 1))) (.slice (some ⟨b, i * 3, none⟩) (n + 1 - i) (c - i)) (by simp [Act.eval, Act.put]) (by simp [Act.eval, Act.put]) (HCP1.out 3 (c - (i + 1)) (c - i)) ?_)
 go_wp2_with (refine wpList_copy_runI _ rfl _ _ 77 77 rfl (.slice (some ⟨b, i * 3, none⟩) (n + 1 - i) (c - i)) (.slice (some ⟨vb, voff, none⟩) 1 vc) (by first | rfl | simp [Act.eval, Act.put]) (by first | rfl | simp [Act.eval, Act.put]) (HCP2.out 3 (c - i)) ?_)

 go_ret
 exact ⟨rfl, rfl⟩
end Go.Proofs.YtnoahchdmkpleaaGreat.VA

/-! In4 -/
namespace Go.Proofs.YtnoahchdmkpleaaGreat.VA
open Go Go.Shelf Go.RowKit
set_option linter.unusedVariables false
set_option linter.unusedSimpArgs false

theorem bindZero {z : Value} (h : ((Tryz.prog.info? 76).bind fun i => i.zero) = some z) : z.cells.size = 2 := by
 have h2 : ((Tryz.prog.info? 76).bind fun i => i.zero).map (fun z => z.cells.size) = some 2 := by kernel_rfl
 rw [h] at h2
 simpa using h2
theorem grow_rows {α : Type} (l nv z1 z2 : List α) (a m : Nat) (h1 : a ≤ m) (h2 : m ≤ l.length) (hz : z1.length = m - a + nv.length) :
  ((l.take a ++ z1 ++ z2).take a ++ nv ++ (l.take a ++ z1 ++ z2).drop (a + nv.length)).take (a + nv.length) ++ (l.take m).drop a ++
   ((l.take a ++ z1 ++ z2).take a ++ nv ++ (l.take a ++ z1 ++ z2).drop (a + nv.length)).drop (a + nv.length + ((l.take m).drop a).length) = l.take a ++ nv ++ (l.take m).drop a ++ z2 := by
 have e0 : (l.take a).length = a := by rw [List.length_take]; omega
 have e1 : ((l.take m).drop a).length = m - a := by rw [List.length_drop, List.length_take]; omega
 have e2 : (l.take a ++ z1 ++ z2).take a = l.take a := by
  rw [List.append_assoc, List.take_append_of_le_length (by omega), List.take_take, Nat.min_self]
 have e3 : (l.take a ++ z1 ++ z2).drop (a + nv.length) = (z1 ++ z2).drop nv.length := by
  rw [List.append_assoc, List.drop_append, List.drop_eq_nil_of_le (by omega), List.nil_append, e0]; congr 1; omega
 rw [e2, e3, e1]
 have e4 : (l.take a ++ nv).length = a + nv.length := by rw [List.length_append, e0]
 have e5 : (l.take a ++ nv ++ (z1 ++ z2).drop nv.length).take (a + nv.length) = l.take a ++ nv := by rw [← e4]; exact List.take_left
 have e6 : (l.take a ++ nv ++ (z1 ++ z2).drop nv.length).drop (a + nv.length + (m - a)) = z2 := by
  rw [List.drop_append, List.drop_eq_nil_of_le (by omega), List.nil_append, e4, List.drop_drop, List.drop_append, List.drop_eq_nil_of_le (by omega), List.nil_append]
  rw [show nv.length + (a + nv.length + (m - a) - (a + nv.length)) - z1.length = 0 by omega, List.drop_zero]
 rw [e5, e6]
set_option maxHeartbeats 4000000 in
set_option maxRecDepth 100000 in
theorem insBind_grow (b n c i vc : Nat) (ad : Addr) (vs : Array Value) (nv : List Value) (t' : TypeId) (z : Value) (w : World) (hi : i < n) (hnc0 : n ≤ c) (hroom : c < n + 1) (hbig : n + 1 ≤ 1000000000000)
  (hz : ((Tryz.prog.info? 76).bind fun i => i.zero) = some z)
  (hb : w.heap[b]? = some (.cells vs t' (0, 0))) (hvl : vs.size = c * 2) (hnl : nv.length = 2)
  (hnc : ∀ j u, nv[j]? = some u → w.cell? (ad.add j) = some u) (h1n : ∀ u, u ∈ nv → u.oneCell' = true) (h1o : ∀ u, u ∈ vs.toList.take (n * 2) → u.oneCell' = true) (hsp : ad.spot = none) :
  Calls Tryz.prog 133 #[.slice (some ⟨b, 0, none⟩) n c, .int .i64 i, .slice (some ad) 1 vc] w fun en w' => ∃ G, G = grownCap w (n + 1) c 76 ∧
   en = .returned (.slice (some ⟨w.heap.size, 0, none⟩) (n + 1) G) ∧
   w' = w.drew.drew.alloc (.cells ((vs.toList.take (i * 2) ++ nv ++ (vs.toList.take (n * 2)).drop (i * 2)).toArray ++ Builtin.zeroCells z.cells (G - (n + 1))) 76) := by
 obtain ⟨vb, voff, sp⟩ := ad
 simp only at hsp
 subst hsp
 have hcn : c = n := by omega
 subst hcn
 have hzc := bindZero hz
 have ht : Tryz.prog.underlying 23 = some (.slice 76) := by kernel_rfl
 have htn : Tryz.prog.underlying 3 = some (.int .i64) := by kernel_rfl
 have hinf : ∃ inf, Tryz.prog.info? 76 = some inf ∧ inf.size = 2 ∧ inf.bytes = 40 := ⟨_, rfl, by kernel_rfl, by kernel_rfl⟩
 obtain ⟨inf, hinf1, hinf2, hinf3⟩ := hinf
 have hiz : inf.zero = some z := by rw [hinf1] at hz; exact hz
 clear hz
 have hvl2 : vs.toList.length = c * 2 := by simpa using hvl
 have hbw : b < w.heap.size := (Array.getElem?_eq_some_iff.1 hb).1
 have hvw : vb < w.heap.size := by
  match nv, hnl with
  | [x, y], _ =>
   have := hnc 0 x rfl
   exact block_lt_of_cell (by simpa [addr_add] using this)
 have hik : i + (c + 1 - i) = c + 1 := by omega
 have hkk : (c : Int) + 1 - (i : Int) = ((c + 1 - i : Nat) : Int) := by omega
 have hold : (Builtin.firstCells inf.size i (.slice (some ⟨b, 0, none⟩) i c)).run Tryz.prog w.drew = .ok (vs.toList.take (i * 2)).toArray w.drew := by
  rw [hinf2]
  refine run_firstCells_some w.drew 2 i ⟨b, 0, none⟩ i c (vs.toList.take (i * 2)) (by rw [List.length_take]; omega) (fun j v hj => ?_)
  rw [addr_add, cell_of_row w.drew b (0 + j) vs t' (0, 0) hb, Nat.zero_add]
  rw [List.getElem?_take] at hj
  split at hj
  ·rwa [Array.getElem?_toList] at hj
  ·cases hj
 obtain ⟨G, hG⟩ : ∃ G, G = grownCap w (c + 1) c 76 := ⟨_, rfl⟩
 have hGn : c + 1 ≤ G := by rw [hG]; exact grownCap_ge w _ _ _
 have hmax : maxLen = 9223372036854775807 := rfl
 have hG63 : G ≤ 9223372036854775807 := by
  have := grownCap_le_maxLen w (c + 1) c 76 (by omega)
  rw [← hG] at this
  omega
 obtain ⟨R1, hR1⟩ : ∃ R1 : Array Value, R1 = (vs.toList.take (i * 2)).toArray ++ Builtin.zeroCells z.cells (c + 1 - i) ++ Builtin.zeroCells z.cells (G - (c + 1)) := ⟨_, rfl⟩
 have hR1l : R1.toList = vs.toList.take (i * 2) ++ (Builtin.zeroCells z.cells (c + 1 - i)).toList ++ (Builtin.zeroCells z.cells (G - (c + 1))).toList := by rw [hR1]; simp
 have hR1s : R1.size = G * 2 := by
  rw [hR1]
  simp only [Array.size_append, List.size_toArray, size_zeroCells, hzc, List.length_take]
  omega
 have hrz : ∀ ty, (Builtin.append_ #[23, 3] ty #[.slice (some ⟨b, 0, none⟩) i c, .int .i64 ((c : Int) + 1 - (i : Int))]).run Tryz.prog w =
   .ok (.slice (some ⟨w.heap.size, 0, none⟩) (c + 1) G) (w.drew.alloc (.cells R1 76)) := fun ty => by
  have h := Lib.run_append_grow_zeros w 23 3 ty 76 inf z .i64 .i64 ht htn hinf1 hiz (some ⟨b, 0, none⟩) i c (vs.toList.take (i * 2)) hold (c + 1 - i) (by omega) (by omega) (by omega) (by omega)
   (by rw [hinf3]; omega) (by rw [hinf3, hik]; exact growslice_fits (by omega) (by omega))
  rw [hik, ← hG, ← hR1] at h
  rw [hkk]
  exact h
 have hdl : ((vs.toList.take (c * 2)).drop (i * 2)).length = (c - i) * 2 := by rw [List.length_drop, List.length_take]; omega
 have hsz : w.heap.size = w.drew.heap.size := rfl
 have hn1 : (w.drew.alloc (.cells R1 76)).heap[w.heap.size]? = some (.cells R1 76 (0, 0)) := heap_alloc_new w.drew _
 obtain ⟨R2, hR2⟩ : ∃ R2, R2 = (R1.toList.take (i * 2) ++ nv ++ R1.toList.drop (i * 2 + nv.length)).toArray := ⟨_, rfl⟩
 have hR1l2 : R1.toList.length = G * 2 := by simpa using hR1s
 have hR2s : R2.size = G * 2 := by
  rw [hR2]
  simp only [List.size_toArray, List.length_append, List.length_take, List.length_drop, hnl, hR1l2]
  omega
 have hcpA : ∀ ty dc, (Builtin.copy_ #[23, 23] ty #[.slice (some ⟨w.heap.size, i * 2, none⟩) (c + 1 - i) dc, .slice (some ⟨vb, voff, none⟩) 1 vc]).run Tryz.prog (w.drew.alloc (.cells R1 76)) =
   .ok (goInt 1) (w.drew.alloc (.cells R2 76)) := fun ty dc => by
  have h := run_copy_rowK (P := Tryz.prog) (w.drew.alloc (.cells R1 76)) 23 23 ty 76 inf w.heap.size (i * 2) (c + 1 - i) dc ⟨vb, voff, none⟩ 1 vc 1 R1 76 nv ht hinf1 hn1
   (by simp only [Nat.min_def]; split <;> omega) (by rw [hinf2, hnl])
   (fun j v hj => by
    rw [addr_add, World.cell?_alloc_lt w.drew _ ⟨vb, voff + j, none⟩ hvw]
    have := hnc j v hj
    rwa [addr_add] at this) (by rw [hR1s]; omega) h1n
  rw [h, ← hR2, alloc_setRow _ _ hsz]
  rfl
 have hn2 : ((w.drew.alloc (.cells R2 76)).drew).heap[w.heap.size]? = some (.cells R2 76 (0, 0)) := heap_alloc_new w.drew _
 obtain ⟨R3, hR3⟩ : ∃ R3, R3 = (R2.toList.take ((i + 1) * 2) ++ (vs.toList.take (c * 2)).drop (i * 2) ++ R2.toList.drop ((i + 1) * 2 + ((vs.toList.take (c * 2)).drop (i * 2)).length)).toArray := ⟨_, rfl⟩
 have hcpB : ∀ ty dc sc, (Builtin.copy_ #[23, 23] ty #[.slice (some ⟨w.heap.size, (i + 1) * 2, none⟩) (c - i) dc, .slice (some ⟨b, i * 2, none⟩) (c - i) sc]).run Tryz.prog ((w.drew.alloc (.cells R2 76)).drew) =
   .ok (goInt ((c - i : Nat) : Int)) ((w.drew.alloc (.cells R3 76)).drew) := fun ty dc sc => by
  have h := run_copy_rowK (P := Tryz.prog) ((w.drew.alloc (.cells R2 76)).drew) 23 23 ty 76 inf w.heap.size ((i + 1) * 2) (c - i) dc ⟨b, i * 2, none⟩ (c - i) sc (c - i) R2 76
   ((vs.toList.take (c * 2)).drop (i * 2)) ht hinf1 hn2 (by simp only [Nat.min_def]; split <;> omega) (by rw [hinf2, hdl])
   (fun j v hj => by
    have hb' : (w.drew.alloc (.cells R2 76)).drew.heap[b]? = some (.cells vs t' (0, 0)) := (Below.heap_alloc w.drew _ b (by simpa using hbw)).trans hb
    rw [addr_add, cell_of_row _ b (i * 2 + j) vs t' (0, 0) hb']
    rw [List.getElem?_drop, List.getElem?_take] at hj
    split at hj
    ·rwa [Array.getElem?_toList] at hj
    ·cases hj) (by rw [hdl, hR2s]; omega) (fun v hv => h1o v (List.mem_of_mem_drop hv))
  rw [h, ← hR3]
  have e : ∀ R, ((w.drew.alloc (.cells R2 76)).drew).setRow w.heap.size R = ((w.drew.alloc (.cells R2 76)).setRow w.heap.size R).drew := fun R => rfl
  rw [e, alloc_setRow _ _ hsz]
 have hfin : (w.drew.alloc (.cells R3 76)).drew = w.drew.drew.alloc (.cells ((vs.toList.take (i * 2) ++ nv ++ (vs.toList.take (c * 2)).drop (i * 2)).toArray ++ Builtin.zeroCells z.cells (G - (c + 1))) 76) := by
  have e := grow_rows vs.toList nv (Builtin.zeroCells z.cells (c + 1 - i)).toList (Builtin.zeroCells z.cells (G - (c + 1))).toList (i * 2) (c * 2) (by omega) (by omega) (by
   rw [Array.length_toList, size_zeroCells, hzc, hnl]; omega)
  have e3 : (i + 1) * 2 = i * 2 + nv.length := by omega
  have e4 : R3 = ((vs.toList.take (i * 2) ++ nv ++ (vs.toList.take (c * 2)).drop (i * 2)).toArray ++ Builtin.zeroCells z.cells (G - (c + 1))) := by
   rw [hR3, e3, hR2, ← hR1l] at *
   apply Array.toList_inj.1
   rw [Array.toList_append]
   simpa using e
  rw [e4]
  rfl
 have hw1 : IntKind.i64.wrap ((i : Int) + 1) = (i : Int) + 1 := by rw [IntKind.wrap_i64]; omega
 have hw2 : IntKind.i64.wrap ((c : Int) + 1) = (c : Int) + 1 := by rw [IntKind.wrap_i64]; omega
 have hw3 : IntKind.i64.wrap ((c : Int) + 1 - (i : Int)) = (c : Int) + 1 - (i : Int) := by rw [IntKind.wrap_i64]; omega
 have hz2 : ¬ ((i : Int) = (c : Int)) := by omega
 have hin : i ≤ c := by omega
 have hp3 : (i : Int) ≤ (c : Int) + 1 := by omega
 have hp1 : (0 : Int) ≤ (i : Int) + 1 := by omega
 have hp2 : (0 : Int) ≤ (c : Int) + 1 := by omega
 have hb3 : (c : Int) < (c : Int) + 1 := by omega
 have hgi : ((i : Int) + 1).toNat = i + 1 := by omega
 have hGi : ¬ (G = i) := by omega
 have hGim : ¬ (G = i + 1) := by omega
 have hci : ¬ (c = i) := by omega
 have HA := hid2 hrz
 have HB := hid2 hcpA
 have HC := hid2 hcpB
 have HG := hid2 hG
 have HF := hid2 hfin
 clear hsz hmax hdl hvl hvl2 hnl hR1l2 hR1s hR2s hzc hinf1 hinf2 hinf3 hroom hnc0 hrz hcpA hcpB hG hfin hnc h1n h1o hR1 hR2 hR3 hkk hik hold hR1l hn1 hn2 hiz
 go_enter Tryz.func133, Tryz.ntmps133
 go_wp2_with (first
  | (refine Lib.wpList_append_run _ rfl _ _ 23 3 rfl (.slice (some ⟨b, 0, none⟩) i c) (.int .i64 ((c : Int) + 1 - (i : Int))) (by first | rfl | simp [Act.eval, Act.put]) (by first | rfl | simp [Act.eval, Act.put]) _ _ (HA.out _) ?_)
  | (refine wpList_copy_runI _ rfl _ _ 23 23 rfl (.slice (some ⟨w.heap.size, i * 2, none⟩) (c + 1 - i) (G - i)) (.slice (some ⟨vb, voff, none⟩) 1 vc) (by first | rfl | simp [Act.eval, Act.put]) (by first | rfl | simp [Act.eval, Act.put]) (HB.out 3 (G - i)) ?_))
 go_region_law (refine step_copy_runI rfl _ _ 23 23 rfl (.slice (some ⟨w.heap.size, (i + 1) * 2, none⟩) (c - i) (G - (i + 1))) (.slice (some ⟨b, i * 2, none⟩) (c - i) (c - i)) (by simp [Act.eval, Act.put]) (by simp [Act.eval, Act.put]) (HC.out 3 (G - (i + 1)) (c - i)) ?_)
 go_wp2
 go_ret
 exact ⟨G, HG.out, rfl, HF.out⟩
set_option maxHeartbeats 4000000 in
set_option maxRecDepth 100000 in
theorem insBind_end (a : Option Addr) (n c vc : Nat) (ad : Option Addr) (w w' : World) (q : Value) (hnc : n ≤ c) (hr : (Builtin.append_ #[23, 23] 23 #[.slice a n c, .slice ad 1 vc]).run Tryz.prog w = .ok q w') :
  Calls Tryz.prog 133 #[.slice a n c, .int .i64 n, .slice ad 1 vc] w fun en w'' => en = .returned q ∧ w'' = w' := by
 have HA := hid2 hr
 clear hr
 go_enter Tryz.func133, Tryz.ntmps133
 go_wp2_with (refine Lib.wpList_append_run _ rfl _ _ 23 23 rfl (.slice a n c) (.slice ad 1 vc) (by first | rfl | simp [Act.eval, Act.put]) (by first | rfl | simp [Act.eval, Act.put]) _ _ HA.out ?_)
 all_goals (go_ret; exact ⟨rfl, rfl⟩)
theorem insBind_walks : InsWalks Tryz.prog 133 23 76 2 :=
 ⟨fun vs w => callFunc_enter (fn := Tryz.f133) (by kernel_rfl) (by kernel_rfl) rfl vs w, insBind_shift, insBind_grow, insBind_end⟩
theorem insBind_ok (C : Cond) : TolHOk Tryz.prog C 133 (insB Tryz.prog 23) := insB_ok (by_ := 40) insBind_walks (by kernel_rfl)
end Go.Proofs.YtnoahchdmkpleaaGreat.VA

/-! In6 -/
namespace Go.Proofs.YtnoahchdmkpleaaGreat.VA
open Go Go.Shelf Go.RowKit
set_option linter.unusedVariables false
set_option linter.unusedSimpArgs false

theorem fldZero {z : Value} (h : ((Tryz.prog.info? 85).bind fun i => i.zero) = some z) : z.cells.size = 3 := by
 have h2 : ((Tryz.prog.info? 85).bind fun i => i.zero).map (fun z => z.cells.size) = some 3 := by kernel_rfl
 rw [h] at h2
 simpa using h2
set_option maxHeartbeats 4000000 in
set_option maxRecDepth 100000 in
theorem insFld_grow (b n c i vc : Nat) (ad : Addr) (vs : Array Value) (nv : List Value) (t' : TypeId) (z : Value) (w : World) (hi : i < n) (hnc0 : n ≤ c) (hroom : c < n + 1) (hbig : n + 1 ≤ 1000000000000)
  (hz : ((Tryz.prog.info? 85).bind fun i => i.zero) = some z)
  (hb : w.heap[b]? = some (.cells vs t' (0, 0))) (hvl : vs.size = c * 3) (hnl : nv.length = 3)
  (hnc : ∀ j u, nv[j]? = some u → w.cell? (ad.add j) = some u) (h1n : ∀ u, u ∈ nv → u.oneCell' = true) (h1o : ∀ u, u ∈ vs.toList.take (n * 3) → u.oneCell' = true) (hsp : ad.spot = none) :
  Calls Tryz.prog 181 #[.slice (some ⟨b, 0, none⟩) n c, .int .i64 i, .slice (some ad) 1 vc] w fun en w' => ∃ G, G = grownCap w (n + 1) c 85 ∧
   en = .returned (.slice (some ⟨w.heap.size, 0, none⟩) (n + 1) G) ∧
   w' = w.drew.drew.alloc (.cells ((vs.toList.take (i * 3) ++ nv ++ (vs.toList.take (n * 3)).drop (i * 3)).toArray ++ Builtin.zeroCells z.cells (G - (n + 1))) 85) := by
 obtain ⟨vb, voff, sp⟩ := ad
 simp only at hsp
 subst hsp
 have hcn : c = n := by omega
 subst hcn
 have hzc := fldZero hz
 have ht : Tryz.prog.underlying 77 = some (.slice 85) := by kernel_rfl
 have htn : Tryz.prog.underlying 3 = some (.int .i64) := by kernel_rfl
 have hinf : ∃ inf, Tryz.prog.info? 85 = some inf ∧ inf.size = 3 ∧ inf.bytes = 48 := ⟨_, rfl, by kernel_rfl, by kernel_rfl⟩
 obtain ⟨inf, hinf1, hinf2, hinf3⟩ := hinf
 have hiz : inf.zero = some z := by rw [hinf1] at hz; exact hz
 clear hz
 have hvl2 : vs.toList.length = c * 3 := by simpa using hvl
 have hbw : b < w.heap.size := (Array.getElem?_eq_some_iff.1 hb).1
 have hvw : vb < w.heap.size := by
  match nv, hnl with
  | [x, y, _], _ =>
   have := hnc 0 x rfl
   exact block_lt_of_cell (by simpa [addr_add] using this)
 have hik : i + (c + 1 - i) = c + 1 := by omega
 have hkk : (c : Int) + 1 - (i : Int) = ((c + 1 - i : Nat) : Int) := by omega
 have hold : (Builtin.firstCells inf.size i (.slice (some ⟨b, 0, none⟩) i c)).run Tryz.prog w.drew = .ok (vs.toList.take (i * 3)).toArray w.drew := by
  rw [hinf2]
  refine run_firstCells_some w.drew 3 i ⟨b, 0, none⟩ i c (vs.toList.take (i * 3)) (by rw [List.length_take]; omega) (fun j v hj => ?_)
  rw [addr_add, cell_of_row w.drew b (0 + j) vs t' (0, 0) hb, Nat.zero_add]
  rw [List.getElem?_take] at hj
  split at hj
  ·rwa [Array.getElem?_toList] at hj
  ·cases hj
 obtain ⟨G, hG⟩ : ∃ G, G = grownCap w (c + 1) c 85 := ⟨_, rfl⟩
 have hGn : c + 1 ≤ G := by rw [hG]; exact grownCap_ge w _ _ _
 have hmax : maxLen = 9223372036854775807 := rfl
 have hG63 : G ≤ 9223372036854775807 := by
  have := grownCap_le_maxLen w (c + 1) c 85 (by omega)
  rw [← hG] at this
  omega
 obtain ⟨R1, hR1⟩ : ∃ R1 : Array Value, R1 = (vs.toList.take (i * 3)).toArray ++ Builtin.zeroCells z.cells (c + 1 - i) ++ Builtin.zeroCells z.cells (G - (c + 1)) := ⟨_, rfl⟩
 have hR1l : R1.toList = vs.toList.take (i * 3) ++ (Builtin.zeroCells z.cells (c + 1 - i)).toList ++ (Builtin.zeroCells z.cells (G - (c + 1))).toList := by rw [hR1]; simp
 have hR1s : R1.size = G * 3 := by
  rw [hR1]
  simp only [Array.size_append, List.size_toArray, size_zeroCells, hzc, List.length_take]
  omega
 have hrz : ∀ ty, (Builtin.append_ #[77, 3] ty #[.slice (some ⟨b, 0, none⟩) i c, .int .i64 ((c : Int) + 1 - (i : Int))]).run Tryz.prog w =
   .ok (.slice (some ⟨w.heap.size, 0, none⟩) (c + 1) G) (w.drew.alloc (.cells R1 85)) := fun ty => by
  have h := Lib.run_append_grow_zeros w 77 3 ty 85 inf z .i64 .i64 ht htn hinf1 hiz (some ⟨b, 0, none⟩) i c (vs.toList.take (i * 3)) hold (c + 1 - i) (by omega) (by omega) (by omega) (by omega)
   (by rw [hinf3]; omega) (by rw [hinf3, hik]; exact growslice_fits (by omega) (by omega))
  rw [hik, ← hG, ← hR1] at h
  rw [hkk]
  exact h
 have hdl : ((vs.toList.take (c * 3)).drop (i * 3)).length = (c - i) * 3 := by rw [List.length_drop, List.length_take]; omega
 have hsz : w.heap.size = w.drew.heap.size := rfl
 have hn1 : (w.drew.alloc (.cells R1 85)).heap[w.heap.size]? = some (.cells R1 85 (0, 0)) := heap_alloc_new w.drew _
 obtain ⟨R2, hR2⟩ : ∃ R2, R2 = (R1.toList.take (i * 3) ++ nv ++ R1.toList.drop (i * 3 + nv.length)).toArray := ⟨_, rfl⟩
 have hR1l2 : R1.toList.length = G * 3 := by simpa using hR1s
 have hR2s : R2.size = G * 3 := by
  rw [hR2]
  simp only [List.size_toArray, List.length_append, List.length_take, List.length_drop, hnl, hR1l2]
  omega
 have hcpA : ∀ ty dc, (Builtin.copy_ #[77, 77] ty #[.slice (some ⟨w.heap.size, i * 3, none⟩) (c + 1 - i) dc, .slice (some ⟨vb, voff, none⟩) 1 vc]).run Tryz.prog (w.drew.alloc (.cells R1 85)) =
   .ok (goInt 1) (w.drew.alloc (.cells R2 85)) := fun ty dc => by
  have h := run_copy_rowK (P := Tryz.prog) (w.drew.alloc (.cells R1 85)) 77 77 ty 85 inf w.heap.size (i * 3) (c + 1 - i) dc ⟨vb, voff, none⟩ 1 vc 1 R1 85 nv ht hinf1 hn1
   (by simp only [Nat.min_def]; split <;> omega) (by rw [hinf2, hnl])
   (fun j v hj => by
    rw [addr_add, World.cell?_alloc_lt w.drew _ ⟨vb, voff + j, none⟩ hvw]
    have := hnc j v hj
    rwa [addr_add] at this) (by rw [hR1s]; omega) h1n
  rw [h, ← hR2, alloc_setRow _ _ hsz]
  rfl
 have hn2 : ((w.drew.alloc (.cells R2 85)).drew).heap[w.heap.size]? = some (.cells R2 85 (0, 0)) := heap_alloc_new w.drew _
 obtain ⟨R3, hR3⟩ : ∃ R3, R3 = (R2.toList.take ((i + 1) * 3) ++ (vs.toList.take (c * 3)).drop (i * 3) ++ R2.toList.drop ((i + 1) * 3 + ((vs.toList.take (c * 3)).drop (i * 3)).length)).toArray := ⟨_, rfl⟩
 have hcpB : ∀ ty dc sc, (Builtin.copy_ #[77, 77] ty #[.slice (some ⟨w.heap.size, (i + 1) * 3, none⟩) (c - i) dc, .slice (some ⟨b, i * 3, none⟩) (c - i) sc]).run Tryz.prog ((w.drew.alloc (.cells R2 85)).drew) =
   .ok (goInt ((c - i : Nat) : Int)) ((w.drew.alloc (.cells R3 85)).drew) := fun ty dc sc => by
  have h := run_copy_rowK (P := Tryz.prog) ((w.drew.alloc (.cells R2 85)).drew) 77 77 ty 85 inf w.heap.size ((i + 1) * 3) (c - i) dc ⟨b, i * 3, none⟩ (c - i) sc (c - i) R2 85
   ((vs.toList.take (c * 3)).drop (i * 3)) ht hinf1 hn2 (by simp only [Nat.min_def]; split <;> omega) (by rw [hinf2, hdl])
   (fun j v hj => by
    have hb' : (w.drew.alloc (.cells R2 85)).drew.heap[b]? = some (.cells vs t' (0, 0)) := (Below.heap_alloc w.drew _ b (by simpa using hbw)).trans hb
    rw [addr_add, cell_of_row _ b (i * 3 + j) vs t' (0, 0) hb']
    rw [List.getElem?_drop, List.getElem?_take] at hj
    split at hj
    ·rwa [Array.getElem?_toList] at hj
    ·cases hj) (by rw [hdl, hR2s]; omega) (fun v hv => h1o v (List.mem_of_mem_drop hv))
  rw [h, ← hR3]
  have e : ∀ R, ((w.drew.alloc (.cells R2 85)).drew).setRow w.heap.size R = ((w.drew.alloc (.cells R2 85)).setRow w.heap.size R).drew := fun R => rfl
  rw [e, alloc_setRow _ _ hsz]
 have hfin : (w.drew.alloc (.cells R3 85)).drew = w.drew.drew.alloc (.cells ((vs.toList.take (i * 3) ++ nv ++ (vs.toList.take (c * 3)).drop (i * 3)).toArray ++ Builtin.zeroCells z.cells (G - (c + 1))) 85) := by
  have e := grow_rows vs.toList nv (Builtin.zeroCells z.cells (c + 1 - i)).toList (Builtin.zeroCells z.cells (G - (c + 1))).toList (i * 3) (c * 3) (by omega) (by omega) (by
   rw [Array.length_toList, size_zeroCells, hzc, hnl]; omega)
  have e3 : (i + 1) * 3 = i * 3 + nv.length := by omega
  have e4 : R3 = ((vs.toList.take (i * 3) ++ nv ++ (vs.toList.take (c * 3)).drop (i * 3)).toArray ++ Builtin.zeroCells z.cells (G - (c + 1))) := by
   rw [hR3, e3, hR2, ← hR1l] at *
   apply Array.toList_inj.1
   rw [Array.toList_append]
   simpa using e
  rw [e4]
  rfl
 have hw1 : IntKind.i64.wrap ((i : Int) + 1) = (i : Int) + 1 := by rw [IntKind.wrap_i64]; omega
 have hw2 : IntKind.i64.wrap ((c : Int) + 1) = (c : Int) + 1 := by rw [IntKind.wrap_i64]; omega
 have hw3 : IntKind.i64.wrap ((c : Int) + 1 - (i : Int)) = (c : Int) + 1 - (i : Int) := by rw [IntKind.wrap_i64]; omega
 have hz2 : ¬ ((i : Int) = (c : Int)) := by omega
 have hin : i ≤ c := by omega
 have hp3 : (i : Int) ≤ (c : Int) + 1 := by omega
 have hp1 : (0 : Int) ≤ (i : Int) + 1 := by omega
 have hp2 : (0 : Int) ≤ (c : Int) + 1 := by omega
 have hb3 : (c : Int) < (c : Int) + 1 := by omega
 have hgi : ((i : Int) + 1).toNat = i + 1 := by omega
 have hGi : ¬ (G = i) := by omega
 have hGim : ¬ (G = i + 1) := by omega
 have hci : ¬ (c = i) := by omega
 have HA := hid2 hrz
 have HB := hid2 hcpA
 have HC := hid2 hcpB
 have HG := hid2 hG
 have HF := hid2 hfin
 clear hsz hmax hdl hvl hvl2 hnl hR1l2 hR1s hR2s hzc hinf1 hinf2 hinf3 hroom hnc0 hrz hcpA hcpB hG hfin hnc h1n h1o hR1 hR2 hR3 hkk hik hold hR1l hn1 hn2 hiz
 go_enter Tryz.func181, Tryz.ntmps181
 go_wp2_with (first
  | (refine Lib.wpList_append_run _ rfl _ _ 77 3 rfl (.slice (some ⟨b, 0, none⟩) i c) (.int .i64 ((c : Int) + 1 - (i : Int))) (by first | rfl | simp [Act.eval, Act.put]) (by first | rfl | simp [Act.eval, Act.put]) _ _ (HA.out _) ?_)
  | (refine wpList_copy_runI _ rfl _ _ 77 77 rfl (.slice (some ⟨w.heap.size, i * 3, none⟩) (c + 1 - i) (G - i)) (.slice (some ⟨vb, voff, none⟩) 1 vc) (by first | rfl | simp [Act.eval, Act.put]) (by first | rfl | simp [Act.eval, Act.put]) (HB.out 3 (G - i)) ?_))
 go_region_law (refine step_copy_runI rfl _ _ 77 77 rfl (.slice (some ⟨w.heap.size, (i + 1) * 3, none⟩) (c - i) (G - (i + 1))) (.slice (some ⟨b, i * 3, none⟩) (c - i) (c - i)) (by simp [Act.eval, Act.put]) (by simp [Act.eval, Act.put]) (HC.out 3 (G - (i + 1)) (c - i)) ?_)
 go_wp2
 go_ret
 exact ⟨G, HG.out, rfl, HF.out⟩
set_option maxHeartbeats 4000000 in
set_option maxRecDepth 100000 in
theorem insFld_end (a : Option Addr) (n c vc : Nat) (ad : Option Addr) (w w' : World) (q : Value) (hnc : n ≤ c) (hr : (Builtin.append_ #[77, 77] 77 #[.slice a n c, .slice ad 1 vc]).run Tryz.prog w = .ok q w') :
  Calls Tryz.prog 181 #[.slice a n c, .int .i64 n, .slice ad 1 vc] w fun en w'' => en = .returned q ∧ w'' = w' := by
 have HA := hid2 hr
 clear hr
 go_enter Tryz.func181, Tryz.ntmps181
 go_wp2_with (refine Lib.wpList_append_run _ rfl _ _ 77 77 rfl (.slice a n c) (.slice ad 1 vc) (by first | rfl | simp [Act.eval, Act.put]) (by first | rfl | simp [Act.eval, Act.put]) _ _ HA.out ?_)
 all_goals (go_ret; exact ⟨rfl, rfl⟩)
theorem insFld_walks : InsWalks Tryz.prog 181 77 85 3 :=
 ⟨fun vs w => callFunc_enter (fn := Tryz.f181) (by kernel_rfl) (by kernel_rfl) rfl vs w, insFld_shift, insFld_grow, insFld_end⟩
theorem insFld_ok (C : Cond) : TolHOk Tryz.prog C 181 (insB Tryz.prog 77) := insB_ok (by_ := 48) insFld_walks (by kernel_rfl)
end Go.Proofs.YtnoahchdmkpleaaGreat.VA

/-! Ob1 -/
namespace Go.Proofs.YtnoahchdmkpleaaGreat.VA
open Go Go.RowKit
attribute [local go_sem] Nat.add_eq_left Nat.left_eq_add true_and and_true ite_true if_false Int.cast_ofNat_Int eq_self Nat.add_assoc Option.some.injEq decide_true decide_false Bool.not_true Bool.not_false List.size_toArray List.length_cons List.length_nil
set_option linter.unusedSimpArgs false
set_option linter.unusedVariables false
set_option maxRecDepth 100000

/-- The table for object.Join. -/
noncomputable def cfgJ : Cfg := mkC Tryz.prog [90, 177] [75, 138, 136, 176, 137, 179, 180, 181]
 [90, 75, 138]
 [(74, tClone), (88, toldBy Tryz.prog cfgU 88), (71, toldBy Tryz.prog cfgR 71), (178, tCmp)]
 [(181, insB Tryz.prog 77)]
theorem cfgJ_ok : CfgOk Tryz.prog Cond.none cfgJ := mkC_ok (by kernel_rfl) (by kernel_rfl) (by
 intro p hp
 simp only [List.mem_cons, List.not_mem_nil, or_false] at hp
 rcases hp with rfl | rfl | rfl | rfl
 ·exact tClone_ok _
 ·exact toldBy_ok cfgU_ok (fn := Tryz.f88) (by kernel_rfl) (by kernel_rfl) rfl
 ·exact toldBy_ok cfgR_ok (fn := Tryz.f71) (by kernel_rfl) (by kernel_rfl) rfl
 ·exact told_cmp) (by
 intro p hp
 simp only [List.mem_cons, List.not_mem_nil, or_false] at hp
 rcases hp with rfl
 exact insFld_ok _)
theorem c_find1 (f : Fd) (q : ByteArray) (H : Heap) : calls Tryz.prog cfgJ 177 [.agg (encF f), .lit (.string q)] H = some (.ret (.lit (.int .i64 (cmpB f.nm q))) H) := by
 refine calls_pure (fn := Tryz.f177) rfl rfl rfl rfl rfl ?_ H
 have rs : Tryz.f177.results.toList = [.tmp 4] := rfl
 have hc : ∀ H, calls Tryz.prog cfgJ 178 [.lit (.string f.nm), .lit (.string q)] H = some (.ret (.lit (.int .i64 (cmpB f.nm q))) H) := fun H => calls_told (h := tCmp) rfl rfl H
 unfold encF
 simp only [go_sem, simprocAttr, rs, hc]
@[go_sem] theorem und_uint : Tryz.prog.underlying 173 = some (.int .u64) := by kernel_rfl
theorem wrapU {n : Int} (h1 : 0 ≤ n) (h2 : n < 18446744073709551616) : IntKind.wrap .u64 n = n := by
 simp only [IntKind.wrap, IntKind.bits, IntKind.signed]
 simp
 omega
/-- Fields whose names rise. -/
def Srt (fs : List Fd) : Prop := fs.Pairwise fun x y => strLt x.nm y.nm = true
theorem Srt.lt {fs : List Fd} (h : Srt fs) {i j : Nat} (hij : i < j) (hj : j < fs.length) : strLt (fs[i]'(by omega)).nm fs[j].nm = true := List.pairwise_iff_getElem.1 h i j (by omega) hj hij
theorem c_bsF (fs : List Fd) (hs : Srt fs) (hl : fs.length ≤ LA) (q : ByteArray) (A : AV) (lo : Nat) (H0 : Heap) (hA : A = .sl .sh (fs.map encF) ∨ ArrS 3 H0 lo A (fs.map encF)) :
  ∃ v H', calls Tryz.prog cfgJ 176 [A, .lit (.string q), .fn 177 []] H0 = some (.ret v H') ∧
   (Frm H0 H' ∧ ∃ k : Nat, k ≤ fs.length ∧ v = .tup [.lit (.int .i64 (k : Nat)), .lit (.bool (decide (fs[k]?.map Fd.nm = some q)))] ∧ (fs.take k).all (fun f => strLt f.nm q) = true ∧ ∀ h : k < fs.length, strLt fs[k].nm q = false) := by
 refine calls_imp (fn := Tryz.f176) rfl rfl rfl rfl rfl ?_
 have rs : Tryz.f176.results.toList = [.tmp 6, .tmp 7] := rfl
 have hLA : LA = 1000000000000 := rfl
 have hln : lnn Tryz.prog 77 A = some (.lit (.int .i64 (fs.length : Nat))) := by
  rcases hA with rfl | h
  ·rw [lnn_sl (q := (85, 3, 48)) _ _ el_sFld, List.length_map]
  ·rw [h.lnn el_sFld, List.length_map]
 simp only [go_sem, simprocAttr, rs, hln]
 refine W_loop_ind (fun k e H => ∃ i j : Nat, k = j - i ∧ i ≤ j ∧ j ≤ fs.length ∧ (∀ t (h : t < fs.length), t < i → strLt fs[t].nm q = true) ∧ (∀ t (h : t < fs.length), j ≤ t → strLt fs[t].nm q = false) ∧ Frm H0 H ∧
   gget .bad e 0 = A ∧ gget .bad e 1 = .lit (.string q) ∧ gget .bad e 2 = .fn 177 [] ∧ gget .bad e 8 = .lit (.int .i64 (fs.length : Nat)) ∧ gget .bad e 9 = .lit (.int .i64 (i : Nat)) ∧ gget .bad e 10 = .lit (.int .i64 (j : Nat)))
  fs.length ⟨0, fs.length, by omega, by omega, Nat.le_refl _, fun t _ h => absurd h (by omega), fun t h h2 => absurd h (by omega), by repeat (first | exact Frm.refl _ | refine Frm.up ?_ _), by simp only [go_sem, simprocAttr], by simp only [go_sem, simprocAttr], by simp only [go_sem, simprocAttr], by simp only [go_sem, simprocAttr], by simp only [go_sem, simprocAttr], by simp only [go_sem, simprocAttr]⟩ ?_
 rintro k ih e H ⟨i, j, rfl, hij, hjl, hlo, hhi, hF, g0, g1, g2, g8, g9, g10⟩
 have hnx := hF.nx
 have w1 := wrapI (n := (i : Int) + (j : Int)) ⟨by omega, by omega⟩
 have u1 : IntKind.u64.wrap ((i : Int) + (j : Int)) = (i : Int) + (j : Int) := VA.wrapU (by omega) (by omega)
 obtain ⟨h, hh⟩ : ∃ h, h = (i + j) / 2 := ⟨_, rfl⟩
 have f2 : Int.fdiv ((i : Int) + (j : Int)) 2 = (h : Nat) := by
  rw [Int.fdiv_eq_ediv_of_nonneg _ (by decide)]
  omega
 have w3 := wrapI (n := ((h : Nat) : Int)) ⟨by omega, by omega⟩
 have hw1 := wrap1 (show h + 1 ≤ 9223372036854775807 by omega)
 by_cases hl : i < j
 ·have d1 : decide ((i : Int) < (j : Nat)) = true := by simp; omega
  have hhl : h < fs.length := by omega
  have hgt : strLt fs[h].nm q = true → ∀ t (ht : t < fs.length), t < h + 1 → strLt fs[t].nm q = true := fun hc t ht hth => by
   by_cases hte : t = h
   ·subst hte; exact hc
   ·exact sl_trans (hs.lt (show t < h by omega) hhl) hc
  have hge : strLt fs[h].nm q = false → ∀ t (ht : t < fs.length), h ≤ t → strLt fs[t].nm q = false := fun hc t ht hth => by
   by_cases hte : h = t
   ·subst hte; exact hc
   ·cases hx : strLt fs[t].nm q with
    | false => rfl
    | true => rw [sl_trans (hs.lt (show h < t by omega) ht) hx] at hc; cases hc
  have hc1 := fun H => c_find1 fs[h] q H
  have i1 : cfgJ.imp 177 = false := rfl
  have e1 := F_one fs[h]
  have e2 : (encF fs[h]).length = 3 := rfl
  have e3 : (encF fs[h]).take 3 = encF fs[h] := rfl
  rcases hA with rfl | hA
  ·have ha := iad_map (f := encF) (t := 85) (n := 3) (b := 48) (o := .sh) (l := fs) hhl (fun _ => rfl)
   cases hx : strLt fs[h].nm q with
   | true =>
    have dc : decide (cmpB fs[h].nm q < 0) = true := by rw [cmpB_lt]; exact hx
    simp only [go_sem, simprocAttr, g0, g1, g2, g8, g9, g10, d1, w1, u1, f2, w3, e1, e2, e3, hc1, i1, dc, hw1, ha]
    exact ih (j - (h + 1)) (by omega) _ _ ⟨h + 1, j, rfl, by omega, hjl, hgt hx, hhi, by repeat (first | exact hF | refine Frm.up ?_ _), by simp only [go_sem, simprocAttr, g0], by simp only [go_sem, simprocAttr, g1], by simp only [go_sem, simprocAttr, g2], by simp only [go_sem, simprocAttr, g8], by simp only [go_sem, simprocAttr], by simp only [go_sem, simprocAttr, g10]⟩
   | false =>
    have dc : decide (cmpB fs[h].nm q < 0) = false := by rw [cmpB_lt]; exact hx
    simp only [go_sem, simprocAttr, g0, g1, g2, g8, g9, g10, d1, w1, u1, f2, w3, e1, e2, e3, hc1, i1, dc, ha]
    exact ih (h - i) (by omega) _ _ ⟨i, h, rfl, by omega, by omega, hlo, hge hx, by repeat (first | exact hF | refine Frm.up ?_ _), by simp only [go_sem, simprocAttr, g0], by simp only [go_sem, simprocAttr, g1], by simp only [go_sem, simprocAttr, g2], by simp only [go_sem, simprocAttr, g8], by simp only [go_sem, simprocAttr, g9], by simp only [go_sem, simprocAttr]⟩
  ·rcases hA with ⟨rfl, he⟩ | ⟨r, z, rfl, hg, hlr, hr, hzu, hzo⟩
   ·have hv0 : fs = [] := List.map_eq_nil_iff.1 he
    subst hv0; simp at hhl
   ·have hrl : (fs.map encF).length = fs.length := List.length_map ..
    rw [hrl] at g0
    simp only [hrl] at ih
    have hul := (F_unif fs).append hzu
    have hgr : H.get r = some ((fs.map encF ++ z).flatten) := by rw [hF.get hr]; exact hg
    have ha := iad_ar (t := 85) (b := 48) (r := r) (a := 0) (sz := 3) (m := fs.length) hhl
    rw [Nat.zero_add] at ha
    have hst := flat_rowS hul (i := h) (by simp; omega)
    have hat := flat_at hul (i := h) (x := encF fs[h]) (by rw [List.getElem?_append_left (by simpa using hhl)]; simp [hhl])
    cases hx : strLt fs[h].nm q with
    | true =>
     have dc : decide (cmpB fs[h].nm q < 0) = true := by rw [cmpB_lt]; exact hx
     simp only [go_sem, simprocAttr, g0, g1, g2, g8, g9, g10, d1, w1, u1, f2, w3, e1, e2, e3, hc1, i1, dc, hw1, ha, hgr, hst, hat]
     exact ih (j - (h + 1)) (by omega) _ _ ⟨h + 1, j, rfl, by omega, hjl, hgt hx, hhi, by repeat (first | exact hF | refine Frm.up ?_ _), by simp only [go_sem, simprocAttr, g0], by simp only [go_sem, simprocAttr, g1], by simp only [go_sem, simprocAttr, g2], by simp only [go_sem, simprocAttr, g8], by simp only [go_sem, simprocAttr], by simp only [go_sem, simprocAttr, g10]⟩
    | false =>
     have dc : decide (cmpB fs[h].nm q < 0) = false := by rw [cmpB_lt]; exact hx
     simp only [go_sem, simprocAttr, g0, g1, g2, g8, g9, g10, d1, w1, u1, f2, w3, e1, e2, e3, hc1, i1, dc, ha, hgr, hst, hat]
     exact ih (h - i) (by omega) _ _ ⟨i, h, rfl, by omega, by omega, hlo, hge hx, by repeat (first | exact hF | refine Frm.up ?_ _), by simp only [go_sem, simprocAttr, g0], by simp only [go_sem, simprocAttr, g1], by simp only [go_sem, simprocAttr, g2], by simp only [go_sem, simprocAttr, g8], by simp only [go_sem, simprocAttr, g9], by simp only [go_sem, simprocAttr]⟩
 ·have d1 : decide ((i : Int) < (j : Nat)) = false := by simp; omega
  have hie : i = j := by omega
  subst hie
  have hall : (fs.take i).all (fun f => strLt f.nm q) = true := by
   rw [List.all_eq_true]
   intro x hx
   obtain ⟨t, ht, rfl⟩ := List.mem_iff_getElem.1 hx
   rw [List.length_take] at ht
   rw [List.getElem_take]
   exact hlo t (by omega) (by omega)
  by_cases hil : i < fs.length
  ·have d2 : decide ((i : Int) < (fs.length : Nat)) = true := by simp; omega
   have hc1 := fun H => c_find1 fs[i] q H
   have i1 : cfgJ.imp 177 = false := rfl
   have e1 := F_one fs[i]
   have e2 : (encF fs[i]).length = 3 := rfl
   have e3 : (encF fs[i]).take 3 = encF fs[i] := rfl
   have hrr : decide (cmpB fs[i].nm q = 0) = decide (fs[i]?.map Fd.nm = some q) := by
    rw [cmpB_eq, List.getElem?_eq_getElem hil]; simp
   rcases hA with rfl | hA
   ·have ha := iad_map (f := encF) (t := 85) (n := 3) (b := 48) (o := .sh) (l := fs) hil (fun _ => rfl)
    simp only [go_sem, simprocAttr, rs, g0, g1, g2, g8, g9, g10, d1, d2, e1, e2, e3, hc1, i1, hrr, ha]
    exact ⟨_, rfl, by repeat (first | exact hF | refine Frm.up ?_ _), i, hjl, rfl, hall, fun h => hhi i h (Nat.le_refl _)⟩
   ·rcases hA with ⟨rfl, he⟩ | ⟨r, z, rfl, hg, hlr, hr, hzu, hzo⟩
    ·have hv0 : fs = [] := List.map_eq_nil_iff.1 he
     subst hv0; simp at hil
    ·have hrl : (fs.map encF).length = fs.length := List.length_map ..
     rw [hrl] at g0
     simp only [hrl] at ih
     have hul := (F_unif fs).append hzu
     have hgr : H.get r = some ((fs.map encF ++ z).flatten) := by rw [hF.get hr]; exact hg
     have ha := iad_ar (t := 85) (b := 48) (r := r) (a := 0) (sz := 3) (m := fs.length) hil
     rw [Nat.zero_add] at ha
     have hst := flat_rowS hul (i := i) (by simp; omega)
     have hat := flat_at hul (i := i) (x := encF fs[i]) (by rw [List.getElem?_append_left (by simpa using hil)]; simp [hil])
     simp only [go_sem, simprocAttr, rs, g0, g1, g2, g8, g9, g10, d1, d2, e1, e2, e3, hc1, i1, hrr, ha, hgr, hst, hat]
     exact ⟨_, rfl, by repeat (first | exact hF | refine Frm.up ?_ _), i, hjl, rfl, hall, fun h => hhi i h (Nat.le_refl _)⟩
  ·have d2 : decide ((i : Int) < (fs.length : Nat)) = false := by simp; omega
   have hr : decide (fs[i]?.map Fd.nm = some q) = false := by rw [List.getElem?_eq_none (by omega)]; rfl
   simp only [go_sem, simprocAttr, rs, g0, g1, g2, g8, g9, g10, d1, d2]
   exact ⟨_, rfl, by repeat (first | exact hF | refine Frm.up ?_ _), i, hjl, by rw [hr]; rfl, hall, fun h => absurd h hil⟩
theorem c_findF (fs : List Fd) (hs : Srt fs) (hl : fs.length ≤ LA) (q : ByteArray) (A : AV) (lo : Nat) (H0 : Heap) (hA : A = .sl .sh (fs.map encF) ∨ ArrS 3 H0 lo A (fs.map encF)) :
  ∃ v H', calls Tryz.prog cfgJ 136 [A, .lit (.string q)] H0 = some (.ret v H') ∧
   (Frm H0 H' ∧ ∃ k : Nat, k ≤ fs.length ∧ v = .tup [.lit (.int .i64 (k : Nat)), .lit (.bool (decide (fs[k]?.map Fd.nm = some q)))] ∧ (fs.take k).all (fun f => strLt f.nm q) = true ∧ ∀ h : k < fs.length, strLt fs[k].nm q = false) := by
 refine calls_imp (fn := Tryz.f136) rfl rfl rfl rfl rfl ?_
 have rs : Tryz.f136.results.toList = [.tmp 4, .tmp 5] := rfl
 simp only [go_sem, simprocAttr, rs]
 refine goC_ex (c_bsF fs hs hl q A lo _ (hA.elim .inl fun h => .inr (by repeat (first | exact h | refine ArrS.up ?_ _)))) ?_
 rintro v H1 ⟨hF, k, hk, rfl, hall, hx⟩
 simp only [go_sem, simprocAttr, rs]
 exact ⟨_, rfl, by repeat (first | exact (by repeat (first | exact Frm.refl _ | refine Frm.up ?_ _) : Frm H0 _).trans hF | refine Frm.up ?_ _), k, hk, rfl, hall, hx⟩
end Go.Proofs.YtnoahchdmkpleaaGreat.VA

/-! Ob2 -/
namespace Go.Proofs.YtnoahchdmkpleaaGreat.VA
open Go Go.RowKit
attribute [local go_sem] Nat.add_eq_left Nat.left_eq_add true_and and_true ite_true if_false Int.cast_ofNat_Int eq_self Nat.add_assoc Option.some.injEq decide_true decide_false Bool.not_true Bool.not_false List.size_toArray List.length_cons List.length_nil
set_option linter.unusedSimpArgs false
set_option linter.unusedVariables false
set_option maxRecDepth 100000

theorem c_get1 (x : Fd) (q : ByteArray) (p : Nat) (H : Heap) (hp : H.get p = some [.lit (.string q)]) (hlt : p < H.next) : ∃ v H', calls Tryz.prog cfgJ 180 [.agg (encF x), .ptr p 0] H = some (.ret v H') ∧
  (v = .lit (.bool (decide (x.nm = q))) ∧ Frm H H') := by
 refine calls_imp (fn := Tryz.f180) rfl rfl rfl rfl rfl ?_
 have rs : Tryz.f180.results.toList = [.tmp 3] := rfl
 obtain ⟨m, hm⟩ : ∃ m, H.next = m := ⟨_, rfl⟩
 have n0 : ∀ j, ¬ m + j = p := fun j => by omega
 unfold encF
 simp only [go_sem, simprocAttr, rs, hp, hm, n0]
 exact ⟨_, rfl, rfl, by repeat (first | exact Frm.refl _ | refine Frm.up ?_ _ | refine Frm.put ?_ _ (by omega))⟩
theorem c_idxF (fs : List Fd) (q : ByteArray) (p : Nat) (A : AV) (lo : Nat) (H0 : Heap) (hA : ArrS 3 H0 lo A (fs.map encF)) (hp : H0.get p = some [.lit (.string q)]) (hlt : p < H0.next) (hvl : fs.length ≤ LA) :
  ∃ v H', calls Tryz.prog cfgJ 179 [A, .fn 180 [.ptr p 0]] H0 = some (.ret v H') ∧
   (Frm H0 H' ∧ ((v = .lit (.int .i64 (-1)) ∧ fs.all (fun b => !decide (b.nm = q)) = true) ∨ ∃ (i : Nat) (h : i < fs.length), v = .lit (.int .i64 (i : Nat)) ∧ (fs.take i).all (fun b => !decide (b.nm = q)) = true ∧ fs[i].nm = q)) := by
 refine calls_imp (fn := Tryz.f179) rfl rfl rfl rfl rfl ?_
 have rs : Tryz.f179.results.toList = [.tmp 4] := rfl
 have hln := hA.lnn el_sFld
 rw [List.length_map] at hln
 simp only [go_sem, simprocAttr, rs, hln]
 refine W_loop_ind (fun k e H => ∃ i : Nat, k = fs.length - i ∧ i ≤ fs.length ∧ (fs.take i).all (fun b => !decide (b.nm = q)) = true ∧ Frm H0 H ∧ gget .bad e 0 = A ∧ gget .bad e 1 = .fn 180 [.ptr p 0] ∧ gget .bad e 7 = .lit (.int .i64 (fs.length : Nat)) ∧ gget .bad e 8 = .lit (.int .i64 (i : Nat)))
  fs.length ⟨0, rfl, by omega, rfl, by repeat (first | exact Frm.refl _ | refine Frm.up ?_ _), by simp only [go_sem, simprocAttr], by simp only [go_sem, simprocAttr], by simp only [go_sem, simprocAttr], by simp only [go_sem, simprocAttr]⟩ ?_
 rintro k ih e H ⟨i, rfl, hle, hR, hF, g0, g1, g7, g8⟩
 by_cases hl : i < fs.length
 ·rcases hA with ⟨rfl, he⟩ | ⟨r, z, rfl, hg, hlr, hr, hzu, hzo⟩
  ·have hv0 : fs = [] := List.map_eq_nil_iff.1 he
   subst hv0; simp at hl
  ·have hrl : (fs.map encF).length = fs.length := List.length_map ..
   rw [hrl] at g0
   simp only [hrl] at ih
   have hul := (F_unif fs).append hzu
   have d1 : decide ((i : Int) < (fs.length : Nat)) = true := by simp; omega
   have ha := iad_ar (t := 85) (b := 48) (r := r) (a := 0) (sz := 3) (m := fs.length) hl
   rw [Nat.zero_add] at ha
   have hw1 := wrap1 (show i + 1 ≤ 9223372036854775807 by unfold LA at hvl; omega)
   have hgr : H.get r = some ((fs.map encF ++ z).flatten) := by rw [hF.get hr]; exact hg
   have hgp : H.get p = some [.lit (.string q)] := by rw [hF.get hlt]; exact hp
   have hst := flat_rowS hul (i := i) (by simp; omega)
   have hat := flat_at hul (i := i) (x := encF fs[i]) (by rw [List.getElem?_append_left (by simpa using hl)]; simp [hl])
   have hnx := hF.nx
   simp only [go_sem, simprocAttr, g0, g1, g7, g8, d1, ha, hgr, hst, hat]
   refine goC_ex (c_get1 fs[i] q p _ (by simp only [go_sem, simprocAttr, hgp]) (by simp only [go_sem, simprocAttr]; omega)) ?_
   rintro v H1 ⟨rfl, hF1⟩
   have hF2 : Frm H0 H1 := (by repeat (first | exact hF | refine Frm.up ?_ _) : Frm H0 _).trans hF1
   by_cases hx : fs[i].nm = q
   ·have dx : decide (fs[i].nm = q) = true := by simpa using hx
    simp only [go_sem, simprocAttr, g0, g1, g7, g8, rs, dx]
    exact ⟨_, rfl, by repeat (first | exact hF2 | refine Frm.up ?_ _), .inr ⟨i, hl, rfl, hR, hx⟩⟩
   ·have dx : decide (fs[i].nm = q) = false := by simpa using hx
    simp only [go_sem, simprocAttr, g0, g1, g7, g8, hw1, dx]
    exact ih (fs.length - (i + 1)) (by omega) _ _ ⟨i + 1, rfl, by omega, by rw [List.take_succ_eq_append_getElem hl, List.all_append, hR]; simp [hx], by repeat (first | exact hF2 | refine Frm.up ?_ _), by simp only [go_sem, simprocAttr, g0], by simp only [go_sem, simprocAttr, g1], by simp only [go_sem, simprocAttr, g7], by simp only [go_sem, simprocAttr]⟩
 ·have d1 : decide ((i : Int) < (fs.length : Nat)) = false := by simp; omega
  rw [List.take_of_length_le (by omega)] at hR
  simp only [go_sem, simprocAttr, g0, g1, g7, g8, d1, rs]
  exact ⟨_, rfl, by repeat (first | exact hF | refine Frm.up ?_ _), .inl ⟨rfl, hR⟩⟩
theorem getF_none {q : ByteArray} {fs : List Fd} (h : fs.all (fun b => !decide (b.nm = q)) = true) : getF q fs = none := by
 unfold getF getG
 rw [List.find?_eq_none]
 intro x hx
 have := List.all_eq_true.1 h x hx
 simpa using this
theorem getF_some {q : ByteArray} {fs : List Fd} {i : Nat} (hi : i < fs.length) (h : (fs.take i).all (fun b => !decide (b.nm = q)) = true) (hx : fs[i].nm = q) : getF q fs = some fs[i] := by
 unfold getF getG
 rw [List.find?_eq_some_iff_getElem]
 refine ⟨by simpa using hx, i, hi, rfl, fun j hj => ?_⟩
 have := List.all_eq_true.1 h fs[j] (by rw [List.mem_take_iff_getElem]; exact ⟨j, by omega, rfl⟩)
 exact this
theorem c_Get (fs : List Fd) (q : ByteArray) (A B : AV) (lo : Nat) (H0 : Heap) (hA : ArrS 3 H0 lo A (fs.map encF)) (hB : B.one = true) (hvl : fs.length ≤ LA) (hv : ∀ f, getF q fs = some f → FOk f) :
  ∃ v H', calls Tryz.prog cfgJ 137 [.agg [A, B], .lit (.string q)] H0 = some (.ret v H') ∧
   (Frm H0 H' ∧ v = .tup [.agg (encF ((getF q fs).getD fdZ)), .lit (.bool (getF q fs).isSome)]) := by
 refine calls_imp (fn := Tryz.f137) rfl rfl rfl rfl rfl ?_
 have rs : Tryz.f137.results.toList = [.cell 4 85, .tmp 5] := rfl
 generalize hN : H0.next = N
 have z1 : ¬ N + 1 = N := by omega
 have z2 : ¬ N + 2 = N := by omega
 have z3 : ¬ N + 2 = N + 1 := by omega
 have hA1 := hA.one
 have hno : ∀ j, arrNo A (N + j) := fun j => hA.no' (by omega)
 simp only [go_sem, simprocAttr, rs, hN, Nat.add_zero, z1, z2, z3, hA1, hB]
 refine goC_ex (c_idxF fs q (N + 1) A lo _ (hA.of (by simp only [go_sem, simprocAttr]; omega) (fun k h1 h2 h3 => by
  have a1 : ¬ N = k := by omega
  have a2 : ¬ N + 1 = k := by omega
  have a3 : ¬ N + 2 = k := by omega
  simp only [go_sem, simprocAttr, a1, a2, a3])) (by simp only [go_sem, simprocAttr, z3]) (by simp only [go_sem, simprocAttr]; omega) hvl) ?_
 rintro v K ⟨hF1, hv1⟩
 have kN : K.get N = some [A, B] := by rw [hF1.get (by simp only [go_sem, simprocAttr]; omega)]; simp only [go_sem, simprocAttr, z1, z2]
 have kN2 : K.get (N + 2) = some [.lit (.string ⟨#[]⟩), .lit (.bool false), .sl .nil []] := by rw [hF1.get (by simp only [go_sem, simprocAttr]; omega)]; simp only [go_sem, simprocAttr]
 have knx := hF1.nx
 simp only [go_sem, simprocAttr] at knx
 have hF2 : Frm H0 K := (by repeat (first | exact Frm.refl _ | refine Frm.up ?_ _ | refine Frm.put ?_ _ (by omega)) : Frm H0 _).trans hF1
 obtain ⟨m, hm⟩ : ∃ m, K.next = m := ⟨_, rfl⟩
 have n0 : ∀ j, ¬ m + j = N := fun j => by omega
 rcases hv1 with ⟨rfl, hall⟩ | ⟨i, hi, rfl, hall, hx⟩
 ·have d1 : decide ((-1 : Int) < 0) = true := rfl
  have hg := getF_none hall
  rw [hg]
  simp only [go_sem, simprocAttr, rs, d1, kN, kN2, hm]
  exact ⟨_, rfl, by repeat (first | exact hF2 | refine Frm.up ?_ _ | refine Frm.put ?_ _ (by omega)), rfl⟩
 ·have d1 : decide ((i : Int) < 0) = false := by simp
  have hg := getF_some hi hall hx
  rw [hg]
  rcases hA with ⟨rfl, he⟩ | ⟨r, z, rfl, hgz, hlr, hr, hzu, hzo⟩
  ·have hv0 : fs = [] := List.map_eq_nil_iff.1 he
   subst hv0; simp at hi
  ·have hrl : (fs.map encF).length = fs.length := List.length_map ..
   rw [hrl] at kN
   have hul := (F_unif fs).append hzu
   have ha := iad_ar (t := 85) (b := 48) (r := r) (a := 0) (sz := 3) (m := fs.length) hi
   rw [Nat.zero_add] at ha
   have hgr : K.get r = some ((fs.map encF ++ z).flatten) := by rw [hF2.get (by omega)]; exact hgz
   have hst := flat_rowS hul (i := i) (by simp; omega)
   have hat := flat_at hul (i := i) (x := [.lit (.string fs[i].nm), .lit (.bool fs[i].sure), .sl .sh (encAs fs[i].vals)]) (by rw [List.getElem?_append_left (by simpa using hi)]; simp [hi, encF])
   have hFk := hv fs[i] (getF_some hi hall hx)
   have hcl := fun H => tClone_atm (c := cfgJ) rfl fs[i].vals (by unfold FOk at hFk; omega) .sh H
   simp only [go_sem, simprocAttr, rs, d1, kN, kN2, hm, ha, hgr, hst, hat, hcl, n0]
   exact ⟨_, rfl, by repeat (first | exact hF2 | refine Frm.up ?_ _ | refine Frm.put ?_ _ (by omega)), by simp only [oneOr, san, sanL, sanLL_encAs]; rfl⟩
end Go.Proofs.YtnoahchdmkpleaaGreat.VA

/-! Ob3 -/
namespace Go.Proofs.YtnoahchdmkpleaaGreat.VA
open Go Go.RowKit
attribute [local go_sem] Nat.add_eq_left Nat.left_eq_add true_and and_true ite_true if_false Int.cast_ofNat_Int eq_self Nat.add_assoc Option.some.injEq decide_true decide_false Bool.not_true Bool.not_false List.size_toArray List.length_cons List.length_nil
set_option linter.unusedSimpArgs false
set_option linter.unusedVariables false
set_option maxRecDepth 100000

theorem UpF.srt {fs : List Fd} (h : UpF fs) : Srt fs := h
theorem bs1_fld (f : Fd) : aBuildSlice Tryz.prog 77 1 [(0, .agg (encF f))] = some (.sl .ex [encF f]) := build1 el_sFld (by decide) zr_fld rfl rfl _ rfl rfl
theorem c_putF (fs : List Fd) (f : Fd) (A B : AV) (lo : Nat) (H0 : Heap) (hA : ArrS 3 H0 lo A (fs.map encF)) (hlo : lo ≤ H0.next) (hB : B.one = true) (hu : UpF fs) (hvl : fs.length + 1 ≤ LA) :
  ∃ v H', calls Tryz.prog cfgJ 138 [.agg [A, B], .agg (encF f)] H0 = some (.ret v H') ∧
   (∃ A', v = .agg [A', B] ∧ ArrS 3 H' lo A' ((putF f fs).map encF) ∧ Chg H0 H' A A') := by
 refine calls_arr (fn := Tryz.f138) rfl rfl rfl rfl rfl ?_
 have rs : Tryz.f138.results.toList = [.cell 4 79] := rfl
 generalize hN : H0.next = N
 rw [hN] at hlo
 have z1 : ¬ N + 1 = N := by omega
 have z2 : ¬ N + 2 = N := by omega
 have z3 : ¬ N + 2 = N + 1 := by omega
 have hA1 := hA.one
 have f1 := F_one f
 have f2 : (encF f).length = 3 := rfl
 have f3 : (encF f).take 3 = encF f := rfl
 have f4 : (encF f)[0]? = some (.lit (.string f.nm)) := rfl
 simp only [go_sem, simprocAttr, rs, hN, Nat.add_zero, z1, z2, z3, hA1, hB, f1, f2, f3, f4]
 refine goC_ex (c_findF fs hu.srt (by omega) f.nm A lo _ (.inr (hA.of (by simp only [go_sem, simprocAttr]; omega) (fun k h1 h2 h3 => by
  have a1 : ¬ N = k := by omega
  have a2 : ¬ N + 1 = k := by omega
  have a3 : ¬ N + 2 = k := by omega
  simp only [go_sem, simprocAttr, a1, a2, a3])))) ?_
 rintro v K ⟨hF1, k, hk, rfl, hall, hx⟩
 have kN : K.get N = some [A, B] := by rw [hF1.get (by simp only [go_sem, simprocAttr]; omega)]; simp only [go_sem, simprocAttr, z1, z2]
 have kN1 : K.get (N + 1) = some (encF f) := by rw [hF1.get (by simp only [go_sem, simprocAttr]; omega)]; simp only [go_sem, simprocAttr, z3]
 have kN2 : K.get (N + 2) = some [.sl .nil [], .sl .nil []] := by rw [hF1.get (by simp only [go_sem, simprocAttr]; omega)]; simp only [go_sem, simprocAttr]
 have knx := hF1.nx
 simp only [go_sem, simprocAttr] at knx
 have hF2 : Frm H0 K := (by repeat (first | exact Frm.refl _ | refine Frm.up ?_ _ | refine Frm.put ?_ _ (by omega)) : Frm H0 _).trans hF1
 have hKA : ArrS 3 K lo A (fs.map encF) := hA.of hF2.nx (fun j h1 h2 h3 => hF2.get h2)
 obtain ⟨m, hm⟩ : ∃ m, K.next = m := ⟨_, rfl⟩
 have n0 : ∀ j, ¬ m + j = N := fun j => by omega
 have hpt := putG_at (key := Fd.nm) (lt := strLt) (x := f) hk hall hx
 have nA : ∀ j, N ≤ j → arrNo A j := fun j hj => hA.no' (by omega)
 by_cases hq : fs[k]?.map Fd.nm = some f.nm
 ·have dq : decide (fs[k]?.map Fd.nm = some f.nm) = true := by simpa using hq
  have hkl : k < fs.length := by
   apply Classical.byContradiction
   intro hh
   rw [List.getElem?_eq_none (by omega)] at hq
   cases hq
  have hkn : fs[k].nm = f.nm := by rw [List.getElem?_eq_getElem hkl] at hq; simpa using hq
  rw [List.getElem?_eq_getElem hkl] at hpt
  simp only [hkn, if_true] at hpt
  rcases hKA with ⟨rfl, he⟩ | ⟨r, z, rfl, hg, hlr, hr, hzu, hzo⟩
  ·have hv0 : fs = [] := List.map_eq_nil_iff.1 he
   subst hv0; simp at hkl
  ·have hrl : (fs.map encF).length = fs.length := List.length_map ..
   rw [hrl] at kN
   have rN : r ≠ N := nA N (Nat.le_refl _)
   have rN1 : r ≠ N + 1 := nA (N + 1) (by omega)
   have rN2 : r ≠ N + 2 := nA (N + 2) (by omega)
   have hul := (F_unif fs).append hzu
   have ha := iad_ar (t := 85) (b := 48) (r := r) (a := 0) (sz := 3) (m := fs.length) hkl
   rw [Nat.zero_add] at ha
   have hst := flat_rowS hul (i := k) (by simp; omega)
   have hset := flat_set hul (i := k) (x := encF f) (by simp; omega)
   simp only [go_sem, simprocAttr, rs, dq, kN, kN1, kN2, hm, f1, f2, f3, f4, ha, hg, hst, rN, rN2, hB]
   have hes : (putF f fs).map encF = (fs.map encF).set k (encF f) := by
    rw [show putF f fs = _ from hpt, List.set_eq_take_append_cons_drop, if_pos (by rw [hrl]; exact hkl)]
    simp [List.map_take, List.map_drop]
   have hbx : (fs.map encF ++ z).flatten.take (k * 3) ++ (encF f ++ (fs.map encF ++ z).flatten.drop (k * 3 + 3)) = ((putF f fs).map encF ++ z).flatten := by
    rw [hset, hes, List.set_append_left _ _ (by rw [hrl]; exact hkl)]
   rw [hbx]
   have hln : ((putF f fs).map encF).length = fs.length := by rw [hes, List.length_set, hrl]
   refine ⟨_, rfl, _, rfl, .inr ⟨r, z, by rw [hln], ?_, hlr, by simp only [go_sem, simprocAttr]; omega, hzu, hzo⟩, ?_⟩
   ·have rN2' : ¬ N + 2 = r := fun e => rN2 e.symm
    simp only [go_sem, simprocAttr, rN2']
   ·have hC0 : Chg H0 ((K.up 1).up 6) (.ar r 0 (fs.map encF).length 3) (.ar r 0 (fs.map encF).length 3) := Chg.frm (by repeat (first | exact hF2 | refine Frm.up ?_ _))
    exact ((hC0.wr _).up 2).put _ (by omega)
 ·have dq : decide (fs[k]?.map Fd.nm = some f.nm) = false := by simpa using hq
  have hpt2 : putF f fs = fs.take k ++ [f] ++ fs.drop k := by
   refine hpt.trans ?_
   by_cases hkl : k < fs.length
   ·rw [List.getElem?_eq_getElem hkl] at hq ⊢
    have : ¬ fs[k].nm = f.nm := by simpa using hq
    simp only [if_neg this]
   ·rw [List.getElem?_eq_none (by omega), List.drop_of_length_le (l := fs) (i := k) (by omega)]
  simp only [go_sem, simprocAttr, rs, dq, kN, kN1, kN2, hm, f1, f2, f3, f4, bs1_fld]
  refine goC_ex (ins_arr (c := cfgJ) (f := 181) (t := 77) rfl rfl rfl el_sFld (by decide) zo_sFld rfl (by decide) (A := A) (lo := lo) (es := fs.map encF) (k := k) (x := encF f) (by repeat (first | exact hKA | refine ArrS.up ?_ _)) (by simp only [go_sem, simprocAttr]; omega) (F_unif fs) (F_ones fs) (by rw [List.length_map]; exact hk) (by rw [List.length_map]; exact hvl) rfl rfl) ?_
  rintro v K2 ⟨hP, hC⟩
  have nx2 := hC.nx
  simp only [go_sem, simprocAttr] at nx2
  have k2N : K2.get N = some [A, B] := by rw [hC.get (by simp only [go_sem, simprocAttr]; omega) (nA N (Nat.le_refl _))]; exact kN
  have k2N2 : K2.get (N + 2) = some [.sl .nil [], .sl .nil []] := by rw [hC.get (by simp only [go_sem, simprocAttr]; omega) (nA (N + 2) (by omega))]; exact kN2
  have v0 := (hC.ho N (by simp only [go_sem, simprocAttr]; omega) (nA N (Nat.le_refl _))).2
  have v2 := (hC.ho (N + 2) (by simp only [go_sem, simprocAttr]; omega) (nA (N + 2) (by omega))).2
  have z0 : ¬ N = N + 2 := by omega
  have hv1 := hP.one
  have hvc := cells_of_oneS hv1
  have hvo : [v].all AV.one = true := by rw [List.all_cons, hv1]; rfl
  simp only [go_sem, simprocAttr, rs, k2N, k2N2, hv1, hB, z0, hvc, hvo]
  have hes : (putF f fs).map encF = (fs.map encF).take k ++ [encF f] ++ (fs.map encF).drop k := by rw [hpt2]; simp [List.map_take, List.map_drop]
  refine ⟨_, rfl, v, rfl, by rw [hes]; exact ((hP.put _ v0).up 2).put _ v2, ?_⟩
  have hC0 : Chg H0 K2 A v := Chg.trans (Chg.frm (by repeat (first | exact hF2 | refine Frm.up ?_ _))) hC
  exact ((hC0.put _ (by omega)).up 2).put _ (by omega)
end Go.Proofs.YtnoahchdmkpleaaGreat.VA

/-! Ob4 -/
namespace Go.Proofs.YtnoahchdmkpleaaGreat.VA
open Go Go.RowKit
attribute [local go_sem] Nat.add_eq_left Nat.left_eq_add true_and and_true ite_true if_false Int.cast_ofNat_Int eq_self Nat.add_assoc Option.some.injEq decide_true decide_false Bool.not_true Bool.not_false List.size_toArray List.length_cons List.length_nil
set_option linter.unusedSimpArgs false
set_option linter.unusedVariables false
set_option maxRecDepth 100000

theorem c_objCopyA (s : Sh) (hs : ShOk s) (H0 : Heap) : ∃ v H', calls Tryz.prog cfgJ 75 [.agg (encSh s)] H0 = some (.ret v H') ∧ (Frm H0 H' ∧ ∃ A, v = .agg [A, .sl .sh (encAs s.proto)] ∧ ArrS 3 H' H0.next A (s.fields.map encF)) := by
 refine calls_arr (fn := Tryz.f75) rfl rfl rfl rfl rfl ?_
 have rs : Tryz.f75.results.toList = [.cell 2 79] := rfl
 obtain ⟨fs, pr⟩ := s
 obtain ⟨hf, hfl, hpl⟩ := hs
 simp only at hf hfl hpl
 have hcp : ∀ H, calls Tryz.prog cfgJ 74 [.sl .sh (encAs pr)] H = some (.ret (.sl .sh (encAs pr)) H) := tClone_atm rfl pr (by omega) .sh
 generalize hN : H0.next = N
 have z1 : ¬ N + 1 = N := by omega
 have z6 : ¬ N + 6 = N := by omega
 have z61 : ¬ N + 6 = N + 1 := by omega
 have z16 : ¬ N + 1 = N + 6 := by omega
 unfold encSh
 simp only [go_sem, simprocAttr, rs, hN, Nat.add_zero, z1, z6, z61, hcp, List.length_map]
 refine W_loop_ind (fun k e H => ∃ (i : Nat) (A : AV), k = fs.length - i ∧ i ≤ fs.length ∧ Frm H0 H ∧ gget .bad e 2 = .ptr (N + 1) 0 ∧ gget .bad e 3 = .ptr (N + 6) 0 ∧ gget .bad e 11 = .sl .sh (fs.map encF) ∧ gget .bad e 12 = .lit (.int .i64 (fs.length : Nat)) ∧ gget .bad e 13 = .lit (.int .i64 (i : Nat)) ∧
   H.get (N + 1) = some [.sl .nil [], .sl .nil []] ∧ H.get (N + 6) = some [A, .sl .sh (encAs pr)] ∧ ArrOf H (N + 8) A 3 ((fs.take i).map encF) ∧ N + 8 ≤ H.next)
  fs.length ⟨0, .sl .nil [], rfl, by omega, by repeat (first | exact Frm.refl _ | refine Frm.up ?_ _ | refine Frm.put ?_ _ (by omega)), by simp only [go_sem, simprocAttr], by simp only [go_sem, simprocAttr], by simp only [go_sem, simprocAttr], by simp only [go_sem, simprocAttr], by simp only [go_sem, simprocAttr], by simp only [go_sem, simprocAttr, z16], by simp only [go_sem, simprocAttr], .inl ⟨rfl, by simp⟩, by simp only [go_sem, simprocAttr]; omega⟩ ?_
 rintro k ih e H ⟨i, A, rfl, hle, hF, g2, g3, g11, g12, g13, h1, h6, hA, hnx⟩
 obtain ⟨m, hm⟩ : ∃ m, H.next = m + 8 := ⟨H.next - 8, by omega⟩
 have hmN : N ≤ m := by omega
 have hNm : ¬ N = m + 16 := by omega
 by_cases hlt : i < fs.length
 ·have d1 : decide ((i : Int) < (fs.length : Nat)) = true := by simp; omega
  have hw := wrap1 (show i + 1 ≤ 9223372036854775807 by unfold LA at hfl; omega)
  have hI := iad_map (f := encF) (t := 85) (n := 3) (b := 48) (o := .sh) hlt (fun _ => rfl)
  have hfo := hf fs[i] (List.getElem_mem hlt)
  have htk : (fs.take (i + 1)).map encF = (fs.take i).map encF ++ [encF fs[i]] := by rw [List.take_succ_eq_append_getElem hlt, List.map_append]; rfl
  generalize hx : fs[i] = x at hI hfo htk
  have hI' : iad (some (85, 3, 48)) (.sl .sh (fs.map encF)) (some i) = some (.ep [.lit (.string x.nm), .lit (.bool x.sure), .sl .sh (encAs x.vals)]) := hI
  clear hI
  have hc : ∀ H, calls Tryz.prog cfgJ 74 [.sl .sh (encAs x.vals)] H = some (.ret (.sl .sh (encAs x.vals)) H) := tClone_atm rfl x.vals (by unfold FOk at hfo; omega) .sh
  have hb : aBuildSlice Tryz.prog 77 1 [(0, .agg [.lit (.string x.nm), .lit (.bool x.sure), .sl .sh (encAs x.vals)])] = some (.sl .ex [[.lit (.string x.nm), .lit (.bool x.sure), .sl .sh (encAs x.vals)]]) := build1 el_sFld (by decide) zr_fld rfl rfl _ rfl rfl
  have hlen : ((fs.take i).map encF).length = i := by rw [List.length_map, List.length_take]; omega
  have hap : ∀ H' id, arrGet A H' = arrGet A H → aAppend Tryz.prog 77 A (.sl .ex [[.lit (.string x.nm), .lit (.bool x.sure), .sl .sh (encAs x.vals)]]) H' id = some (.ar id 0 (i + 1) 3, arrUs A id ((fs.take (i + 1)).map encF).flatten, arrRs A) := by
   intro H' id hg
   have := app_arr (P := Tryz.prog) (x := encF x) (o := .ex) el_sFld rfl (by decide) zo_sFld (by rw [hlen]; unfold LA at hfl; omega) (by rw [hlen]; unfold LA at hfl; omega) rfl (F_one x) (F_unif _) hA id hg
   rw [hlen, ← htk] at this
   exact this
  have n11 : arrNo A (m + 11) := hA.no' (by omega)
  have hg6 : ∀ (H' : Heap) (cs : List AV), (appU H' (arrUs A (m + 22) cs)).get (N + 6) = H'.get (N + 6) := fun H' cs => arrUs_get (by omega) (hA.no (by omega))
  have hg1 : ∀ (H' : Heap) (cs : List AV), (appU H' (arrUs A (m + 22) cs)).get (N + 1) = H'.get (N + 1) := fun H' cs => arrUs_get (by omega) (hA.no (by omega))
  have y5 : ¬ m + 5 = N := by omega
  have y10 : ¬ m + 10 = N := by omega
  have y16 : ¬ m + 16 = N := by omega
  have y21 : ¬ m + 21 = N := by omega
  simp only [go_sem, simprocAttr, g2, g3, g11, g12, g13, h1, h6, hm, d1, hw, hI', hc, hb, hap, n11, hg6, z1, z6, z61, z16, y5, y10, y16, y21]
  exact ih (fs.length - (i + 1)) (by omega) _ _ ⟨i + 1, .ar (m + 22) 0 (i + 1) 3, rfl, by omega, by repeat (first | exact hF | refine Frm.up ?_ _ | refine Frm.put ?_ _ (by omega) | refine Frm.arr ?_ (by omega) (fun k hk => hA.no (by omega))), by simp only [go_sem, simprocAttr, g2], by simp only [go_sem, simprocAttr, g3], by simp only [go_sem, simprocAttr, g11], by simp only [go_sem, simprocAttr, g12], by simp only [go_sem, simprocAttr], by simp only [go_sem, simprocAttr, hm, h1, hg1, z16, z61, y5, y10, y16, y21], by simp only [go_sem, simprocAttr, z16, z61, y5, y10, y16, y21],
   .inr ⟨m + 22, by rw [List.length_map, List.length_take, Nat.min_eq_left (by omega)], by rw [htk]; simp, by simp only [go_sem, simprocAttr, hm, arrUs_new, hNm], by omega, by simp only [go_sem, simprocAttr, hm] <;> omega⟩, by simp only [go_sem, simprocAttr, hm] <;> omega⟩
 ·have d1 : decide ((i : Int) < (fs.length : Nat)) = false := by simp; omega
  rw [List.take_of_length_le (by omega)] at hA
  have hA1 := hA.one
  simp only [go_sem, simprocAttr, g2, g3, g11, g12, g13, h1, h6, hm, d1, rs, hA1]
  exact ⟨_, rfl, by repeat (first | exact hF | refine Frm.up ?_ _ | refine Frm.put ?_ _ (by omega)), A, rfl, (((hA.s.mono (by omega)).up 1).up 2).put _ (hA.no (by omega))⟩
end Go.Proofs.YtnoahchdmkpleaaGreat.VA

/-! Ob5 -/
namespace Go.Proofs.YtnoahchdmkpleaaGreat.VA
open Go Go.RowKit
attribute [local go_sem] Nat.add_eq_left Nat.left_eq_add true_and and_true ite_true if_false Int.cast_ofNat_Int eq_self Nat.add_assoc Option.some.injEq decide_true decide_false Bool.not_true Bool.not_false List.size_toArray List.length_cons List.length_nil
set_option linter.unusedSimpArgs false
set_option linter.unusedVariables false
set_option maxRecDepth 100000

def LB : Nat := 100000000000
/-- A shape of no longer lists than a tenth of what a machine holds. -/
def ShB (s : Sh) : Prop := s.fields.length ≤ LB ∧ s.proto.length ≤ LB ∧ ∀ f, f ∈ s.fields → f.vals.length ≤ LB
theorem ShB.ok {s : Sh} (h : ShB s) : ShOk s := by
 have hLA : LA = 1000000000000 := rfl
 have hLB : LB = 100000000000 := rfl
 exact ⟨fun f hf => by have := h.2.2 f hf; unfold FOk; omega, by have := h.1; omega, by have := h.2.1; omega⟩
theorem flat_setC {sz : Nat} {es : List (List AV)} (h : Unif sz es) {i j : Nat} {x : List AV} (hx : es[i]? = some x) (hj : j < sz) (v : AV) :
  es.flatten.take (i * sz + j) ++ (v :: es.flatten.drop (i * sz + (j + 1))) = (es.set i (x.take j ++ v :: x.drop (j + 1))).flatten := by
 have hi : i < es.length := (List.getElem?_eq_some_iff.1 hx).1
 have hxe : es[i] = x := (List.getElem?_eq_some_iff.1 hx).2
 have hxl : x.length = sz := h x (by rw [← hxe]; exact List.getElem_mem hi)
 have e : es = es.take i ++ x :: es.drop (i + 1) := by
  rw [← hxe, List.getElem_cons_drop, List.take_append_drop]
 have hl : (es.take i).flatten.length = i * sz := by rw [flat_len (h.take i), List.length_take, Nat.min_eq_left (by omega)]
 have e2 : es.flatten = (es.take i).flatten ++ (x ++ (es.drop (i + 1)).flatten) := by
  conv => lhs; rw [e]
  rw [List.flatten_append, List.flatten_cons]
 have e3 : es.set i (x.take j ++ v :: x.drop (j + 1)) = es.take i ++ (x.take j ++ v :: x.drop (j + 1)) :: es.drop (i + 1) := by
  rw [List.set_eq_take_append_cons_drop, if_pos hi]
 rw [e3, List.flatten_append, List.flatten_cons, e2, List.take_append, List.drop_append, hl]
 rw [List.take_of_length_le (l := (es.take i).flatten) (by omega), List.drop_of_length_le (l := (es.take i).flatten) (by omega), List.nil_append]
 have h1 : i * sz + j - i * sz = j := by omega
 have h2 : i * sz + (j + 1) - i * sz = j + 1 := by omega
 rw [h1, h2, List.take_append_of_le_length (by omega), List.drop_append_of_le_length (by omega)]
 simp
theorem found_iff {fs : List Fd} (hs : UpF fs) {q : ByteArray} {k : Nat} (hk : k ≤ fs.length) (hall : (fs.take k).all (fun f => strLt f.nm q) = true) (hx : ∀ h : k < fs.length, strLt fs[k].nm q = false) :
  decide (fs[k]?.map Fd.nm = some q) = (getF q fs).isSome := by
 have hall' : ∀ t (h : t < fs.length), t < k → strLt fs[t].nm q = true := fun t h ht =>
  List.all_eq_true.1 hall fs[t] (by rw [List.mem_take_iff_getElem]; exact ⟨t, by omega, rfl⟩)
 by_cases hq : fs[k]?.map Fd.nm = some q
 ·have h1 : decide (fs[k]?.map Fd.nm = some q) = true := by simpa using hq
  rw [h1]
  cases hfk : fs[k]? with
  | none => rw [hfk] at hq; cases hq
  | some f =>
   rw [hfk] at hq
   simp only [Option.map_some, Option.some.injEq] at hq
   exact (getF_isSome.2 (List.mem_map.2 ⟨f, List.mem_of_getElem? hfk, hq⟩)).symm
 ·have h1 : decide (fs[k]?.map Fd.nm = some q) = false := by simpa using hq
  rw [h1]
  cases hg : (getF q fs).isSome with
  | false => rfl
  | true =>
   exfalso
   obtain ⟨f, hf, hfq⟩ := List.mem_map.1 (getF_isSome.1 hg)
   obtain ⟨t, ht, rfl⟩ := List.mem_iff_getElem.1 hf
   have h2 : ¬ t < k := fun h => by
    have := hall' t ht h
    rw [hfq, sl_self] at this; cases this
   by_cases hte : t = k
   ·subst hte
    rw [List.getElem?_eq_getElem ht] at hq
    exact hq (by simpa using hfq)
   ·have hkl : k < fs.length := by omega
    have h3 := hs.srt.lt (show k < t by omega) ht
    have h4 := hx hkl
    rw [hfq] at h3
    rw [h3] at h4; cases h4
theorem c_Join (a b : Sh) (ha : ShB a) (hb : ShB b) (H : Heap) : calls Tryz.prog cfgJ 90 [.agg (encSh a), .agg (encSh b)] H = some (.ret (.agg (encSh (joinSh a b))) H) := by
 refine calls_frz (fn := Tryz.f90) rfl rfl rfl rfl rfl ?_ H
 have rs : Tryz.f90.results.toList = [.cell 4 79] := rfl
 have hLA : LA = 1000000000000 := rfl
 have hLB : LB = 100000000000 := rfl
 have oa := ha.ok
 have ob := hb.ok
 have hm : ∀ s, ShOk s → ∀ H, calls Tryz.prog cfgJ 71 [.agg (encSh s)] H = some (.ret (.lit (.bool (mayS s))) H) := fun s hs H =>
  calls_by rfl (fun H => by simp only [sanL, san, sanL_encSh]; exact c_objMay s hs H) rfl H
 have hma := hm a oa
 have hmb := hm b ob
 have s1 : ∀ s : Sh, (encSh s).length = 2 := fun _ => rfl
 have s2 : ∀ s : Sh, (encSh s).take 2 = encSh s := fun _ => rfl
 have s3 : ∀ s : Sh, (encSh s).all AV.one = true := fun _ => rfl
 have s4 : ∀ s : Sh, (encSh s)[0]? = some (.sl .sh (s.fields.map encF)) := fun _ => rfl
 have s5 : ∀ s : Sh, (encSh s)[1]? = some (.sl .sh (encAs s.proto)) := fun _ => rfl
 by_cases hmay : mayS a = true ∧ mayS b = true
 ·obtain ⟨ma, mb⟩ := hmay
  have hj : joinSh a b = ⟨joinP a.fields b.fields, normA (a.proto ++ b.proto)⟩ := by unfold joinSh; rw [if_pos ⟨ma, mb⟩]
  rw [ma] at hma
  rw [mb] at hmb
  rw [hj]
  simp only [go_sem, simprocAttr, rs, hma, hmb, s1, s2, s3, s4, s5]
  refine goC_ex (c_objCopyA a oa _) ?_
  rintro v H1 ⟨hF, A, rfl, hA⟩
  have hun : ∀ H, calls Tryz.prog cfgJ 88 [.sl .sh (encAs a.proto), .sl .sh (encAs b.proto)] H = some (.ret (.sl .sh (encAs (normA (a.proto ++ b.proto)))) H) := fun H =>
   calls_by rfl (fun H => by simp only [sanL, san, sanLL_encAs]; exact c_union a.proto b.proto (by have := ha.2.1; have := hb.2.1; omega) .sh .sh H) (by simp only [san, sanLL_encAs]) H
  have nx1 := hF.nx
  simp only [go_sem, simprocAttr] at nx1
  obtain ⟨q, hq⟩ : ∃ q, H1.next = q + 15 := ⟨H1.next - 15, by omega⟩
  have g0 : H1.get 0 = some (encSh a) := by rw [hF.get (by simp only [go_sem, simprocAttr] <;> omega)]; simp only [go_sem, simprocAttr]
  have g1 : H1.get 1 = some (encSh b) := by rw [hF.get (by simp only [go_sem, simprocAttr] <;> omega)]; simp only [go_sem, simprocAttr]
  have g2 : H1.get 2 = some [.sl .nil [], .sl .nil []] := by rw [hF.get (by simp only [go_sem, simprocAttr] <;> omega)]; simp only [go_sem, simprocAttr]
  have hA1 := hA.one
  have hAl : lnn Tryz.prog 77 A = some (.lit (.int .i64 (a.fields.length : Nat))) := by rw [hA.lnn el_sFld, List.length_map]
  simp only [go_sem, simprocAttr, rs, hq, g0, g1, g2, s1, s2, s3, s4, s5, hun, hA1, hAl]
  have ua : UpF a.fields := by unfold mayS at ma; rw [Bool.and_eq_true] at ma; exact (upF_may ma.1).2.1
  have ub : UpF b.fields := by unfold mayS at mb; rw [Bool.and_eq_true] at mb; exact (upF_may mb.1).2.1
  simp only [go_sem, simprocAttr] at hA
  have nA : ∀ k, k < 15 → arrNo A k := fun k hk => hA.no (by omega)
  refine W_loop_ind (fun k e H => ∃ (i : Nat), k = a.fields.length - i ∧ i ≤ a.fields.length ∧ H.get 1 = some (encSh b) ∧ H.get 2 = some [.sl .nil [], .sl .nil []] ∧ H.get 13 = some [A, .sl .sh (encAs (normA (a.proto ++ b.proto)))] ∧ 15 ≤ H.next ∧
    ArrS 3 H 15 A ((a.fields.take i).map (fun f => encF (dimF b.fields f)) ++ (a.fields.drop i).map encF) ∧
    gget .bad e 3 = .ptr 1 0 ∧ gget .bad e 4 = .ptr 2 0 ∧ gget .bad e 5 = .ptr 13 0 ∧ gget .bad e 32 = A ∧ gget .bad e 33 = .lit (.int .i64 (a.fields.length : Nat)) ∧ gget .bad e 34 = .lit (.int .i64 (i : Nat)))
   a.fields.length ⟨0, rfl, by omega, by simp only [go_sem, simprocAttr, g1], by simp only [go_sem, simprocAttr, g2], by simp only [go_sem, simprocAttr], by simp only [go_sem, simprocAttr, hq] <;> omega, by
    rw [List.take_zero, List.drop_zero, List.map_nil, List.nil_append]
    exact (((((hA.put _ (nA 13 (by omega))).put _ (nA 13 (by omega))).up 7).put _ (nA 13 (by omega))).up 4).mono (by omega), by simp only [go_sem, simprocAttr], by simp only [go_sem, simprocAttr], by simp only [go_sem, simprocAttr], by simp only [go_sem, simprocAttr], by simp only [go_sem, simprocAttr], by simp only [go_sem, simprocAttr]⟩ ?_
  clear hA hF g0 g1 g2 hq nx1 H1 q
  rintro k ih e H ⟨i, rfl, hle, g1, g2, g13, hnx, hA, e3, e4, e5, e32, e33, e34⟩
  obtain ⟨m, hm⟩ : ∃ m, H.next = m + 15 := ⟨H.next - 15, by omega⟩
  by_cases hlt : i < a.fields.length
  ·have d1 : decide ((i : Int) < (a.fields.length : Nat)) = true := by simp; omega
   have hw := wrap1 (show i + 1 ≤ 9223372036854775807 by have := ha.1; omega)
   rcases hA with ⟨rfl, he⟩ | ⟨r, z, rfl, hg, hlr, hr, hzu, hzo⟩
   ·exfalso
    have := congrArg List.length he
    simp at this
    omega
   ·generalize hES : (a.fields.take i).map (fun f => encF (dimF b.fields f)) ++ (a.fields.drop i).map encF = ES at *
    have hEl : ES.length = a.fields.length := by rw [← hES]; simp; omega
    have hEx : ES[i]? = some (encF a.fields[i]) := by
     rw [← hES, List.getElem?_append_right (by simp; omega)]
     simp [List.getElem?_drop]
     rw [Nat.min_eq_left (by omega), Nat.sub_self, Nat.add_zero, List.getElem?_eq_getElem hlt]
     exact ⟨_, rfl, rfl⟩
    rw [hEl] at g13 e32
    simp only [hEl] at ih
    have nr : ∀ k, k < 15 → ¬ r = k := fun k hk => by omega
    have hEu : Unif 3 ES := by
     rw [← hES]
     exact Unif.append (Unif.map (f := fun f => encF (dimF b.fields f)) (fun _ => rfl) _) (F_unif _)
    have hul := hEu.append hzu
    have ha' := iad_ar (t := 85) (b := 48) (r := r) (a := 0) (sz := 3) (m := a.fields.length) hlt
    rw [Nat.zero_add] at ha'
    have hst := flat_rowS hul (i := i) (by rw [List.length_append]; omega)
    have hEx' : (ES ++ z)[i]? = some (encF a.fields[i]) := by rw [List.getElem?_append_left (by omega)]; exact hEx
    have hat := flat_at hul (i := i) (x := [.lit (.string a.fields[i].nm), .lit (.bool a.fields[i].sure), .sl .sh (encAs a.fields[i].vals)]) hEx'
    simp only [go_sem, simprocAttr, e3, e4, e5, e32, e33, e34, d1, hm, g1, g2, g13, s1, s2, s3, s4, s5, ha', hg, hst, hat]
    refine goC_ex (c_findF b.fields ub.srt (by have := hb.1; omega) a.fields[i].nm (.sl .sh (b.fields.map encF)) 0 _ (.inl rfl)) ?_
    rintro v K ⟨hF, k, hk, rfl, hall, hx⟩
    have hfi := found_iff ub hk hall hx
    rw [hfi]
    have n15 : ∀ k, k < 15 → ¬ m + 19 = k := fun k hk => by omega
    have nr2 : ¬ m + 19 = r := by omega
    have k1 : K.get 1 = some (encSh b) := by rw [hF.get (by simp only [go_sem, simprocAttr]; omega)]; simp only [go_sem, simprocAttr, n15 1 (by omega), g1]
    have k2 : K.get 2 = some [.sl .nil [], .sl .nil []] := by rw [hF.get (by simp only [go_sem, simprocAttr]; omega)]; simp only [go_sem, simprocAttr, n15 2 (by omega), g2]
    have k13 : K.get 13 = some [.ar r 0 a.fields.length 3, .sl .sh (encAs (normA (a.proto ++ b.proto)))] := by rw [hF.get (by simp only [go_sem, simprocAttr]; omega)]; simp only [go_sem, simprocAttr, n15 13 (by omega), g13]
    have kr : K.get r = some (ES ++ z).flatten := by rw [hF.get (by simp only [go_sem, simprocAttr]; omega)]; simp only [go_sem, simprocAttr, nr2, hg]
    have kf : K.get (m + 19) = some [.lit (.string a.fields[i].nm), .lit (.bool a.fields[i].sure), .sl .sh (encAs a.fields[i].vals)] := by rw [hF.get (by simp only [go_sem, simprocAttr]; omega)]; simp only [go_sem, simprocAttr]
    have knx := hF.nx
    simp only [go_sem, simprocAttr, hm] at knx
    obtain ⟨m2, hm2⟩ : ∃ m2, K.next = m2 + 15 := ⟨K.next - 15, by omega⟩
    have hset := flat_setC hul (j := 1) hEx' (by omega) (.lit (.bool (a.fields[i].sure && (getF a.fields[i].nm b.fields).isSome)))
    have hst2 : i * 3 + 2 ≤ (ES ++ z).flatten.length := by omega
    have hd : a.fields.drop i = a.fields[i] :: a.fields.drop (i + 1) := List.drop_eq_getElem_cons hlt
    have hEs : ES.set i (encF (dimF b.fields a.fields[i])) = (a.fields.take (i + 1)).map (fun f => encF (dimF b.fields f)) ++ (a.fields.drop (i + 1)).map encF := by
     have hl : ((a.fields.take i).map (fun f => encF (dimF b.fields f))).length = i := by rw [List.length_map, List.length_take]; omega
     rw [← hES, List.set_append_right _ _ (by omega), hl, Nat.sub_self, hd, List.map_cons, List.set_cons_zero, List.take_succ_eq_append_getElem hlt, List.map_append]
     simp
    have hEz : (ES ++ z).set i (encF (dimF b.fields a.fields[i])) = ((a.fields.take (i + 1)).map (fun f => encF (dimF b.fields f)) ++ (a.fields.drop (i + 1)).map encF) ++ z := by
     rw [List.set_append_left _ _ (by omega), hEs]
    have hset' : (ES ++ z).flatten.take (i * 3 + 1) ++ (.lit (.bool (a.fields[i].sure && (getF a.fields[i].nm b.fields).isSome)) :: (ES ++ z).flatten.drop (i * 3 + 2)) = (((a.fields.take (i + 1)).map (fun f => encF (dimF b.fields f)) ++ (a.fields.drop (i + 1)).map encF) ++ z).flatten := by
     rw [← hEz]; exact hset
    have hlE : ((a.fields.take (i + 1)).map (fun f => encF (dimF b.fields f)) ++ (a.fields.drop (i + 1)).map encF).length = ES.length := by rw [← hEs, List.length_set]
    clear hset hEz hEs hES
    cases hsu : a.fields[i].sure with
    | true =>
     rw [hsu] at kf hset'
     rw [Bool.true_and] at hset'
     simp only [go_sem, simprocAttr, e3, e4, e5, e32, e33, e34, hm2, k1, k2, k13, kr, kf, ha', nr 13 (by omega), hst2, hset', hw]
     exact ih (a.fields.length - (i + 1)) (by omega) _ _ ⟨i + 1, rfl, by omega, by simp only [go_sem, simprocAttr, nr 1 (by omega), k1], by simp only [go_sem, simprocAttr, nr 2 (by omega), k2], by simp only [go_sem, simprocAttr, nr 13 (by omega), k13], by simp only [go_sem, simprocAttr, hm2] <;> omega,
      .inr ⟨r, z, by rw [hlE, hEl], by simp only [go_sem, simprocAttr], hlr, by simp only [go_sem, simprocAttr, hm2] <;> omega, hzu, hzo⟩, by simp only [go_sem, simprocAttr, e3], by simp only [go_sem, simprocAttr, e4], by simp only [go_sem, simprocAttr, e5], by simp only [go_sem, simprocAttr, e32], by simp only [go_sem, simprocAttr, e33], by simp only [go_sem, simprocAttr]⟩
    | false =>
     rw [hsu] at kf hset'
     rw [Bool.false_and] at hset'
     simp only [go_sem, simprocAttr, e3, e4, e5, e32, e33, e34, hm2, k1, k2, k13, kr, kf, ha', nr 13 (by omega), hst2, hset', hw]
     exact ih (a.fields.length - (i + 1)) (by omega) _ _ ⟨i + 1, rfl, by omega, by simp only [go_sem, simprocAttr, nr 1 (by omega), k1], by simp only [go_sem, simprocAttr, nr 2 (by omega), k2], by simp only [go_sem, simprocAttr, nr 13 (by omega), k13], by simp only [go_sem, simprocAttr, hm2] <;> omega,
      .inr ⟨r, z, by rw [hlE, hEl], by simp only [go_sem, simprocAttr], hlr, by simp only [go_sem, simprocAttr, hm2] <;> omega, hzu, hzo⟩, by simp only [go_sem, simprocAttr, e3], by simp only [go_sem, simprocAttr, e4], by simp only [go_sem, simprocAttr, e5], by simp only [go_sem, simprocAttr, e32], by simp only [go_sem, simprocAttr, e33], by simp only [go_sem, simprocAttr]⟩
  ·have d1 : decide ((i : Int) < (a.fields.length : Nat)) = false := by simp; omega
   rw [List.take_of_length_le (by omega), List.drop_of_length_le (by omega), List.map_nil, List.append_nil] at hA
   have hA' : ArrS 3 H 15 A ((a.fields.map (dimF b.fields)).map encF) := by rw [List.map_map]; exact hA
   clear hA ih
   obtain ⟨D, hD⟩ : ∃ D, D = a.fields.map (dimF b.fields) := ⟨_, rfl⟩
   have uD : UpF D := by rw [hD]; exact (joinP_up ua ub).2
   rw [← hD] at hA'
   have hDl : D.length ≤ LB := by rw [hD, List.length_map]; exact ha.1
   have hDv : ∀ f, f ∈ D → f.vals.length ≤ LB := by
    intro f hf
    rw [hD] at hf
    obtain ⟨g, hg, rfl⟩ := List.mem_map.1 hf
    exact ha.2.2 g hg
   have hjp : joinP a.fields b.fields = b.fields.foldl stpF D := by rw [hD]; rfl
   rw [hjp]
   have lenS : ∀ (l out : List Fd), (l.foldl stpF out).length ≤ out.length + l.length := by
    have hp : ∀ (x : Fd) (l : List Fd), (putF x l).length ≤ l.length + 1 := by
     intro x l
     induction l with
     | nil => simp [putG]
     | cons y l ih =>
      have ih' : (putG Fd.nm strLt x l).length ≤ l.length + 1 := ih
      show (putG Fd.nm strLt x (y :: l)).length ≤ _
      unfold putG
      split
      ·simp only [List.length_cons]; omega
      ·split <;> simp only [List.length_cons] <;> omega
    intro l
    induction l with
    | nil => exact fun out => Nat.le_refl _
    | cons g l ih =>
     intro out
     have h1 := ih (stpF out g)
     have h2 := hp (updF g (getF g.nm out)) out
     have h3 : (stpF out g).length ≤ out.length + 1 := h2
     simp only [List.foldl_cons, List.length_cons]
     omega
   simp only [go_sem, simprocAttr, rs, e3, e4, e5, e32, e33, e34, d1, hm, g1, g2, g13, s4, s5]
   refine W_loop_ind (fun k e H => ∃ (i : Nat) (A : AV), k = b.fields.length - i ∧ i ≤ b.fields.length ∧ H.get 2 = some [.sl .nil [], .sl .nil []] ∧ H.get 13 = some [A, .sl .sh (encAs (normA (a.proto ++ b.proto)))] ∧ 15 ≤ H.next ∧
     ArrS 3 H 15 A (((b.fields.take i).foldl stpF D).map encF) ∧
     gget .bad e 4 = .ptr 2 0 ∧ gget .bad e 5 = .ptr 13 0 ∧ gget .bad e 59 = .sl .sh (b.fields.map encF) ∧ gget .bad e 60 = .lit (.int .i64 (b.fields.length : Nat)) ∧ gget .bad e 61 = .lit (.int .i64 (i : Nat)))
    b.fields.length ⟨0, A, rfl, by omega, by simp only [go_sem, simprocAttr, g2], by simp only [go_sem, simprocAttr, g13], by simp only [go_sem, simprocAttr, hm] <;> omega, by
     repeat (first | exact hA' | refine ArrS.up ?_ _), by simp only [go_sem, simprocAttr, e4], by simp only [go_sem, simprocAttr, e5], by simp only [go_sem, simprocAttr], by simp only [go_sem, simprocAttr, List.length_map], by simp only [go_sem, simprocAttr]⟩ ?_
   clear hA' g1 g2 g13 hm hnx e3 e4 e5 e32 e33 e34 d1 hlt hle hAl hA1 nA
   rintro k ih e H ⟨i, A, rfl, hle, g2, g13, hnx, hA, e4, e5, e59, e60, e61⟩
   obtain ⟨m, hm⟩ : ∃ m, H.next = m + 15 := ⟨H.next - 15, by omega⟩
   have hA1 := hA.one
   by_cases hlt : i < b.fields.length
   ·have d1 : decide ((i : Int) < (b.fields.length : Nat)) = true := by simp; omega
    have hw := wrap1 (show i + 1 ≤ 9223372036854775807 by have := hb.1; omega)
    obtain ⟨g, hg⟩ : ∃ g, g = b.fields[i] := ⟨_, rfl⟩
    have hI := iad_map (f := encF) (t := 85) (n := 3) (b := 48) (o := .sh) hlt (fun _ => rfl)
    rw [← hg] at hI
    have hgm : g ∈ b.fields := by rw [hg]; exact List.getElem_mem hlt
    have f1 := F_one g
    have f2 : (encF g).length = 3 := rfl
    have f3 : (encF g).take 3 = encF g := rfl
    have f4 : (encF g)[0]? = some (.lit (.string g.nm)) := rfl
    have f5 : (encF g)[1]? = some (.lit (.bool g.sure)) := rfl
    have f6 : (encF g)[2]? = some (.sl .sh (encAs g.vals)) := rfl
    have nA : ∀ k, k < 15 → arrNo A k := fun k hk => hA.no hk
    simp only [go_sem, simprocAttr, e4, e5, e59, e60, e61, d1, hm, hI, g2, g13, f1, f2, f3, f4, f5, f6]
    obtain ⟨OUT, hO⟩ : ∃ OUT, OUT = (b.fields.take i).foldl stpF D := ⟨_, rfl⟩
    have hut : UpF (b.fields.take i) := List.Pairwise.sublist (List.take_sublist ..) ub
    have hfo := fold_stp (b.fields.take i) D hut uD
    rw [← hO] at hfo hA
    have hgt : getF g.nm (b.fields.take i) = none := by
     cases hx : getF g.nm (b.fields.take i) with
     | none => rfl
     | some f =>
      exfalso
      obtain ⟨h1, h2⟩ := getF_nm hx
      obtain ⟨t, ht, rfl⟩ := List.mem_iff_getElem.1 h2
      rw [List.length_take] at ht
      rw [List.getElem_take] at h1
      have := ub.srt.lt (show t < i by omega) hlt
      rw [h1, hg, sl_self] at this
      cases this
    have hgo : getF g.nm OUT = getF g.nm D := by rw [hfo.2, hgt]
    have hsucc : (b.fields.take (i + 1)).foldl stpF D = putF (updF g (getF g.nm OUT)) OUT := by
     rw [List.take_succ_eq_append_getElem hlt, List.foldl_append, ← hO, ← hg]; rfl
    have hOl : OUT.length ≤ LB + LB := by
     have := lenS (b.fields.take i) D
     rw [← hO, List.length_take] at this
     have := hb.1
     omega
    have n18 : ∀ k, k < 15 → ¬ m + 18 = k := fun k hk => by omega
    refine goC_ex (c_Get OUT g.nm A (.sl .sh (encAs (normA (a.proto ++ b.proto)))) 15 _ (by repeat (first | exact hA | refine ArrS.up ?_ _ | refine ArrS.put ?_ _ (hA.no' (by omega)))) rfl (by omega) (fun f hf => by
     rw [hgo] at hf
     have := hDv f (getF_nm hf).2
     unfold FOk
     omega)) ?_
    rintro v K ⟨hF, rfl⟩
    have k2 : K.get 2 = some [.sl .nil [], .sl .nil []] := by rw [hF.get (by simp only [go_sem, simprocAttr]; omega)]; simp only [go_sem, simprocAttr, n18 2 (by omega), g2]
    have k13 : K.get 13 = some [A, .sl .sh (encAs (normA (a.proto ++ b.proto)))] := by rw [hF.get (by simp only [go_sem, simprocAttr]; omega)]; simp only [go_sem, simprocAttr, n18 13 (by omega), g13]
    have kg : K.get (m + 18) = some (encF g) := by rw [hF.get (by simp only [go_sem, simprocAttr]; omega)]; simp only [go_sem, simprocAttr]
    have knx := hF.nx
    simp only [go_sem, simprocAttr, hm] at knx
    obtain ⟨m2, hm2⟩ : ∃ m2, K.next = m2 + 15 := ⟨K.next - 15, by omega⟩
    have hKA : ArrS 3 K 15 A (OUT.map encF) := by
     have h1 : ArrS 3 (((((H.up 1).up 4).put (m + 18) [.lit (.string ⟨#[]⟩), .lit (.bool false), .sl .nil []]).put (m + 18) (encF g)).up 10) 15 A (OUT.map encF) := by
      repeat (first | exact hA | refine ArrS.up ?_ _ | refine ArrS.put ?_ _ (hA.no' (by omega)))
     exact h1.of hF.nx (fun j h1 h2 h3 => hF.get h2)
    generalize hgoo : getF g.nm OUT = o at *
    have i1 : cfgJ.imp 88 = false := rfl
    have n15 : ∀ j, ¬ m2 + j = m := fun j => by omega
    cases o with
    | none =>
     have hun2 : ∀ H, calls Tryz.prog cfgJ 88 [.sl .sh [], .sl .sh (encAs g.vals)] H = some (.ret (.sl .sh (encAs (normA ([] ++ g.vals)))) H) := fun H =>
      calls_by rfl (fun H => by simp only [sanL, san, sanLL_encAs]; exact c_union [] g.vals (by have := hb.2.2 g hgm; simp only [List.length_nil]; omega) .sh .sh H) (by simp only [san, sanLL_encAs]) H
     have z1 : encF (Option.getD none fdZ) = [.lit (.string ⟨#[]⟩), .lit (.bool false), .sl .sh []] := rfl
     simp only [go_sem, simprocAttr, e4, e5, e59, e60, e61, hm2, k13, kg, f1, f2, f3, f4, f5, f6, hA1, n15, z1, Option.isSome_none, Option.isSome_some]
     refine W_draw [(0, 2), (0, 6), (2, 6), (0, 10), (2, 10), (0, 13), (2, 13), (6, 13), (10, 13), (0, 15), (2, 15), (6, 15), (10, 15), (13, 15), (0, 16), (2, 16), (10, 16)] (by kernel_rfl) ?_
     simp only [go_sem, simprocAttr, e4, e5, e59, e60, e61, hm2, k13, kg, f1, f2, f3, f4, f5, f6, hA1, n15, hun2, i1, z1, Option.isSome_none, Option.isSome_some]
     have hup : encF (updF g none) = [.lit (.string g.nm), .lit (.bool false), .sl .sh (encAs (normA (g.vals)))] := by simp [encF, updF, fdZ]
     have hput := fun H hA => c_putF OUT (updF g none) A (.sl .sh (encAs (normA (a.proto ++ b.proto)))) 15 H hA
     simp only [hup] at hput
     refine dK_exS (hput _ (by repeat (first | exact hKA | refine ArrS.up ?_ _ | refine ArrS.put ?_ _ (hA.no' (by omega)))) (by simp only [go_sem, simprocAttr] <;> omega) rfl hfo.1 (by omega)) rfl ?_
     rintro v K2 ⟨A', rfl, hA2, hC⟩
     have hnx2 := hC.nx
     simp only [go_sem, simprocAttr, hm2] at hnx2
     have n27 : ∀ k, k < 15 → ¬ m + 27 = k := fun k hk => by omega
     have q13 : K2.get 13 = some [A, .sl .sh (encAs (normA (a.proto ++ b.proto)))] := by rw [hC.get (by simp only [go_sem, simprocAttr, hm2] <;> omega) (nA 13 (by omega))]; simp only [go_sem, simprocAttr, n27 13 (by omega), k13]
     have q2 : K2.get 2 = some [.sl .nil [], .sl .nil []] := by rw [hC.get (by simp only [go_sem, simprocAttr, hm2] <;> omega) (nA 2 (by omega))]; simp only [go_sem, simprocAttr, n27 2 (by omega), k2]
     obtain ⟨m3, hm3⟩ : ∃ m3, K2.next = m3 + 15 := ⟨K2.next - 15, by omega⟩
     have hA3 := hA2.one
     simp only [go_sem, simprocAttr, e4, e5, e59, e60, e61, q13, q2, hm3, hA3, hw]
     exact ih (b.fields.length - (i + 1)) (by omega) _ _ ⟨i + 1, A', rfl, by omega, by simp only [go_sem, simprocAttr, q2], by simp only [go_sem, simprocAttr], by simp only [go_sem, simprocAttr, hm3] <;> omega, by
      rw [hsucc]
      exact ((hA2.put _ (hA2.no (by omega))).up 2), by simp only [go_sem, simprocAttr, e4], by simp only [go_sem, simprocAttr, e5], by simp only [go_sem, simprocAttr, e59], by simp only [go_sem, simprocAttr, e60], by simp only [go_sem, simprocAttr]⟩
    | some f =>
     have hfv : f.vals.length ≤ LB := hDv f (getF_nm hgo.symm).2
     have hun2 : ∀ H, calls Tryz.prog cfgJ 88 [.sl .sh (encAs f.vals), .sl .sh (encAs g.vals)] H = some (.ret (.sl .sh (encAs (normA (f.vals ++ g.vals)))) H) := fun H =>
      calls_by rfl (fun H => by simp only [sanL, san, sanLL_encAs]; exact c_union f.vals g.vals (by have := hb.2.2 g hgm; omega) .sh .sh H) (by simp only [san, sanLL_encAs]) H
     cases hfs : f.sure with
     | false =>
      have z1 : encF f = [.lit (.string f.nm), .lit (.bool false), .sl .sh (encAs f.vals)] := by rw [← hfs]; rfl
      simp only [go_sem, simprocAttr, e4, e5, e59, e60, e61, hm2, k13, kg, f1, f2, f3, f4, f5, f6, hA1, n15, z1, Option.isSome_none, Option.isSome_some]
      refine W_draw [(0, 2), (0, 6), (2, 6), (0, 10), (2, 10), (0, 13), (2, 13), (6, 13), (10, 13), (0, 15), (2, 15), (6, 15), (10, 15), (13, 15), (0, 16), (2, 16), (10, 16)] (by kernel_rfl) ?_
      simp only [go_sem, simprocAttr, e4, e5, e59, e60, e61, hm2, k13, kg, f1, f2, f3, f4, f5, f6, hA1, n15, hun2, i1, z1, Option.isSome_none, Option.isSome_some]
      have hup : encF (updF g (some f)) = [.lit (.string g.nm), .lit (.bool false), .sl .sh (encAs (normA (f.vals ++ g.vals)))] := by simp [encF, updF, hfs]
      have hput := fun H hA => c_putF OUT (updF g (some f)) A (.sl .sh (encAs (normA (a.proto ++ b.proto)))) 15 H hA
      simp only [hup] at hput
      refine dK_exS (hput _ (by repeat (first | exact hKA | refine ArrS.up ?_ _ | refine ArrS.put ?_ _ (hA.no' (by omega)))) (by simp only [go_sem, simprocAttr] <;> omega) rfl hfo.1 (by omega)) rfl ?_
      rintro v K2 ⟨A', rfl, hA2, hC⟩
      have hnx2 := hC.nx
      simp only [go_sem, simprocAttr, hm2] at hnx2
      have n27 : ∀ k, k < 15 → ¬ m + 27 = k := fun k hk => by omega
      have q13 : K2.get 13 = some [A, .sl .sh (encAs (normA (a.proto ++ b.proto)))] := by rw [hC.get (by simp only [go_sem, simprocAttr, hm2] <;> omega) (nA 13 (by omega))]; simp only [go_sem, simprocAttr, n27 13 (by omega), k13]
      have q2 : K2.get 2 = some [.sl .nil [], .sl .nil []] := by rw [hC.get (by simp only [go_sem, simprocAttr, hm2] <;> omega) (nA 2 (by omega))]; simp only [go_sem, simprocAttr, n27 2 (by omega), k2]
      obtain ⟨m3, hm3⟩ : ∃ m3, K2.next = m3 + 15 := ⟨K2.next - 15, by omega⟩
      have hA3 := hA2.one
      simp only [go_sem, simprocAttr, e4, e5, e59, e60, e61, q13, q2, hm3, hA3, hw]
      exact ih (b.fields.length - (i + 1)) (by omega) _ _ ⟨i + 1, A', rfl, by omega, by simp only [go_sem, simprocAttr, q2], by simp only [go_sem, simprocAttr], by simp only [go_sem, simprocAttr, hm3] <;> omega, by
       rw [hsucc]
       exact ((hA2.put _ (hA2.no (by omega))).up 2), by simp only [go_sem, simprocAttr, e4], by simp only [go_sem, simprocAttr, e5], by simp only [go_sem, simprocAttr, e59], by simp only [go_sem, simprocAttr, e60], by simp only [go_sem, simprocAttr]⟩
     | true =>
      have z1 : encF f = [.lit (.string f.nm), .lit (.bool true), .sl .sh (encAs f.vals)] := by rw [← hfs]; rfl
      simp only [go_sem, simprocAttr, e4, e5, e59, e60, e61, hm2, k13, kg, f1, f2, f3, f4, f5, f6, hA1, n15, z1, Option.isSome_none, Option.isSome_some]
      refine W_draw [(0, 2), (0, 6), (2, 6), (0, 10), (2, 10), (0, 13), (2, 13), (6, 13), (10, 13), (0, 15), (2, 15), (6, 15), (10, 15), (13, 15), (0, 16), (2, 16), (10, 16)] (by kernel_rfl) ?_
      simp only [go_sem, simprocAttr, e4, e5, e59, e60, e61, hm2, k13, kg, f1, f2, f3, f4, f5, f6, hA1, n15, hun2, i1, z1, Option.isSome_none, Option.isSome_some]
      have hup : encF (updF g (some f)) = [.lit (.string g.nm), .lit (.bool g.sure), .sl .sh (encAs (normA (f.vals ++ g.vals)))] := by simp [encF, updF, hfs]
      have hput := fun H hA => c_putF OUT (updF g (some f)) A (.sl .sh (encAs (normA (a.proto ++ b.proto)))) 15 H hA
      simp only [hup] at hput
      refine dK_exS (hput _ (by repeat (first | exact hKA | refine ArrS.up ?_ _ | refine ArrS.put ?_ _ (hA.no' (by omega)))) (by simp only [go_sem, simprocAttr] <;> omega) rfl hfo.1 (by omega)) rfl ?_
      rintro v K2 ⟨A', rfl, hA2, hC⟩
      have hnx2 := hC.nx
      simp only [go_sem, simprocAttr, hm2] at hnx2
      have n27 : ∀ k, k < 15 → ¬ m + 27 = k := fun k hk => by omega
      have q13 : K2.get 13 = some [A, .sl .sh (encAs (normA (a.proto ++ b.proto)))] := by rw [hC.get (by simp only [go_sem, simprocAttr, hm2] <;> omega) (nA 13 (by omega))]; simp only [go_sem, simprocAttr, n27 13 (by omega), k13]
      have q2 : K2.get 2 = some [.sl .nil [], .sl .nil []] := by rw [hC.get (by simp only [go_sem, simprocAttr, hm2] <;> omega) (nA 2 (by omega))]; simp only [go_sem, simprocAttr, n27 2 (by omega), k2]
      obtain ⟨m3, hm3⟩ : ∃ m3, K2.next = m3 + 15 := ⟨K2.next - 15, by omega⟩
      have hA3 := hA2.one
      simp only [go_sem, simprocAttr, e4, e5, e59, e60, e61, q13, q2, hm3, hA3, hw]
      exact ih (b.fields.length - (i + 1)) (by omega) _ _ ⟨i + 1, A', rfl, by omega, by simp only [go_sem, simprocAttr, q2], by simp only [go_sem, simprocAttr], by simp only [go_sem, simprocAttr, hm3] <;> omega, by
       rw [hsucc]
       exact ((hA2.put _ (hA2.no (by omega))).up 2), by simp only [go_sem, simprocAttr, e4], by simp only [go_sem, simprocAttr, e5], by simp only [go_sem, simprocAttr, e59], by simp only [go_sem, simprocAttr, e60], by simp only [go_sem, simprocAttr]⟩
   ·have d1 : decide ((i : Int) < (b.fields.length : Nat)) = false := by simp; omega
    rw [List.take_of_length_le (by omega)] at hA
    simp only [go_sem, simprocAttr, rs, e4, e5, e59, e60, e61, d1, hm, g2, g13, hA1]
    refine ⟨_, rfl, ?_⟩
    have hfr := (((hA.up 1).up 2).put [A, .sl .sh (encAs (normA (a.proto ++ b.proto)))] (hA.no (show 2 < 15 by omega))).frz (F_unif _) (F_ones _)
    rw [sanLL_F] at hfr
    have hsp : ∀ H : Heap, frz H (.sl .sh (encAs (normA (a.proto ++ b.proto)))) = .sl .sh (encAs (normA (a.proto ++ b.proto))) := fun _ => rfl
    simp only [oneOr, frz, frzL, san, sanL, hfr, hsp, sanLL_encAs]
    rfl
 ·have hj : joinSh a b = ⟨[], []⟩ := by unfold joinSh; rw [if_neg hmay]
  rw [hj]
  cases ma : mayS a with
  | false =>
   rw [ma] at hma
   simp only [go_sem, simprocAttr, rs, hma, s1, s2, s3, s4, s5]
   exact ⟨_, rfl, rfl⟩
  | true =>
   have mb : mayS b = false := by
    cases h : mayS b with
    | false => rfl
    | true => exact absurd ⟨ma, h⟩ hmay
   rw [ma] at hma
   rw [mb] at hmb
   simp only [go_sem, simprocAttr, rs, hma, hmb, s1, s2, s3, s4, s5]
   exact ⟨_, rfl, rfl⟩
end Go.Proofs.YtnoahchdmkpleaaGreat.VA

/-! Lo1 -/
namespace Go.Proofs.YtnoahchdmkpleaaGreat.VA
open Go Go.RowKit
attribute [local go_sem] Nat.add_eq_left Nat.left_eq_add true_and and_true ite_true if_false Int.cast_ofNat_Int eq_self Nat.add_assoc Option.some.injEq decide_true decide_false Bool.not_true Bool.not_false List.size_toArray List.length_cons List.length_nil
set_option linter.unusedSimpArgs false
set_option linter.unusedVariables false
set_option maxRecDepth 100000

/-- The table for state.Loc. -/
noncomputable def cfgL : Cfg := mkC Tryz.prog [135, 89] [174, 175] [] [(75, toldBy Tryz.prog cfgO 75)] []
theorem cfgL_ok : CfgOk Tryz.prog Cond.none cfgL := mkC_ok (by kernel_rfl) (by kernel_rfl) (by
 intro p hp
 simp only [List.mem_cons, List.not_mem_nil, or_false] at hp
 subst hp
 exact toldBy_ok cfgO_ok (fn := Tryz.f75) (by kernel_rfl) (by kernel_rfl) rfl) (by simp)
abbrev getL (q : Int × Int) (l : List Lc) : Option Lc := getG Lc.atom q l
theorem getL_none {q : Int × Int} {l : List Lc} (h : l.all (fun b => !decide (b.atom = q)) = true) : getL q l = none := by
 unfold getL getG
 rw [List.find?_eq_none]
 intro x hx
 have := List.all_eq_true.1 h x hx
 simpa using this
theorem getL_some {q : Int × Int} {l : List Lc} {i : Nat} (hi : i < l.length) (h : (l.take i).all (fun b => !decide (b.atom = q)) = true) (hx : l[i].atom = q) : getL q l = some l[i] := by
 unfold getL getG
 rw [List.find?_eq_some_iff_getElem]
 refine ⟨by simpa using hx, i, hi, rfl, fun j hj => ?_⟩
 have := List.all_eq_true.1 h l[j] (by rw [List.mem_take_iff_getElem]; exact ⟨j, by omega, rfl⟩)
 exact this
theorem c_loc1 (x : Lc) (q : Int × Int) (p : Nat) (H : Heap) (hp : H.get p = some (avA q)) (hlt : p < H.next) : ∃ v H', calls Tryz.prog cfgL 175 [.agg (encL x), .ptr p 0] H = some (.ret v H') ∧
  (v = .lit (.bool (decide (x.atom = q))) ∧ Frm H H') := by
 refine calls_imp (fn := Tryz.f175) rfl rfl rfl rfl rfl ?_
 have rs : Tryz.f175.results.toList = [.tmp 3] := rfl
 obtain ⟨m, hm⟩ : ∃ m, H.next = m := ⟨_, rfl⟩
 have n0 : ∀ j, ¬ m + j = p := fun j => by omega
 have x2 : (encL x).length = 4 := rfl
 have x3 : (encL x).take 2 = avA x.atom := rfl
 have x4 : (encL x).all AV.one = true := rfl
 have x5 : (encL x).take 4 = encL x := rfl
 simp only [go_sem, simprocAttr, rs, hp, hm, n0, x2, x3, x4, x5]
 exact ⟨_, rfl, rfl, by repeat (first | exact Frm.refl _ | refine Frm.up ?_ _ | refine Frm.put ?_ _ (by omega))⟩
theorem c_idxL (vs : List Lc) (q : Int × Int) (p : Nat) (H0 : Heap) (hp : H0.get p = some (avA q)) (hlt : p < H0.next) (hvl : vs.length ≤ LA) :
  ∃ v H', calls Tryz.prog cfgL 174 [.sl .sh (vs.map encL), .fn 175 [.ptr p 0]] H0 = some (.ret v H') ∧
   ((v = .lit (.int .i64 (-1)) ∧ vs.all (fun b => !decide (b.atom = q)) = true) ∨ ∃ (i : Nat) (h : i < vs.length), v = .lit (.int .i64 (i : Nat)) ∧ (vs.take i).all (fun b => !decide (b.atom = q)) = true ∧ vs[i].atom = q) := by
 refine calls_imp (fn := Tryz.f174) rfl rfl rfl rfl rfl ?_
 have rs : Tryz.f174.results.toList = [.tmp 4] := rfl
 simp only [go_sem, simprocAttr, rs, List.length_map]
 refine W_loop_ind (fun k e H => ∃ i : Nat, k = vs.length - i ∧ i ≤ vs.length ∧ (vs.take i).all (fun b => !decide (b.atom = q)) = true ∧ Frm H0 H ∧ gget .bad e 0 = .sl .sh (vs.map encL) ∧ gget .bad e 1 = .fn 175 [.ptr p 0] ∧ gget .bad e 7 = .lit (.int .i64 (vs.length : Nat)) ∧ gget .bad e 8 = .lit (.int .i64 (i : Nat)))
  vs.length ⟨0, rfl, by omega, rfl, by repeat (first | exact Frm.refl _ | refine Frm.up ?_ _), by simp only [go_sem, simprocAttr], by simp only [go_sem, simprocAttr], by simp only [go_sem, simprocAttr], by simp only [go_sem, simprocAttr]⟩ ?_
 rintro k ih e H ⟨i, rfl, hle, hR, hF, g0, g1, g7, g8⟩
 by_cases hl : i < vs.length
 ·have d1 : decide ((i : Int) < (vs.length : Nat)) = true := by simp; omega
  have ha := iad_map (f := encL) (t := 83) (n := 4) (b := 64) (o := .sh) hl (fun _ => rfl)
  have hw1 := wrap1 (show i + 1 ≤ 9223372036854775807 by unfold LA at hvl; omega)
  have hgp : H.get p = some (avA q) := by rw [hF.get hlt]; exact hp
  have hnx := hF.nx
  have hb2 : (encL vs[i]).length = 4 := rfl
  have hb3 : (encL vs[i]).take 4 = encL vs[i] := rfl
  simp only [go_sem, simprocAttr, g0, g1, g7, g8, d1, ha, hb2, hb3]
  refine goC_ex (c_loc1 vs[i] q p _ (by simp only [go_sem, simprocAttr, hgp]) (by simp only [go_sem, simprocAttr]; omega)) ?_
  rintro v H1 ⟨rfl, hF1⟩
  have hF2 : Frm H0 H1 := (by repeat (first | exact hF | refine Frm.up ?_ _) : Frm H0 _).trans hF1
  by_cases hx : vs[i].atom = q
  ·have dx : decide (vs[i].atom = q) = true := by simpa using hx
   simp only [go_sem, simprocAttr, g0, g1, g7, g8, rs, dx]
   exact ⟨_, rfl, .inr ⟨i, hl, rfl, hR, hx⟩⟩
  ·have dx : decide (vs[i].atom = q) = false := by simpa using hx
   simp only [go_sem, simprocAttr, g0, g1, g7, g8, hw1, dx]
   exact ih (vs.length - (i + 1)) (by omega) _ _ ⟨i + 1, rfl, by omega, by rw [List.take_succ_eq_append_getElem hl, List.all_append, hR]; simp [hx], by repeat (first | exact hF2 | refine Frm.up ?_ _), by simp only [go_sem, simprocAttr, g0], by simp only [go_sem, simprocAttr, g1], by simp only [go_sem, simprocAttr, g7], by simp only [go_sem, simprocAttr]⟩
 ·have d1 : decide ((i : Int) < (vs.length : Nat)) = false := by simp; omega
  rw [List.take_of_length_le (by omega)] at hR
  simp only [go_sem, simprocAttr, g0, g1, g7, g8, d1, rs]
  exact ⟨_, rfl, .inl ⟨rfl, hR⟩⟩
theorem c_loc (s : Sta) (hs : StOk s) (q : Int × Int) (H : Heap) : (calls Tryz.prog cfgL 135 [.agg (encSt s), .agg (avA q)] H = some (.ret (.lit (.int .i64 (-1))) H) ∧ s.locs.all (fun b => !decide (b.atom = q)) = true) ∨
  ∃ (i : Nat) (h : i < s.locs.length), calls Tryz.prog cfgL 135 [.agg (encSt s), .agg (avA q)] H = some (.ret (.lit (.int .i64 (i : Nat))) H) ∧ (s.locs.take i).all (fun b => !decide (b.atom = q)) = true ∧ s.locs[i].atom = q := by
 have rs : Tryz.f135.results.toList = [.tmp 4] := rfl
 have hso : (encSt s).all AV.one = true := rfl
 have hs1 : (encSt s)[2]? = some (.sl .sh (s.locs.map encL)) := rfl
 have hsx : sanL (avA q) = avA q := rfl
 have hq3 : (avA q).all AV.one = true := rfl
 obtain ⟨v, H', hc, hv⟩ := c_idxL s.locs q 1 ((((Heap.empty.up 3).put 0 (encSt s)).put 1 (avA q)).up 5) (by simp only [go_sem, simprocAttr]) (by simp only [go_sem, simprocAttr] <;> omega) hs.2.2.2
 rcases hv with ⟨rfl, hall⟩ | ⟨i, hi, rfl, hall, hx⟩
 ·refine .inl ⟨calls_pure (fn := Tryz.f135) rfl rfl rfl rfl rfl ?_ H, hall⟩
  simp only [go_sem, simprocAttr, rs, hso, hs1, hc, hsx, hq3]
 ·refine .inr ⟨i, hi, calls_pure (fn := Tryz.f135) rfl rfl rfl rfl rfl ?_ H, hall, hx⟩
  simp only [go_sem, simprocAttr, rs, hso, hs1, hc, hsx, hq3]
def shZ : Sh := ⟨[], []⟩
theorem c_Loc (s : Sta) (hs : StOk s) (q : Int × Int) (H : Heap) : calls Tryz.prog cfgL 89 [.agg (encSt s), .agg (avA q)] H = some (.ret (.tup [.agg (encSh (((getL q s.locs).map Lc.shape).getD shZ)), .lit (.bool (getL q s.locs).isSome)]) H) := by
 refine calls_pure (fn := Tryz.f89) rfl rfl rfl rfl rfl ?_ H
 have rs : Tryz.f89.results.toList = [.cell 4 79, .tmp 5] := rfl
 have hso : (encSt s).all AV.one = true := rfl
 have hs1 : (encSt s)[2]? = some (.sl .sh (s.locs.map encL)) := rfl
 have hs3 : (encSt s).length = 3 := rfl
 have hst : (encSt s).take 3 = encSt s := rfl
 have hq1 : (avA q).length = 2 := rfl
 have hq2 : (avA q).take 2 = avA q := rfl
 have hq3 : (avA q).all AV.one = true := rfl
 have e0 : sanL [AV.agg (encSt s), .agg (avA q)] = [.agg (encSt s), .agg (avA q)] := by simp only [sanL, san, sanL_encSt]; rfl
 rw [e0]
 rcases c_loc s hs q Heap.empty with ⟨_, hall⟩ | ⟨i, hi, _, hall, hx⟩
 ·have hc : ∀ H, calls Tryz.prog cfgL 135 [.agg (encSt s), .agg (avA q)] H = some (.ret (.lit (.int .i64 (-1))) H) := fun H => by
   rcases c_loc s hs q H with ⟨h, _⟩ | ⟨i, hi, _, _, hx⟩
   ·exact h
   ·have := List.all_eq_true.1 hall s.locs[i] (List.getElem_mem hi); simp [hx] at this
  have d1 : decide ((0 : Int) ≤ -1) = false := rfl
  rw [getL_none hall]
  simp only [go_sem, simprocAttr, rs, hso, hs1, hs3, hst, hc, d1, hq1, hq2, hq3]
  rfl
 ·have hc : ∀ H, calls Tryz.prog cfgL 135 [.agg (encSt s), .agg (avA q)] H = some (.ret (.lit (.int .i64 (i : Nat))) H) := fun H => by
   rcases c_loc s hs q H with ⟨_, h⟩ | ⟨j, hj, h, hall2, hx2⟩
   ·have := List.all_eq_true.1 h s.locs[i] (List.getElem_mem hi); simp [hx] at this
   ·rcases Nat.lt_trichotomy i j with hij | hij | hij
    ·have := List.all_eq_true.1 hall2 s.locs[i] (List.mem_take_iff_getElem.2 ⟨i, by omega, rfl⟩); simp [hx] at this
    ·subst hij; exact h
    ·have := List.all_eq_true.1 hall s.locs[j] (List.mem_take_iff_getElem.2 ⟨j, by omega, rfl⟩); simp [hx2] at this
  have d1 : decide ((0 : Int) ≤ (i : Nat)) = true := by simp
  have hA := iad_map (f := encL) (t := 83) (n := 4) (b := 64) (o := .sh) hi (fun _ => rfl)
  have hbo := hs.2.2.1 s.locs[i] (List.getElem_mem hi)
  have hcl : ∀ H, calls Tryz.prog cfgL 75 [.agg (encSh s.locs[i].shape)] H = some (.ret (.agg (encSh s.locs[i].shape)) H) := fun H => calls_by rfl (fun H => by simp only [sanL, san, sanL_encSh]; exact c_objCopy s.locs[i].shape hbo H) (by simp only [san, sanL_encSh]) H
  have l1 : (encL s.locs[i]).length = 4 := rfl
  have l2 : ((encL s.locs[i]).drop 2).take 2 = encSh s.locs[i].shape := rfl
  have l3 : (encL s.locs[i]).drop 2 = encSh s.locs[i].shape := rfl
  have h1 : (encSh s.locs[i].shape).length = 2 := rfl
  have h2 : (encSh s.locs[i].shape).take 2 = encSh s.locs[i].shape := rfl
  have h3 : (encSh s.locs[i].shape).all AV.one = true := rfl
  rw [getL_some hi hall hx]
  simp only [go_sem, simprocAttr, rs, hso, hs1, hs3, hst, hc, d1, hA, hcl, hq1, hq2, hq3, l1, l2, l3, h1, h2, h3]
  rfl
end Go.Proofs.YtnoahchdmkpleaaGreat.VA

/-! In7 -/
namespace Go.Proofs.YtnoahchdmkpleaaGreat.VA
open Go Go.Shelf Go.RowKit
set_option linter.unusedVariables false
set_option linter.unusedSimpArgs false
set_option maxHeartbeats 4000000 in
set_option maxRecDepth 100000 in
theorem insLoc_shift (b n c i vc : Nat) (ad : Addr) (vs : Array Value) (nv : List Value) (t' : TypeId) (w : World) (hi : i < n) (hroom : n + 1 ≤ c) (hc63 : c ≤ 9223372036854775807)
  (hb : w.heap[b]? = some (.cells vs t' (0, 0))) (hvl : vs.size = c * 4) (hnl : nv.length = 4)
  (hnc : ∀ j u, nv[j]? = some u → w.cell? (ad.add j) = some u) (h1n : ∀ u, u ∈ nv → u.oneCell' = true) (h1o : ∀ u, u ∈ vs.toList.take (n * 4) → u.oneCell' = true) (hvb : ad.block ≠ b) (hsp : ad.spot = none) :
  Calls Tryz.prog 142 #[.slice (some ⟨b, 0, none⟩) n c, .int .i64 i, .slice (some ad) 1 vc] w fun en w' =>
   en = .returned (.slice (some ⟨b, 0, none⟩) (n + 1) c) ∧ w' = w.drew.setRow b (insRow vs.toList nv (i * 4) (n * 4)).toArray := by
 obtain ⟨vb, voff, sp⟩ := ad
 simp only at hsp hvb
 subst hsp
 have ht : Tryz.prog.underlying 24 = some (.slice 83) := by kernel_rfl
 have hinf : ∃ inf, Tryz.prog.info? 83 = some inf ∧ inf.size = 4 := ⟨_, rfl, by kernel_rfl⟩
 obtain ⟨inf, hinf1, hinf2⟩ := hinf
 have hvl2 : vs.toList.length = c * 4 := by simpa using hvl
 have hxv : ∃ x, w.cell? ⟨vb, voff, none⟩ = some x := by
  match nv, hnl with
  | [x, y, _, _], _ => exact ⟨x, by simpa [addr_add] using hnc 0 x rfl⟩
 obtain ⟨x0, hx0⟩ := hxv
 have hov : ∀ lb cb, (callFunc 182 #[.slice (some ⟨vb, voff, none⟩) 1 vc, .slice (some ⟨b, (i + 1) * 4, none⟩) lb cb]).run Tryz.prog w = .ok (.value (.bool false)) w := fun lb cb => by
  rw [run_callFunc_extern (fn := Tryz.f182) (by kernel_rfl) (by kernel_rfl) (by kernel_rfl) (by kernel_rfl) (e := Extern.SlicesOverlaps.overlaps #[24, 24] #[4]) (by kernel_rfl),
   run_overlaps_row w 24 4 83 ht 4 (fun w => by simp [sizeOf, typeInfo, hinf1, hinf2]) ⟨vb, voff, none⟩ ⟨b, (i + 1) * 4, none⟩ 1 vc lb cb hvb x0 hx0 vs t' hb (by omega)]
  rfl
 have hdl : ((vs.toList.take (n * 4)).drop (i * 4)).length = (n - i) * 4 := by rw [List.length_drop, List.length_take]; omega
 have hcp1 : ∀ ty dc sc, (Builtin.copy_ #[24, 24] ty #[.slice (some ⟨b, (i + 1) * 4, none⟩) (n - i) dc, .slice (some ⟨b, i * 4, none⟩) (n + 1 - i) sc]).run Tryz.prog w.drew =
   .ok (goInt ((n - i : Nat) : Int)) (w.drew.setRow b (vs.toList.take ((i + 1) * 4) ++ (vs.toList.take (n * 4)).drop (i * 4) ++ vs.toList.drop ((i + 1) * 4 + ((vs.toList.take (n * 4)).drop (i * 4)).length)).toArray) := fun ty dc sc =>
  run_copy_rowK w.drew _ _ ty 83 inf b ((i + 1) * 4) (n - i) dc ⟨b, i * 4, none⟩ (n + 1 - i) sc (n - i) vs t' _ ht hinf1 hb (by simp only [Nat.min_def]; split <;> omega) (by rw [hinf2, hdl])
   (fun j v hj => by
    rw [addr_add, cell_of_row w.drew b (i * 4 + j) vs t' (0, 0) hb]
    rw [List.getElem?_drop, List.getElem?_take] at hj
    split at hj
    ·rwa [Array.getElem?_toList] at hj
    ·cases hj) (by rw [hdl]; omega) (fun v hv => h1o v (List.mem_of_mem_drop hv))
 obtain ⟨R1, hR1⟩ : ∃ R1, R1 = (vs.toList.take ((i + 1) * 4) ++ (vs.toList.take (n * 4)).drop (i * 4) ++ vs.toList.drop ((i + 1) * 4 + ((vs.toList.take (n * 4)).drop (i * 4)).length)).toArray := ⟨_, rfl⟩
 have hR1s : R1.size = vs.size := by
  rw [hR1]
  simp only [List.size_toArray, List.length_append, List.length_take, hdl, List.length_drop]
  simp at hvl2 ⊢
  omega
 rw [← hR1] at hcp1
 have hb1 : (w.drew.setRow b R1).heap[b]? = some (.cells R1 t' (0, 0)) := setRow_heap w.drew b vs R1 t' (0, 0) hb
 have hcp2 : ∀ ty dc, (Builtin.copy_ #[24, 24] ty #[.slice (some ⟨b, i * 4, none⟩) (n + 1 - i) dc, .slice (some ⟨vb, voff, none⟩) 1 vc]).run Tryz.prog (w.drew.setRow b R1) =
   .ok (goInt 1) (w.drew.setRow b (insRow vs.toList nv (i * 4) (n * 4)).toArray) := fun ty dc => by
  have h := run_copy_rowK (P := Tryz.prog) (w.drew.setRow b R1) 24 24 ty 83 inf b (i * 4) (n + 1 - i) dc ⟨vb, voff, none⟩ 1 vc 1 R1 t' nv ht hinf1 hb1 (by simp only [Nat.min_def]; split <;> omega) (by rw [hinf2, hnl])
   (fun j v hj => by
    rw [addr_add, cell_setRow_other w.drew b R1 ⟨vb, voff + j, none⟩ hvb]
    have := hnc j v hj
    rwa [addr_add] at this) (by rw [hR1s]; omega) h1n
  rw [h, setRow_setRow]
  have e := insRow_two vs.toList nv (i * 4) (n * 4) (by omega) (by omega)
  rw [hnl] at e
  have e3 : (i + 1) * 4 = i * 4 + 4 := by omega
  rw [e3] at hR1
  rw [hnl, ← e, hR1]
  rfl
 have hw1 : IntKind.i64.wrap ((i : Int) + 1) = (i : Int) + 1 := by rw [IntKind.wrap_i64]; omega
 have hw2 : IntKind.i64.wrap ((n : Int) + 1) = (n : Int) + 1 := by rw [IntKind.wrap_i64]; omega
 have hz2 : ¬ ((i : Int) = (n : Int)) := by omega
 have hin : i ≤ n := by omega
 have hp3 : (i : Int) ≤ (n : Int) + 1 := by omega
 have hp1 : (0 : Int) ≤ (i : Int) + 1 := by omega
 have hp2 : (0 : Int) ≤ (n : Int) + 1 := by omega
 have hb3 : ¬ ((c : Int) < (n : Int) + 1) := by omega
 have hb2 : ¬ (c = i + 1) := by omega
 have hb4 : ¬ (c = i) := by omega
 have hgt : ((n : Int) + 1).toNat = n + 1 := by omega
 have hgi : ((i : Int) + 1).toNat = i + 1 := by omega
 have HCP1 := hid2 hcp1
 have HCP2 := hid2 hcp2
 clear hcp1 hcp2 hnc h1n h1o hR1
 go_enter Tryz.func142, Tryz.ntmps142
 go_wp2_with (simp only [hov])
 go_region_law (refine step_copy_runI rfl _ _ 24 24 rfl (.slice (some ⟨b, (i + 1) * 4, none⟩) (n - i) (c - (i + 1))) (.slice (some ⟨b, i * 4, none⟩) (n + 1 - i) (c - i)) (by simp [Act.eval, Act.put]) (by simp [Act.eval, Act.put]) (HCP1.out 3 (c - (i + 1)) (c - i)) ?_)
 go_wp2_with (refine wpList_copy_runI _ rfl _ _ 24 24 rfl (.slice (some ⟨b, i * 4, none⟩) (n + 1 - i) (c - i)) (.slice (some ⟨vb, voff, none⟩) 1 vc) (by first | rfl | simp [Act.eval, Act.put]) (by first | rfl | simp [Act.eval, Act.put]) (HCP2.out 3 (c - i)) ?_)

 go_ret
 exact ⟨rfl, rfl⟩
end Go.Proofs.YtnoahchdmkpleaaGreat.VA
