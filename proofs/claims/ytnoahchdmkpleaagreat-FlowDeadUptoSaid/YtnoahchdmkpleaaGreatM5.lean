/- What is proved: lists of atoms: in order, without a second of a kind, as they may be; the two ways to bring them there are one. No condition.
What is proved: the document's functions on lists of atoms, and atoms.May, in the abstract interpreter (VA). Condition: no longer a list than a machine holds.
What is proved: appending to what one owns, to nil, to a literal without elements, in the abstract interpreter (VA). No condition.
What is proved: the document's Norm and May of lists of atoms, in the abstract interpreter (VA). Condition: no longer a list than a machine holds.
What is proved: May of objects, the program's and the document's, in the abstract interpreter (VA). Condition: no longer lists than a machine holds.
What is proved: May of states, the program's and the document's, in the abstract interpreter (VA). Condition: no longer lists than a machine holds.
What is proved: arrays that grow at their end, in the abstract interpreter (VA). No condition.
What is proved: object.Copy, in the abstract interpreter (VA). Condition: no longer lists than a machine holds.
What is proved: state.Copy, in the abstract interpreter (VA), for every table in which slices.Clone and object.Copy are told. Condition: no longer lists than a machine holds.
What is proved: what slices.Delete of one element does to an array of the abstract interpreter (VA), out of what it does to rows of cells. Its condition: what it does to rows.
What is proved: slices.Insert of one element at []api.Bind, walked at this program: in place, in a new row, at the end. Conditions: the rows' sizes.
What is proved: slices.Insert of one element at []api.Bind, walked at this program: in a new row, at the end; and so what it does to an array. Conditions: the rows' sizes.
What is proved: slices.Delete of one element at []api.Bind, walked at this program; so what it does to an array. Conditions: the row's size.
What is proved: state.before at binds, in the abstract interpreter (VA). Condition: no longer lists than a machine holds.
What is proved: state.before at binds, in the abstract interpreter (VA). Condition: no longer lists than a machine holds.
What is proved: Delete and Insert of one bind, in the abstract interpreter (VA). Condition: no longer lists than a machine holds.
What is proved: state.set, in the abstract interpreter (VA). Condition: no longer lists than a machine holds. -/
import Derived.Test.YtnoahchdmkpleaaGreatM4
import Derived.Test.YtnoahchdmkpleaaGreatProg
/-! Pl1 -/
namespace Go.Proofs.YtnoahchdmkpleaaGreat.VA
open Go Go.RowKit Go.Sort

def ltA (x y : Int × Int) : Bool := decide (x.1 < y.1 ∨ (x.1 = y.1 ∧ x.2 < y.2))
theorem ltA_iff {x y : Int × Int} : ltA x y = true ↔ (x.1 < y.1 ∨ (x.1 = y.1 ∧ x.2 < y.2)) := by simp [ltA]
theorem ltA_trans {x y z : Int × Int} (h : ltA x y = true) (k : ltA y z = true) : ltA x z = true := by rw [ltA_iff] at *; omega
theorem ltA_irr (x : Int × Int) : ltA x x = false := by simp [ltA]
theorem ltA_tri {x y : Int × Int} (h : ltA x y = false) (k : ltA y x = false) : x = y := by
 have h' : ¬ (x.1 < y.1 ∨ (x.1 = y.1 ∧ x.2 < y.2)) := by rw [← ltA_iff, h]; simp
 have k' : ¬ (y.1 < x.1 ∨ (y.1 = x.1 ∧ y.2 < x.2)) := by rw [← ltA_iff, k]; simp
 exact Prod.ext (by omega) (by omega)
def StrictA (l : List (Int × Int)) : Prop := l.Pairwise fun x y => ltA x y = true
theorem strict_ext : ∀ {a b : List (Int × Int)}, StrictA a → StrictA b → (∀ x, x ∈ a ↔ x ∈ b) → a = b
 | [], [], _, _, _ => rfl
 | [], y :: b, _, _, h => by have := (h y).2 (List.mem_cons_self ..); cases this
 | x :: a, [], _, _, h => by have := (h x).1 (List.mem_cons_self ..); cases this
 | x :: a, y :: b, ha, hb, h => by
  have ha' := List.pairwise_cons.1 ha
  have hb' := List.pairwise_cons.1 hb
  have hxy : x = y := by
   rcases List.mem_cons.1 ((h x).1 (List.mem_cons_self ..)) with e | e
   ·exact e
   ·rcases List.mem_cons.1 ((h y).2 (List.mem_cons_self ..)) with k | k
    ·exact k.symm
    ·have h1 := hb'.1 x e
     have h2 := ha'.1 y k
     have := ltA_trans h1 h2
     rw [ltA_irr] at this; cases this
  subst hxy
  congr 1
  refine strict_ext ha'.2 hb'.2 fun z => ⟨fun hz => ?_, fun hz => ?_⟩
  ·rcases List.mem_cons.1 ((h z).1 (List.mem_cons_of_mem _ hz)) with e | e
   ·subst e; have := ha'.1 _ hz; rw [ltA_irr] at this; cases this
   ·exact e
  ·rcases List.mem_cons.1 ((h z).2 (List.mem_cons_of_mem _ hz)) with e | e
   ·subst e; have := hb'.1 _ hz; rw [ltA_irr] at this; cases this
   ·exact e
theorem leA_eq (x y : Int × Int) : leA x y = !(ltA y x) := by unfold leA ltA; rw [cmpA_lt]
theorem leA_trans (x y z : Int × Int) (h : leA x y = true) (k : leA y z = true) : leA x z = true := by
 rw [leA_eq] at *
 simp only [ltA, Bool.not_eq_true', decide_eq_false_iff_not] at *
 omega
theorem leA_total (x y : Int × Int) : (leA x y || leA y x) = true := by
 rw [leA_eq, leA_eq]
 cases h : ltA y x with
 | false => rfl
 | true =>
  cases k : ltA x y with
  | false => rfl
  | true => have := ltA_trans h k; rw [ltA_irr] at this; cases this
theorem srt_sorted (d : List (Int × Int)) : (srt d).Pairwise fun x y => leA x y = true := List.pairwise_mergeSort leA_trans leA_total d
theorem mem_srt (d : List (Int × Int)) (x : Int × Int) : x ∈ srt d ↔ x ∈ d := (List.mergeSort_perm d leA).mem_iff
theorem mem_ded : ∀ (l : List (Int × Int)) (x : Int × Int), x ∈ ded l ↔ x ∈ l
 | [], x => Iff.rfl
 | [y], x => Iff.rfl
 | y :: z :: l, x => by
  have ih := mem_ded (z :: l) x
  show x ∈ (if y = z then ded (z :: l) else y :: ded (z :: l)) ↔ _
  by_cases h : y = z
  ·subst h
   rw [if_pos rfl, ih]
   simp
  ·rw [if_neg h, List.mem_cons, ih]
   simp
theorem ded_strict : ∀ {l : List (Int × Int)}, (l.Pairwise fun x y => leA x y = true) → StrictA (ded l)
 | [], _ => List.Pairwise.nil
 | [y], _ => List.pairwise_singleton ..
 | y :: z :: l, h => by
  have h' := List.pairwise_cons.1 h
  have ih := ded_strict h'.2
  show StrictA (if y = z then ded (z :: l) else y :: ded (z :: l))
  by_cases e : y = z
  ·rw [if_pos e]; exact ih
  ·rw [if_neg e]
   refine List.pairwise_cons.2 ⟨fun x hx => ?_, ih⟩
   have hx' := (mem_ded (z :: l) x).1 hx
   have hyz : ltA y z = true := by
    have h1 := h'.1 z (List.mem_cons_self ..)
    rw [leA_eq] at h1
    cases k : ltA y z with
    | true => rfl
    | false => exact absurd (ltA_tri k (by simpa using h1)) e
   rcases List.mem_cons.1 hx' with e2 | e2
   ·rw [e2]; exact hyz
   ·have h2 := (List.pairwise_cons.1 h'.2).1 x e2
    rw [leA_eq] at h2
    cases k : ltA z x with
    | true => exact ltA_trans hyz k
    | false =>
     have : z = x := ltA_tri k (by simpa using h2)
     rw [← this]; exact hyz
theorem normA_strict (d : List (Int × Int)) : StrictA (normA d) := ded_strict (srt_sorted _)
theorem mem_normA (d : List (Int × Int)) (x : Int × Int) : x ∈ normA d ↔ x ∈ d ∧ rightA x = true := by
 unfold normA; rw [mem_ded, mem_srt, List.mem_filter]
theorem normA_idem (d : List (Int × Int)) : normA (normA d) = normA d := by
 refine strict_ext (normA_strict _) (normA_strict _) fun x => ?_
 rw [mem_normA, mem_normA]
 exact ⟨fun h => h.1, fun h => ⟨h, h.2⟩⟩
theorem normA_of {d : List (Int × Int)} (h1 : StrictA d) (h2 : ∀ x, x ∈ d → rightA x = true) : normA d = d :=
 strict_ext (normA_strict _) h1 fun x => by rw [mem_normA]; exact ⟨fun h => h.1, fun h => ⟨h, h2 x h⟩⟩
theorem normA_one {x : Int × Int} (h : rightA x = true) : normA [x] = [x] := normA_of (List.pairwise_singleton ..) (fun y hy => by simp at hy; subst hy; exact h)
theorem normA_nil : normA [] = [] := normA_of List.Pairwise.nil (fun y hy => by cases hy)
/-- May a list be? -/
def mayA (d : List (Int × Int)) : Bool := decide (d = normA d)
theorem mayA_norm (d : List (Int × Int)) : mayA (normA d) = true := by simp [mayA, normA_idem]
theorem mayA_eq {d : List (Int × Int)} (h : mayA d = true) : normA d = d := by simp only [mayA, decide_eq_true_eq] at h; exact h.symm

/-! ### the document's way: one after the other, each to its place -/
/-- An atom, laid at its place. -/
def layA (x : Int × Int) : List (Int × Int) → List (Int × Int)
 | [] => [x]
 | y :: l => if ltA x y = true then x :: y :: l else y :: layA x l
def addR (l : List (Int × Int)) (x : Int × Int) : List (Int × Int) := if rightA x = false ∨ x ∈ l then l else layA x l
theorem mem_layA (x : Int × Int) : ∀ (l : List (Int × Int)) (y : Int × Int), y ∈ layA x l ↔ y = x ∨ y ∈ l
 | [], y => by simp [layA]
 | z :: l, y => by
  unfold layA
  split
  ·simp
  ·rw [List.mem_cons, mem_layA x l y, List.mem_cons]
   constructor
   ·rintro (h | h | h)
    ·exact .inr (.inl h)
    ·exact .inl h
    ·exact .inr (.inr h)
   ·rintro (h | h | h)
    ·exact .inr (.inl h)
    ·exact .inl h
    ·exact .inr (.inr h)
theorem layA_strict {x : Int × Int} : ∀ {l : List (Int × Int)}, StrictA l → x ∉ l → StrictA (layA x l)
 | [], _, _ => List.pairwise_singleton ..
 | y :: l, h, hx => by
  have h' := List.pairwise_cons.1 h
  unfold layA
  split
  ·rename_i hlt
   refine List.pairwise_cons.2 ⟨fun z hz => ?_, h⟩
   rcases List.mem_cons.1 hz with e | e
   ·rw [e]; exact hlt
   ·exact ltA_trans hlt (h'.1 z e)
  ·rename_i hlt
   have hyx : ltA y x = true := by
    cases k : ltA y x with
    | true => rfl
    | false => exact absurd (ltA_tri (by simpa using hlt) k) (fun e => hx (by rw [e]; exact List.mem_cons_self ..))
   refine List.pairwise_cons.2 ⟨fun z hz => ?_, layA_strict h'.2 (fun e => hx (List.mem_cons_of_mem _ e))⟩
   rcases (mem_layA x l z).1 hz with e | e
   ·rw [e]; exact hyx
   ·exact h'.1 z e
theorem addR_strict {l : List (Int × Int)} (h : StrictA l) (x : Int × Int) : StrictA (addR l x) := by
 unfold addR
 split
 ·exact h
 ·rename_i hn; exact layA_strict h (fun e => hn (.inr e))
theorem mem_addR (l : List (Int × Int)) (x y : Int × Int) : y ∈ addR l x ↔ y ∈ l ∨ (y = x ∧ rightA x = true) := by
 unfold addR
 split
 ·rename_i h
  refine ⟨.inl, ?_⟩
  rintro (k | ⟨rfl, k⟩)
  ·exact k
  ·rcases h with h | h
   ·rw [h] at k; cases k
   ·exact h
 ·rename_i h
  rw [mem_layA]
  have hr : rightA x = true := by
   cases k : rightA x with
   | true => rfl
   | false => exact absurd (.inl k) h
  constructor
  ·rintro (k | k)
   ·exact .inr ⟨k, hr⟩
   ·exact .inl k
  ·rintro (k | ⟨k, _⟩)
   ·exact .inr k
   ·exact .inl k
def normR (d : List (Int × Int)) : List (Int × Int) := d.foldl addR []
theorem foldl_addR : ∀ (d l : List (Int × Int)), StrictA l → StrictA (d.foldl addR l) ∧ ∀ x, x ∈ d.foldl addR l ↔ x ∈ l ∨ (x ∈ d ∧ rightA x = true)
 | [], l, h => ⟨h, fun x => by simp⟩
 | y :: d, l, h => by
  obtain ⟨h1, h2⟩ := foldl_addR d (addR l y) (addR_strict h y)
  refine ⟨h1, fun x => ?_⟩
  rw [List.foldl_cons, h2, mem_addR, List.mem_cons]
  constructor
  ·rintro ((h | ⟨rfl, h⟩) | h)
   ·exact .inl h
   ·exact .inr ⟨.inl rfl, h⟩
   ·exact .inr ⟨.inr h.1, h.2⟩
  ·rintro (h | ⟨rfl | h, k⟩)
   ·exact .inl (.inl h)
   ·exact .inl (.inr ⟨rfl, k⟩)
   ·exact .inr ⟨h, k⟩
theorem normR_eq (d : List (Int × Int)) : normR d = normA d := by
 obtain ⟨h1, h2⟩ := foldl_addR d [] List.Pairwise.nil
 refine strict_ext h1 (normA_strict d) fun x => ?_
 unfold normR
 rw [h2, mem_normA]
 simp
end Go.Proofs.YtnoahchdmkpleaaGreat.VA

/-! Ra1 -/
namespace Go.Proofs.YtnoahchdmkpleaaGreat.VA
open Go Go.RowKit
attribute [local go_sem] Nat.add_eq_left Nat.left_eq_add true_and and_true ite_true if_false Int.cast_ofNat_Int eq_self Nat.add_assoc Option.some.injEq decide_true decide_false Bool.not_true Bool.not_false List.size_toArray List.length_cons List.length_nil
set_option linter.unusedSimpArgs false
set_option maxRecDepth 100000

/-- The table for what is pure, and keeps no arrays. -/
noncomputable def cfgR : Cfg := mkC Tryz.prog [112, 69, 70, 71, 45, 18, 66, 111,
 156, 40, 67, 37, 39, 38, 11, 10, 19, 17,
 51, 33, 20, 31, 50, 62, 35, 29, 107, 153,
 152, 106, 163, 110, 155, 154, 65] [] []
 [(60, toldBy Tryz.prog cfg1 60), (72, toldBy Tryz.prog cfg0 72), (74, tClone)] []
theorem cfgR_ok : CfgOk Tryz.prog Cond.none cfgR := mkC_ok (by kernel_rfl) (by kernel_rfl) (by
 intro p hp
 simp only [List.mem_cons, List.not_mem_nil, or_false] at hp
 rcases hp with rfl | rfl | rfl
 ·exact toldBy_ok cfg1_ok (fn := Tryz.f60) (by kernel_rfl) (by kernel_rfl) rfl
 ·exact toldBy_ok cfg0_ok (fn := Tryz.f72) (by kernel_rfl) (by kernel_rfl) rfl
 ·exact tClone_ok _) (by simp)
@[go_sem] theorem encAs_len (d : List (Int × Int)) : (encAs d).length = d.length := by simp [encAs]
theorem dec_cons {α : Type} [DecidableEq α] {x y : α} {l m : List α} (h : x = y) : decide (x :: l = y :: m) = decide (l = m) := by subst h; simp
theorem dec_cons_ne {α : Type} [DecidableEq α] {x y : α} {l m : List α} (h : ¬ x = y) : decide (x :: l = y :: m) = false := by simp [h]
theorem dec_mem {α : Type} {x y : α} {l : List α} [Decidable (x ∈ y :: l)] (h : y = x) : decide (x ∈ y :: l) = true := decide_eq_true (by subst h; simp)
theorem dec_mem_ne {α : Type} {x y : α} {l : List α} [Decidable (x ∈ y :: l)] [Decidable (x ∈ l)] (h : ¬ y = x) : decide (x ∈ l) = decide (x ∈ y :: l) := by
 have h' : ¬ x = y := fun e => h e.symm
 exact decide_eq_decide.2 (by simp [h'])
theorem dec_len {a b : Nat} (h : a = b) : decide ((a : Int) = (b : Int)) = true := by subst h; simp
theorem dec_len_ne {a b : Nat} (h : ¬ a = b) : decide ((a : Int) = (b : Int)) = false := by simp; omega
@[go_sem] theorem cfgR_imp (f : FuncId) : cfgR.imp f = false := rfl
theorem rc_norm (d : List (Int × Int)) (hl : d.length ≤ LA) (o : Own) (H : Heap) : calls Tryz.prog cfgR 60 [.sl o (encAs d)] H = some (.ret (.sl .sh (encAs (normA d))) H) :=
 calls_by rfl (fun H => by simp only [sanL, san, sanLL_encAs]; exact c_norm d hl .sh H) (by simp only [san, sanLL_encAs]) H
theorem rc_compare (x y : Int × Int) (H : Heap) : calls Tryz.prog cfgR 72 [.agg (avA x), .agg (avA y)] H = some (.ret (.lit (.int .i64 (cmpA x y))) H) :=
 calls_by rfl (fun H => c_compare x y H) rfl H
theorem rc_clone (d : List (Int × Int)) (hl : d.length ≤ LA) (o : Own) (H : Heap) : calls Tryz.prog cfgR 74 [.sl o (encAs d)] H = some (.ret (.sl .sh (encAs d)) H) := by
 refine calls_told (h := tClone) rfl ?_ H
 show tClone [.sl .sh (sanLL (encAs d))] = _
 rw [sanLL_encAs]
 unfold tClone
 simp only
 rw [if_pos ⟨List.all_eq_true.2 fun e he => by simpa using encAs_unif d e he, by rw [encAs_len]; exact hl⟩]
theorem iad_atm {t : TypeId} {b : Nat} {o : Own} {d : List (Int × Int)} {i : Nat} (h : i < d.length) : iad (some (t, 2, b)) (.sl o (encAs d)) (some i) = some (.ep (avA d[i])) := iad_some (encAs_get h) rfl
theorem drop_at {α : Type} {l : List α} {i : Nat} (h : i < l.length) : l.drop i = l[i] :: l.drop (i + 1) := List.drop_eq_getElem_cons h
theorem c_equal (a b : List (Int × Int)) (ha : a.length ≤ LA) (o o' : Own) (H : Heap) : calls Tryz.prog cfgR 112 [.sl o (encAs a), .sl o' (encAs b)] H = some (.ret (.lit (.bool (decide (a = b)))) H) := by
 refine calls_pure (fn := Tryz.f112) rfl rfl rfl rfl rfl ?_ H
 have rs : Tryz.f112.results.toList = [.tmp 4] := rfl
 by_cases hlen : a.length = b.length
 ·have e1 : decide ((a.length : Int) = (b.length : Int)) = true := dec_len hlen
  generalize hr : decide (a = b) = r
  simp only [go_sem, simprocAttr, rs, e1]
  refine W_loop_ind (fun k e H => ∃ i : Nat, k = a.length - i ∧ i ≤ a.length ∧ decide (a.drop i = b.drop i) = r ∧ gget .bad e 0 = .sl .sh (encAs a) ∧ gget .bad e 1 = .sl .sh (encAs b) ∧ gget .bad e 12 = .lit (.int .i64 (a.length : Nat)) ∧ gget .bad e 13 = .lit (.int .i64 (i : Nat)))
   a.length ⟨0, rfl, by omega, hr, by simp only [go_sem, simprocAttr], by simp only [go_sem, simprocAttr], by simp only [go_sem, simprocAttr], by simp only [go_sem, simprocAttr]⟩ ?_
  rintro k ih e H ⟨i, rfl, hle, hR, g0, g1, g12, g13⟩
  by_cases hlt : i < a.length
  ·have d1 : decide ((i : Int) < (a.length : Nat)) = true := by simp; omega
   have hw := wrap1 (show i + 1 ≤ 9223372036854775807 by unfold LA at ha; omega)
   have hA := iad_atm (t := 81) (b := 16) (o := .sh) hlt
   have hB := iad_atm (t := 81) (b := 16) (o := .sh) (d := b) (i := i) (by omega)
   rw [drop_at hlt, drop_at (show i < b.length by omega)] at hR
   simp only [go_sem, simprocAttr, g0, g1, g12, g13, d1]
   refine W_draw [(3, 7)] (by kernel_rfl) ?_
   by_cases hx : a[i] = b[i]
   ·have dx : decide (a[i] = b[i]) = true := by simpa using hx
    have hR' : decide (a.drop (i + 1) = b.drop (i + 1)) = r := by rw [← hR, dec_cons hx]
    simp only [go_sem, simprocAttr, g0, g1, g12, g13, hA, hB, dx, hw]
    exact ih (a.length - (i + 1)) (by omega) _ _ ⟨i + 1, rfl, by omega, hR', by simp only [go_sem, simprocAttr, g0], by simp only [go_sem, simprocAttr, g1], by simp only [go_sem, simprocAttr, g12], by simp only [go_sem, simprocAttr]⟩
   ·have dx : decide (a[i] = b[i]) = false := by simpa using hx
    have hR' : r = false := by rw [← hR, dec_cons_ne hx]
    subst hR'
    simp only [go_sem, simprocAttr, g0, g1, g12, g13, hA, hB, dx, hw, rs]
  ·have d1 : decide ((i : Int) < (a.length : Nat)) = false := by simp; omega
   rw [List.drop_of_length_le (by omega), List.drop_of_length_le (by omega)] at hR
   have hR' : r = true := by rw [← hR]; rfl
   subst hR'
   simp only [go_sem, simprocAttr, g0, g1, g12, g13, d1, rs]
 ·have e1 : decide ((a.length : Int) = (b.length : Int)) = false := dec_len_ne hlen
  have hr : decide (a = b) = false := by simp; exact fun h => hlen (by rw [h])
  rw [hr]
  simp only [go_sem, simprocAttr, rs, e1]
theorem c_same (a b : List (Int × Int)) (ha : a.length ≤ LA) (o o' : Own) (H : Heap) : calls Tryz.prog cfgR 18 [.sl o (encAs a), .sl o' (encAs b)] H = some (.ret (.lit (.bool (decide (a = b)))) H) := by
 refine calls_pure (fn := Tryz.f18) rfl rfl rfl rfl rfl ?_ H
 have rs : Tryz.f18.results.toList = [.tmp 4] := rfl
 by_cases hlen : a.length = b.length
 ·have e1 : decide ((a.length : Int) = (b.length : Int)) = true := dec_len hlen
  generalize hr : decide (a = b) = r
  simp only [go_sem, simprocAttr, rs, e1]
  refine W_loop_ind (fun k e H => ∃ i : Nat, k = a.length - i ∧ i ≤ a.length ∧ decide (a.drop i = b.drop i) = r ∧ gget .bad e 0 = .sl .sh (encAs a) ∧ gget .bad e 1 = .sl .sh (encAs b) ∧ gget .bad e 5 = .lit (.int .i64 (i : Nat)))
   a.length ⟨0, rfl, by omega, hr, by simp only [go_sem, simprocAttr], by simp only [go_sem, simprocAttr], by simp only [go_sem, simprocAttr]⟩ ?_
  rintro k ih e H ⟨i, rfl, hle, hR, g0, g1, g5⟩
  by_cases hlt : i < a.length
  ·have d1 : decide ((i : Int) < (a.length : Nat)) = true := by simp; omega
   have hw := wrap1 (show i + 1 ≤ 9223372036854775807 by unfold LA at ha; omega)
   have hA := iad_atm (t := 81) (b := 16) (o := .sh) hlt
   have hB := iad_atm (t := 81) (b := 16) (o := .sh) (d := b) (i := i) (by omega)
   rw [drop_at hlt, drop_at (show i < b.length by omega)] at hR
   simp only [go_sem, simprocAttr, g0, g1, g5, d1]
   refine W_draw [(3, 7)] (by kernel_rfl) ?_
   by_cases hx : a[i] = b[i]
   ·have dx : decide (a[i] = b[i]) = true := by simpa using hx
    have hR' : decide (a.drop (i + 1) = b.drop (i + 1)) = r := by rw [← hR, dec_cons hx]
    simp only [go_sem, simprocAttr, g0, g1, g5, hA, hB, dx, hw]
    exact ih (a.length - (i + 1)) (by omega) _ _ ⟨i + 1, rfl, by omega, hR', by simp only [go_sem, simprocAttr, g0], by simp only [go_sem, simprocAttr, g1], by simp only [go_sem, simprocAttr]⟩
   ·have dx : decide (a[i] = b[i]) = false := by simpa using hx
    have hR' : r = false := by rw [← hR, dec_cons_ne hx]
    subst hR'
    simp only [go_sem, simprocAttr, g0, g1, g5, hA, hB, dx, hw, rs]
  ·have d1 : decide ((i : Int) < (a.length : Nat)) = false := by simp; omega
   rw [List.drop_of_length_le (by omega), List.drop_of_length_le (by omega)] at hR
   have hR' : r = true := by rw [← hR]; rfl
   subst hR'
   simp only [go_sem, simprocAttr, g0, g1, g5, d1, rs]
 ·have e1 : decide ((a.length : Int) = (b.length : Int)) = false := dec_len_ne hlen
  have hr : decide (a = b) = false := by simp; exact fun h => hlen (by rw [h])
  rw [hr]
  simp only [go_sem, simprocAttr, rs, e1]
theorem c_may (d : List (Int × Int)) (hl : d.length ≤ LA) (o : Own) (H : Heap) : calls Tryz.prog cfgR 69 [.sl o (encAs d)] H = some (.ret (.lit (.bool (mayA d))) H) := by
 refine calls_pure (fn := Tryz.f69) rfl rfl rfl rfl rfl ?_ H
 have rs : Tryz.f69.results.toList = [.tmp 2] := rfl
 have hn : ∀ H, calls Tryz.prog cfgR 60 [.sl .sh (encAs d)] H = some (.ret (.sl .sh (encAs (normA d))) H) := rc_norm d hl .sh
 have he : ∀ H, calls Tryz.prog cfgR 112 [.sl .sh (encAs d), .sl .sh (encAs (normA d))] H = some (.ret (.lit (.bool (mayA d))) H) := c_equal d (normA d) hl .sh .sh
 simp only [go_sem, simprocAttr, rs, hn, he]
theorem c_has (d : List (Int × Int)) (x : Int × Int) (hl : d.length ≤ LA) (o : Own) (H : Heap) : calls Tryz.prog cfgR 67 [.sl o (encAs d), .agg (avA x)] H = some (.ret (.lit (.bool (decide (x ∈ d)))) H) := by
 refine calls_pure (fn := Tryz.f67) rfl rfl rfl rfl rfl ?_ H
 have rs : Tryz.f67.results.toList = [.tmp 4] := rfl
 generalize hr : decide (x ∈ d) = r
 have hsx : sanL (avA x) = avA x := rfl
 simp only [go_sem, simprocAttr, rs, hsx]
 refine W_loop_ind (fun k e H => ∃ i : Nat, k = d.length - i ∧ i ≤ d.length ∧ decide (x ∈ d.drop i) = r ∧ gget .bad e 0 = .sl .sh (encAs d) ∧ gget .bad e 3 = .ptr 0 0 ∧ gget .bad e 5 = .lit (.int .i64 (i : Nat)) ∧ H.get 0 = some (avA x))
  d.length ⟨0, rfl, by omega, by rw [List.drop_zero]; exact hr, by simp only [go_sem, simprocAttr], by simp only [go_sem, simprocAttr], by simp only [go_sem, simprocAttr], by simp only [go_sem, simprocAttr]⟩ ?_
 rintro k ih e H ⟨i, rfl, hle, hR, g0, g3, g5, hg⟩
 by_cases hlt : i < d.length
 ·have d1 : decide ((i : Int) < (d.length : Nat)) = true := by simp; omega
  have hw := wrap1 (show i + 1 ≤ 9223372036854775807 by unfold LA at hl; omega)
  have hA := iad_atm (t := 81) (b := 16) (o := .sh) hlt
  rw [drop_at hlt] at hR
  simp only [go_sem, simprocAttr, g0, g3, g5, d1]
  refine W_draw [(3, 4)] (by kernel_rfl) ?_
  by_cases hx : d[i] = x
  ·have dx : decide (d[i] = x) = true := by simpa using hx
   have hR' : r = true := by rw [← hR]; exact dec_mem hx
   subst hR'
   simp only [go_sem, simprocAttr, g0, g3, g5, hA, hg, dx, hw, rs, List.drop_zero]
  ·have dx : decide (d[i] = x) = false := by simpa using hx
   have hR' : decide (x ∈ d.drop (i + 1)) = r := by rw [← hR]; exact dec_mem_ne hx
   simp only [go_sem, simprocAttr, g0, g3, g5, hA, hg, dx, hw, List.drop_zero]
   exact ih (d.length - (i + 1)) (by omega) _ _ ⟨i + 1, rfl, by omega, hR', by simp only [go_sem, simprocAttr, g0], by simp only [go_sem, simprocAttr, g3], by simp only [go_sem, simprocAttr], by simp only [go_sem, simprocAttr, hg]⟩
 ·have d1 : decide ((i : Int) < (d.length : Nat)) = false := by simp; omega
  rw [List.drop_of_length_le (by omega)] at hR
  have hR' : r = false := by rw [← hR]; rfl
  subst hR'
  simp only [go_sem, simprocAttr, g0, g3, g5, d1, rs]
theorem c_less (x y : Int × Int) (H : Heap) : calls Tryz.prog cfgR 40 [.agg (avA x), .agg (avA y)] H = some (.ret (.lit (.bool (ltA x y))) H) := by
 refine calls_pure (fn := Tryz.f40) rfl rfl rfl rfl rfl ?_ H
 have rs : Tryz.f40.results.toList = [.tmp 4] := rfl
 obtain ⟨a, b⟩ := x
 obtain ⟨a', b'⟩ := y
 generalize hr : ltA (a, b) (a', b') = r
 unfold ltA at hr
 unfold avA
 by_cases h1 : a < a'
 ·have d1 : decide (a < a') = true := by simpa using h1
  have hr' : r = true := by rw [← hr]; simp [h1]
  subst hr'
  simp only [go_sem, simprocAttr, rs, d1]
 ·have d1 : decide (a < a') = false := by simpa using h1
  by_cases h2 : a = a'
  ·have d2 : decide (a = a') = true := by simpa using h2
   have hr' : decide (b < b') = r := by rw [← hr]; simp [h2]
   simp only [go_sem, simprocAttr, rs, d1, d2, hr']
  ·have d2 : decide (a = a') = false := by simpa using h2
   have hr' : r = false := by rw [← hr]; simp [h1, h2]
   subst hr'
   simp only [go_sem, simprocAttr, rs, d1, d2]
end Go.Proofs.YtnoahchdmkpleaaGreat.VA

/-! Ap1 -/
namespace Go.Proofs.YtnoahchdmkpleaaGreat.VA
open Go Go.RowKit
set_option linter.unusedSimpArgs false

/-- May one append: to what one owns, to nil, to a literal without elements. -/
def AppOk (H : Heap) (o : Own) (n : Nat) (e : TypeId) (sz : Nat) : Prop :=
 match o with
 | .ex => n = 0
 | o => OwnOk H o e sz
@[go_sem] theorem AppOk_up (H : Heap) (k : Nat) (o : Own) (n : Nat) (e : TypeId) (sz : Nat) : AppOk (H.up k) o n e sz = AppOk H o n e sz := by cases o <;> rfl
@[go_sem] theorem AppOk_put (H : Heap) (r : Nat) (cs : List AV) (o : Own) (n : Nat) (e : TypeId) (sz : Nat) : AppOk (H.put r cs) o n e sz = AppOk H o n e sz := by cases o <;> rfl
@[go_sem] theorem AppOk_ex (H : Heap) (n : Nat) (e : TypeId) (sz : Nat) : AppOk H .ex n e sz = (n = 0) := rfl
@[go_sem] theorem AppOk_nil (H : Heap) (n : Nat) (e : TypeId) (sz : Nat) : AppOk H .nil n e sz = True := rfl
@[go_sem] theorem AppOk_ownUs (H : Heap) (o : Own) (id : Nat) (n : Nat) (e : TypeId) (sz : Nat) : AppOk (appU H (ownUs o id)) (.own id e sz) n e sz = True := OwnOk_ownUs o e sz
theorem append_any {P : Program} {t : TypeId} {e : TypeId} {sz bs : Nat} {o o' : Own} {es xs : List (List AV)} {x : List AV} (ht : tElem P t = some (e, sz, bs)) (hz : zeroOk P e sz = true) (hs : 0 < sz)
  (hb : (es.length + (xs.length + 1)) * bs ≤ 140737488355328) (hl : es.length + (xs.length + 1) ≤ 140737488355328) (hx : x.length = sz) (H : Heap) (id : Nat) (ho : AppOk H o es.length e sz) (hmu : mutT e = false := by rfl) :
  aAppend P t (.sl o es) (.sl o' (x :: xs)) H id = some (.sl (.own id e sz) (es ++ sanLL (x :: xs)), ownUs o id, ownRs o) := by
 cases o with
 | ex =>
  have : es = [] := List.eq_nil_of_length_eq_zero ho
  subst this
  rw [append_ex ht hz hs hb hl hx H id]; rfl
 | nil => exact append_eq ht hz hs hb hl hx H id ho hmu
 | own k e' z => exact append_eq ht hz hs hb hl hx H id ho hmu
 | sh => exact ho.elim
end Go.Proofs.YtnoahchdmkpleaaGreat.VA

/-! Ra2 -/
namespace Go.Proofs.YtnoahchdmkpleaaGreat.VA
open Go Go.RowKit
attribute [local go_sem] Nat.add_eq_left Nat.left_eq_add true_and and_true ite_true if_false Int.cast_ofNat_Int eq_self Nat.add_assoc Option.some.injEq decide_true decide_false Bool.not_true Bool.not_false List.size_toArray List.length_cons List.length_nil
set_option linter.unusedSimpArgs false
set_option maxRecDepth 100000

@[go_sem] theorem bs0_atm : aBuildSlice Tryz.prog 50 0 [] = some (.sl .ex []) := build0 el_sAtm zr_atom rfl rfl
@[go_sem] theorem bs1_atm (x : Int × Int) : aBuildSlice Tryz.prog 50 1 [(0, .agg (avA x))] = some (.sl .ex [avA x]) := build1 el_sAtm (by decide) zr_atom rfl rfl _ rfl rfl
theorem app_atm (d : List (Int × Int)) (x : Int × Int) (o o' : Own) (hl : d.length + 1 ≤ LA) (H : Heap) (id : Nat) (ho : AppOk H o d.length 81 2) :
  aAppend Tryz.prog 50 (.sl o (encAs d)) (.sl o' [avA x]) H id = some (.sl (.own id 81 2) (encAs (d ++ [x])), ownUs o id, ownRs o) := by
 rw [append_any el_sAtm zo_sAtm (by decide) (by simp [encAs]; unfold LA at hl; omega) (by simp [encAs]; unfold LA at hl; omega) rfl H id (by rw [encAs_len]; exact ho)]
 simp [encAs, sanLL, sanL_avA]
theorem c_rRight (x : Int × Int) (H : Heap) : calls Tryz.prog cfgR 156 [.agg (avA x)] H = some (.ret (.lit (.bool (rightA x))) H) := by
 refine calls_pure (fn := Tryz.f156) rfl rfl rfl rfl rfl ?_ H
 have rs : Tryz.f156.results.toList = [.tmp 2] := rfl
 obtain ⟨k, n⟩ := x
 generalize hr : rightA (k, n) = r
 unfold rightA at hr
 simp only at hr
 unfold avA
 by_cases a1 : 3 ≤ k
 ·have d1 : decide (3 ≤ k) = true := by simpa using a1
  by_cases a2 : k ≤ 5
  ·have d2 : decide (k ≤ 5) = true := by simpa using a2
   rw [if_pos (by omega)] at hr
   simp only [go_sem, simprocAttr, rs, d1, d2, hr]
  ·have d2 : decide (k ≤ 5) = false := by simpa using a2
   have d3 : decide (0 ≤ k) = true := by simp; omega
   rw [if_neg (by omega)] at hr
   by_cases a3 : k ≤ 6
   ·have d4 : decide (k ≤ 6) = true := by simpa using a3
    rw [if_pos (by omega)] at hr
    simp only [go_sem, simprocAttr, rs, d1, d2, d3, d4, hr]
   ·have d4 : decide (k ≤ 6) = false := by simpa using a3
    rw [if_neg (by omega)] at hr
    subst hr
    simp only [go_sem, simprocAttr, rs, d1, d2, d3, d4]
 ·have d1 : decide (3 ≤ k) = false := by simpa using a1
  rw [if_neg (by omega)] at hr
  by_cases a3 : 0 ≤ k
  ·have d3 : decide (0 ≤ k) = true := by simpa using a3
   have d4 : decide (k ≤ 6) = true := by simp; omega
   rw [if_pos (by omega)] at hr
   simp only [go_sem, simprocAttr, rs, d1, d3, d4, hr]
  ·have d3 : decide (0 ≤ k) = false := by simpa using a3
   rw [if_neg (by omega)] at hr
   subst hr
   simp only [go_sem, simprocAttr, rs, d1, d3]
theorem c_add (l : List (Int × Int)) (x : Int × Int) (hl : l.length + 1 ≤ LA) (o : Own) (H : Heap) : calls Tryz.prog cfgR 111 [.sl o (encAs l), .agg (avA x)] H = some (.ret (.sl .sh (encAs (addR l x))) H) := by
 refine calls_pure (fn := Tryz.f111) rfl rfl rfl rfl rfl ?_ H
 have rs : Tryz.f111.results.toList = [.tmp 4] := rfl
 have hsx : sanL (avA x) = avA x := rfl
 have hh : ∀ H, calls Tryz.prog cfgR 67 [.sl .sh (encAs l), .agg (avA x)] H = some (.ret (.lit (.bool (decide (x ∈ l)))) H) := c_has l x (by omega) .sh
 by_cases hx : rightA x = true
 ·by_cases hm : x ∈ l
  ·have dm : decide (x ∈ l) = true := by simpa using hm
   have hR : addR l x = l := by unfold addR; rw [if_pos (.inr hm)]
   rw [hR]
   simp only [go_sem, simprocAttr, rs, hsx, c_rRight, hx, hh, dm]
  ·have dm : decide (x ∈ l) = false := by simpa using hm
   have hR : addR l x = layA x l := by unfold addR; rw [if_neg (by rw [hx]; simp [hm])]
   rw [hR]
   generalize hr : layA x l = r
   have hrl : ∀ m : List (Int × Int), (layA x m).length = m.length + 1 := by
    intro m
    induction m with
    | nil => rfl
    | cons y m ih => unfold layA; split <;> simp [ih]
   simp only [go_sem, simprocAttr, rs, hsx, c_rRight, hx, hh, dm]
   refine W_loop_ind (fun k e H => ∃ (i : Nat) (acc : List (Int × Int)) (b : Bool) (o : Own), k = l.length - i ∧ i ≤ l.length ∧ acc ++ (if b = true then l.drop i else layA x (l.drop i)) = r ∧ gget .bad e 0 = .sl .sh (encAs l) ∧ gget .bad e 3 = .ptr 0 0 ∧ gget .bad e 5 = .sl o (encAs acc) ∧
     gget .bad e 6 = .lit (.bool b) ∧ gget .bad e 7 = .lit (.int .i64 (i : Nat)) ∧ H.get 0 = some (avA x) ∧ AppOk H o acc.length 81 2)
    l.length ⟨0, [], false, .ex, rfl, by omega, hr, by simp only [go_sem, simprocAttr], by simp only [go_sem, simprocAttr], by simp only [go_sem, simprocAttr]; rfl, by simp only [go_sem, simprocAttr], by simp only [go_sem, simprocAttr], by simp only [go_sem, simprocAttr], by simp only [go_sem, simprocAttr]⟩ ?_
   rintro k ih e H ⟨i, acc, b, o, rfl, hle, hR, g0, g3, g5, g6, g7, hg, ho⟩
   have hlen : acc.length + (l.length - i) ≤ l.length + 1 ∧ (b = false → acc.length + (l.length - i) ≤ l.length) := by
    have h1 := congrArg List.length hR
    rw [← hr, hrl, List.length_append] at h1
    cases b with
    | true => simp at h1; exact ⟨by omega, fun h => by cases h⟩
    | false => rw [if_neg (by simp), hrl, List.length_drop] at h1; exact ⟨by omega, fun _ => by omega⟩
   by_cases hlt : i < l.length
   ·have d1 : decide ((i : Int) < (l.length : Nat)) = true := by simp; omega
    have hw := wrap1 (show i + 1 ≤ 9223372036854775807 by unfold LA at hl; omega)
    have hA := iad_atm (t := 81) (b := 16) (o := .sh) hlt
    rw [drop_at hlt] at hR
    simp only [go_sem, simprocAttr, g0, g3, g5, g6, g7, d1]
    refine W_draw [(3, 7)] (by kernel_rfl) ?_
    have ap1 : ∀ H' id, AppOk H' o acc.length 81 2 → aAppend Tryz.prog 50 (.sl o (encAs acc)) (.sl .ex [avA l[i]]) H' id = some (.sl (.own id 81 2) (encAs (acc ++ [l[i]])), ownUs o id, ownRs o) :=
     fun H' id h => app_atm acc l[i] o .ex (by omega) H' id h
    cases b with
    | true =>
     simp only [go_sem, simprocAttr, g0, g3, g5, g6, g7, hA, hg, hw, ap1, ho]
     exact ih (l.length - (i + 1)) (by omega) _ _ ⟨i + 1, acc ++ [l[i]], true, .own _ _ _, rfl, by omega, by rw [if_pos rfl] at hR ⊢; rw [List.append_assoc]; exact hR, by simp only [go_sem, simprocAttr, g0], by simp only [go_sem, simprocAttr, g3], by simp only [go_sem, simprocAttr]; exact rfl, by simp only [go_sem, simprocAttr, g6], by simp only [go_sem, simprocAttr], by simp only [go_sem, simprocAttr, hg], by simp only [go_sem, simprocAttr]⟩
    | false =>
     have hlf := hlen.2 rfl
     rw [if_neg (by simp)] at hR
     by_cases hx2 : ltA x l[i] = true
     ·have ap0 : ∀ H' id, AppOk H' o acc.length 81 2 → aAppend Tryz.prog 50 (.sl o (encAs acc)) (.sl .ex [avA x]) H' id = some (.sl (.own id 81 2) (encAs (acc ++ [x])), ownUs o id, ownRs o) :=
       fun H' id h => app_atm acc x o .ex (by omega) H' id h
      have ap2 : ∀ (k : Nat) (H' : Heap) (id : Nat), AppOk H' (.own k 81 2) (acc ++ [x]).length 81 2 → aAppend Tryz.prog 50 (.sl (.own k 81 2) (encAs (acc ++ [x]))) (.sl .ex [avA l[i]]) H' id =
        some (.sl (.own id 81 2) (encAs (acc ++ [x] ++ [l[i]])), ownUs (.own k 81 2) id, ownRs (.own k 81 2)) :=
       fun k H' id h => app_atm (acc ++ [x]) l[i] _ .ex (by simp; omega) H' id h
      simp only [go_sem, simprocAttr, g0, g3, g5, g6, g7, hA, hg, hw, ap0, ap2, ho, c_less, hx2, List.drop_zero]
      have hR' : acc ++ [x] ++ [l[i]] ++ l.drop (i + 1) = r := by rw [← hR]; unfold layA; rw [if_pos hx2]; simp only [List.append_assoc, List.cons_append, List.nil_append]
      exact ih (l.length - (i + 1)) (by omega) _ _ ⟨i + 1, acc ++ [x] ++ [l[i]], true, .own _ _ _, rfl, by omega, by rw [if_pos rfl]; exact hR', by simp only [go_sem, simprocAttr, g0], by simp only [go_sem, simprocAttr, g3], by simp only [go_sem, simprocAttr]; exact rfl, by simp only [go_sem, simprocAttr], by simp only [go_sem, simprocAttr], by simp only [go_sem, simprocAttr, hg], by simp only [go_sem, simprocAttr]⟩
     ·have hx3 : ltA x l[i] = false := by simpa using hx2
      simp only [go_sem, simprocAttr, g0, g3, g5, g6, g7, hA, hg, hw, ap1, ho, c_less, hx3, List.drop_zero]
      have hR' : acc ++ [l[i]] ++ layA x (l.drop (i + 1)) = r := by
       rw [← hR]
       show _ = acc ++ (if ltA x l[i] = true then x :: l[i] :: l.drop (i + 1) else l[i] :: layA x (l.drop (i + 1)))
       rw [if_neg hx2, List.append_assoc]; rfl
      exact ih (l.length - (i + 1)) (by omega) _ _ ⟨i + 1, acc ++ [l[i]], false, .own _ _ _, rfl, by omega, by rw [if_neg (by simp)]; exact hR', by simp only [go_sem, simprocAttr, g0], by simp only [go_sem, simprocAttr, g3], by simp only [go_sem, simprocAttr]; exact rfl, by simp only [go_sem, simprocAttr, g6], by simp only [go_sem, simprocAttr], by simp only [go_sem, simprocAttr, hg], by simp only [go_sem, simprocAttr]⟩
   ·have d1 : decide ((i : Int) < (l.length : Nat)) = false := by simp; omega
    rw [List.drop_of_length_le (by omega)] at hR
    cases b with
    | true =>
     rw [if_pos rfl, List.append_nil] at hR
     subst hR
     simp only [go_sem, simprocAttr, g0, g3, g5, g6, g7, d1, rs]
    | false =>
     have hlf := hlen.2 rfl
     rw [if_neg (by simp)] at hR
     have hR' : acc ++ [x] = r := hR
     have ap0 : ∀ H' id, AppOk H' o acc.length 81 2 → aAppend Tryz.prog 50 (.sl o (encAs acc)) (.sl .ex [avA x]) H' id = some (.sl (.own id 81 2) (encAs (acc ++ [x])), ownUs o id, ownRs o) :=
      fun H' id h => app_atm acc x o .ex (by omega) H' id h
     simp only [go_sem, simprocAttr, g0, g3, g5, g6, g7, d1, rs, hg, ap0, ho, List.drop_zero, hR']
 ·have hx' : rightA x = false := by simpa using hx
  have hR : addR l x = l := by unfold addR; rw [if_pos (.inl hx')]
  rw [hR]
  simp only [go_sem, simprocAttr, rs, hsx, c_rRight, hx', hh]
theorem addR_len (l : List (Int × Int)) (x : Int × Int) : (addR l x).length ≤ l.length + 1 := by
 have hrl : ∀ m : List (Int × Int), (layA x m).length = m.length + 1 := by
  intro m
  induction m with
  | nil => rfl
  | cons y m ih => unfold layA; split <;> simp [ih]
 unfold addR
 split
 ·omega
 ·rw [hrl]; exact Nat.le_refl _
theorem foldl_len : ∀ (d l : List (Int × Int)), (d.foldl addR l).length ≤ l.length + d.length
 | [], l => by simp
 | x :: d, l => by
  have := foldl_len d (addR l x)
  have := addR_len l x
  rw [List.foldl_cons, List.length_cons]; omega
theorem c_rNorm (d : List (Int × Int)) (hl : d.length + 1 ≤ LA) (o : Own) (H : Heap) : calls Tryz.prog cfgR 66 [.sl o (encAs d)] H = some (.ret (.sl .sh (encAs (normR d))) H) := by
 refine calls_pure (fn := Tryz.f66) rfl rfl rfl rfl rfl ?_ H
 have rs : Tryz.f66.results.toList = [.tmp 2] := rfl
 generalize hr : normR d = r
 unfold normR at hr
 simp only [go_sem, simprocAttr, rs]
 refine W_loop_ind (fun k e H => ∃ (i : Nat) (acc : List (Int × Int)) (o : Own), k = d.length - i ∧ i ≤ d.length ∧ (d.drop i).foldl addR acc = r ∧ acc.length ≤ i ∧ gget .bad e 0 = .sl .sh (encAs d) ∧ gget .bad e 3 = .sl o (encAs acc) ∧ gget .bad e 4 = .lit (.int .i64 (i : Nat)))
  d.length ⟨0, [], .ex, rfl, by omega, hr, by simp, by simp only [go_sem, simprocAttr], by simp only [go_sem, simprocAttr]; rfl, by simp only [go_sem, simprocAttr]⟩ ?_
 rintro k ih e H ⟨i, acc, o, rfl, hle, hR, hal, g0, g3, g4⟩
 by_cases hlt : i < d.length
 ·have d1 : decide ((i : Int) < (d.length : Nat)) = true := by simp; omega
  have hw := wrap1 (show i + 1 ≤ 9223372036854775807 by unfold LA at hl; omega)
  have hA := iad_atm (t := 81) (b := 16) (o := .sh) hlt
  rw [drop_at hlt, List.foldl_cons] at hR
  have hc : ∀ H, calls Tryz.prog cfgR 111 [.sl o (encAs acc), .agg (avA d[i])] H = some (.ret (.sl .sh (encAs (addR acc d[i]))) H) := c_add acc d[i] (by omega) o
  simp only [go_sem, simprocAttr, g0, g3, g4, d1, hA, hw, hc]
  have := addR_len acc d[i]
  exact ih (d.length - (i + 1)) (by omega) _ _ ⟨i + 1, addR acc d[i], .sh, rfl, by omega, hR, by omega, by simp only [go_sem, simprocAttr, g0], by simp only [go_sem, simprocAttr], by simp only [go_sem, simprocAttr]⟩
 ·have d1 : decide ((i : Int) < (d.length : Nat)) = false := by simp; omega
  rw [List.drop_of_length_le (by omega)] at hR
  have hR' : acc = r := hR
  subst hR'
  simp only [go_sem, simprocAttr, g0, g3, g4, d1, rs]
theorem c_rMay (d : List (Int × Int)) (hl : d.length + 1 ≤ LA) (o : Own) (H : Heap) : calls Tryz.prog cfgR 37 [.sl o (encAs d)] H = some (.ret (.lit (.bool (mayA d))) H) := by
 refine calls_pure (fn := Tryz.f37) rfl rfl rfl rfl rfl ?_ H
 have rs : Tryz.f37.results.toList = [.tmp 2] := rfl
 have hn : ∀ H, calls Tryz.prog cfgR 66 [.sl .sh (encAs d)] H = some (.ret (.sl .sh (encAs (normA d))) H) := by rw [← normR_eq]; exact c_rNorm d hl .sh
 have he : ∀ H, calls Tryz.prog cfgR 18 [.sl .sh (encAs d), .sl .sh (encAs (normA d))] H = some (.ret (.lit (.bool (mayA d))) H) := c_same d (normA d) (by omega) .sh .sh
 simp only [go_sem, simprocAttr, rs, hn, he]
end Go.Proofs.YtnoahchdmkpleaaGreat.VA

/-! Ra3 -/
namespace Go.Proofs.YtnoahchdmkpleaaGreat.VA
open Go Go.RowKit
attribute [local go_sem] Nat.add_eq_left Nat.left_eq_add true_and and_true ite_true if_false Int.cast_ofNat_Int eq_self Nat.add_assoc Option.some.injEq decide_true decide_false Bool.not_true Bool.not_false List.size_toArray List.length_cons List.length_nil
set_option linter.unusedSimpArgs false
set_option maxRecDepth 100000

/-! ### states -/
structure Bnd where
 nm : ByteArray
 vals : List (Int × Int)
structure Fd where
 nm : ByteArray
 sure : Bool
 vals : List (Int × Int)
structure Sh where
 fields : List Fd
 proto : List (Int × Int)
structure Lc where
 atom : Int × Int
 shape : Sh
structure Sta where
 dead : Bool
 vars : List Bnd
 locs : List Lc
def encB (b : Bnd) : List AV := [.lit (.string b.nm), .sl .sh (encAs b.vals)]
def encF (f : Fd) : List AV := [.lit (.string f.nm), .lit (.bool f.sure), .sl .sh (encAs f.vals)]
def encSh (s : Sh) : List AV := [.sl .sh (s.fields.map encF), .sl .sh (encAs s.proto)]
def encL (l : Lc) : List AV := [.lit (.int .i64 l.atom.1), .lit (.int .i64 l.atom.2), .sl .sh (l.shape.fields.map encF), .sl .sh (encAs l.shape.proto)]
def encSt (s : Sta) : List AV := [.lit (.bool s.dead), .sl .sh (s.vars.map encB), .sl .sh (s.locs.map encL)]
theorem sanL_encB (b : Bnd) : sanL (encB b) = encB b := by simp only [encB, sanL, san, sanLL_encAs]
theorem sanL_encF (f : Fd) : sanL (encF f) = encF f := by simp only [encF, sanL, san, sanLL_encAs]
@[go_sem] theorem sanLL_F (l : List Fd) : sanLL (l.map encF) = l.map encF := by rw [sanLL_map, List.map_map]; congr 1; funext f; exact sanL_encF f
@[go_sem] theorem sanLL_B (l : List Bnd) : sanLL (l.map encB) = l.map encB := by rw [sanLL_map, List.map_map]; congr 1; funext f; exact sanL_encB f
@[go_sem] theorem sanL_encSh (s : Sh) : sanL (encSh s) = encSh s := by simp only [encSh, sanL, san, sanLL_encAs, sanLL_F]
theorem sanL_encL (l : Lc) : sanL (encL l) = encL l := by simp only [encL, sanL, san, sanLL_encAs, sanLL_F]
@[go_sem] theorem sanLL_L (l : List Lc) : sanLL (l.map encL) = l.map encL := by rw [sanLL_map, List.map_map]; congr 1; funext f; exact sanL_encL f
@[go_sem] theorem sanL_encSt (s : Sta) : sanL (encSt s) = encSt s := by simp only [encSt, sanL, san, sanLL_B, sanLL_L]
def strLt (a b : ByteArray) : Bool := Op.bytesLess a.data.toList b.data.toList
@[go_sem] theorem aStr_geq (a b : ByteArray) : aStr .geq a b = some (.lit (.bool (!strLt a b))) := rfl
theorem iad_map {α : Type} {f : α → List AV} {t : TypeId} {n b : Nat} {o : Own} {l : List α} {i : Nat} (h : i < l.length) (hf : ∀ x, (f x).length = n) : iad (some (t, n, b)) (.sl o (l.map f)) (some i) = some (.ep (f l[i])) :=
 iad_some (by simp [h]) (hf _)
def upF : Option ByteArray → List Fd → Bool
 | _, [] => true
 | p, f :: l => mayA f.vals && ((match p with | none => true | some q => strLt q f.nm) && upF (some f.nm) l)
def prvF (l : List Fd) (i : Nat) : Option ByteArray := if i = 0 then none else (l[i - 1]?).map Fd.nm
theorem prvF_succ {l : List Fd} {i : Nat} (h : i < l.length) : prvF l (i + 1) = some l[i].nm := by simp [prvF, h]
def mayS (s : Sh) : Bool := upF none s.fields && mayA s.proto
def FOk (f : Fd) : Prop := f.vals.length + 1 ≤ LA
def ShOk (s : Sh) : Prop := (∀ f, f ∈ s.fields → FOk f) ∧ s.fields.length ≤ LA ∧ s.proto.length + 1 ≤ LA
theorem c_objMay (s : Sh) (hs : ShOk s) (H : Heap) : calls Tryz.prog cfgR 71 [.agg (encSh s)] H = some (.ret (.lit (.bool (mayS s))) H) := by
 refine calls_pure (fn := Tryz.f71) rfl rfl rfl rfl rfl ?_ H
 have rs : Tryz.f71.results.toList = [.tmp 2] := rfl
 obtain ⟨fs, pr⟩ := s
 obtain ⟨hf, hfl, hpl⟩ := hs
 simp only at hf hfl hpl
 generalize hr : mayS ⟨fs, pr⟩ = r
 unfold mayS at hr
 simp only at hr
 unfold encSh
 simp only [go_sem, simprocAttr, rs]
 refine W_loop_ind (fun k e H => ∃ i : Nat, k = fs.length - i ∧ i ≤ fs.length ∧ (upF (prvF fs i) (fs.drop i) && mayA pr) = r ∧ gget .bad e 1 = .ptr 0 0 ∧ gget .bad e 6 = .sl .sh (fs.map encF) ∧ gget .bad e 7 = .lit (.int .i64 (fs.length : Nat)) ∧ gget .bad e 8 = .lit (.int .i64 (i : Nat)) ∧
   H.get 0 = some [.sl .sh (fs.map encF), .sl .sh (encAs pr)] ∧ 1 ≤ H.next)
  fs.length ⟨0, rfl, by omega, hr, by simp only [go_sem, simprocAttr], by simp only [go_sem, simprocAttr], by simp only [go_sem, simprocAttr, List.length_map], by simp only [go_sem, simprocAttr], by simp only [go_sem, simprocAttr], by simp only [go_sem, simprocAttr]⟩ ?_
 rintro k ih e H ⟨i, rfl, hle, hR, g1, g6, g7, g8, hg, hnx⟩
 obtain ⟨m, hm⟩ : ∃ m, H.next = m + 1 := ⟨H.next - 1, by omega⟩
 by_cases hlt : i < fs.length
 ·have d1 : decide ((i : Int) < (fs.length : Nat)) = true := by simp; omega
  have hw := wrap1 (show i + 1 ≤ 9223372036854775807 by unfold LA at hfl; omega)
  have hA := iad_map (f := encF) (t := 85) (n := 3) (b := 48) (o := .sh) hlt (fun _ => rfl)
  rw [drop_at hlt] at hR
  have hfo := hf fs[i] (List.getElem_mem hlt)
  have hpi : prvF fs (i + 1) = some fs[i].nm := prvF_succ hlt
  generalize hx : fs[i] = x at hA hR hfo hpi
  have hc : ∀ H, calls Tryz.prog cfgR 69 [.sl .sh (encAs x.vals)] H = some (.ret (.lit (.bool (mayA x.vals))) H) := c_may x.vals (by unfold FOk at hfo; omega) .sh
  have hA' : iad (some (85, 3, 48)) (.sl .sh (fs.map encF)) (some i) = some (.ep [.lit (.string x.nm), .lit (.bool x.sure), .sl .sh (encAs x.vals)]) := hA
  clear hA
  simp only [go_sem, simprocAttr, g1, g6, g7, g8, hm, d1, hA']
  refine W_draw [(9, 16), (14, 16)] (by kernel_rfl) ?_
  cases hv : mayA x.vals with
  | false =>
   have hR' : r = false := by rw [← hR]; simp [upF, hv]
   subst hR'
   simp only [go_sem, simprocAttr, g1, g6, g7, g8, hm, hA', hc, hv, rs]
  | true =>
   by_cases hi0 : i = 0
   ·subst hi0
    have hR' : (upF (prvF fs (0 + 1)) (fs.drop (0 + 1)) && mayA pr) = r := by rw [← hR, hpi]; simp [upF, hv, prvF]
    have d2 : decide ((0 : Int) < 0) = false := rfl
    simp only [go_sem, simprocAttr, g1, g6, g7, g8, hm, hA', hc, hv, d2] at hw ⊢
    exact ih (fs.length - (0 + 1)) (by omega) _ _ ⟨0 + 1, rfl, by omega, hR', by simp only [go_sem, simprocAttr, g1], by simp only [go_sem, simprocAttr, g6], by simp only [go_sem, simprocAttr, g7], by simp only [go_sem, simprocAttr, hw] <;> rfl, by simp only [go_sem, simprocAttr, hm, hg], by simp only [go_sem, simprocAttr, hm] <;> omega⟩
   ·have d2 : decide ((0 : Int) < (i : Nat)) = true := by simp; omega
    have hv1 := wrapD (show 0 < i by omega) (by unfold LA at hfl; omega)
    have hi1 : i - 1 < fs.length := by omega
    have hB := iad_map (f := encF) (t := 85) (n := 3) (b := 48) (o := .sh) hi1 (fun _ => rfl)
    have hp0 : prvF fs i = some fs[i - 1].nm := by simp [prvF, hi0, hi1]
    generalize hy : fs[i - 1] = y at hB hp0
    have hB' : iad (some (85, 3, 48)) (.sl .sh (fs.map encF)) (some (i - 1)) = some (.ep [.lit (.string y.nm), .lit (.bool y.sure), .sl .sh (encAs y.vals)]) := hB
    clear hB
    cases hst : strLt y.nm x.nm with
    | false =>
     have hR' : r = false := by rw [← hR, hp0]; simp [upF, hv, hst]
     subst hR'
     simp only [go_sem, simprocAttr, g1, g6, g7, g8, hm, hg, hA', hB', hc, hv, hv1, d2, hst, rs]
    | true =>
     have hR' : (upF (prvF fs (i + 1)) (fs.drop (i + 1)) && mayA pr) = r := by rw [← hR, hp0, hpi]; simp [upF, hv, hst]
     simp only [go_sem, simprocAttr, g1, g6, g7, g8, hm, hg, hA', hB', hc, hv, hv1, d2, hst, hw]
     exact ih (fs.length - (i + 1)) (by omega) _ _ ⟨i + 1, rfl, by omega, hR', by simp only [go_sem, simprocAttr, g1], by simp only [go_sem, simprocAttr, g6], by simp only [go_sem, simprocAttr, g7], by simp only [go_sem, simprocAttr], by simp only [go_sem, simprocAttr, hm, hg], by simp only [go_sem, simprocAttr, hm] <;> omega⟩
 ·have d1 : decide ((i : Int) < (fs.length : Nat)) = false := by simp; omega
  rw [List.drop_of_length_le (by omega)] at hR
  have hR' : mayA pr = r := by rw [← hR]; simp [upF]
  have hc : ∀ H, calls Tryz.prog cfgR 69 [.sl .sh (encAs pr)] H = some (.ret (.lit (.bool (mayA pr))) H) := c_may pr (by omega) .sh
  simp only [go_sem, simprocAttr, g1, g6, g7, g8, hm, hg, d1, hc, rs, hR']
theorem c_rObjMay (s : Sh) (hs : ShOk s) (H : Heap) : calls Tryz.prog cfgR 39 [.agg (encSh s)] H = some (.ret (.lit (.bool (mayS s))) H) := by
 refine calls_pure (fn := Tryz.f39) rfl rfl rfl rfl rfl ?_ H
 have rs : Tryz.f39.results.toList = [.tmp 2] := rfl
 obtain ⟨fs, pr⟩ := s
 obtain ⟨hf, hfl, hpl⟩ := hs
 simp only at hf hfl hpl
 generalize hr : mayS ⟨fs, pr⟩ = r
 unfold mayS at hr
 simp only at hr
 unfold encSh
 simp only [go_sem, simprocAttr, rs]
 refine W_loop_ind (fun k e H => ∃ i : Nat, k = fs.length - i ∧ i ≤ fs.length ∧ (upF (prvF fs i) (fs.drop i) && mayA pr) = r ∧ gget .bad e 1 = .ptr 0 0 ∧ gget .bad e 3 = .lit (.int .i64 (i : Nat)) ∧
   H.get 0 = some [.sl .sh (fs.map encF), .sl .sh (encAs pr)] ∧ 1 ≤ H.next)
  fs.length ⟨0, rfl, by omega, hr, by simp only [go_sem, simprocAttr], by simp only [go_sem, simprocAttr], by simp only [go_sem, simprocAttr], by simp only [go_sem, simprocAttr]⟩ ?_
 rintro k ih e H ⟨i, rfl, hle, hR, g1, g3, hg, hnx⟩
 obtain ⟨m, hm⟩ : ∃ m, H.next = m + 1 := ⟨H.next - 1, by omega⟩
 by_cases hlt : i < fs.length
 ·have d1 : decide ((i : Int) < (fs.length : Nat)) = true := by simp; omega
  have hw := wrap1 (show i + 1 ≤ 9223372036854775807 by unfold LA at hfl; omega)
  have hA := iad_map (f := encF) (t := 85) (n := 3) (b := 48) (o := .sh) hlt (fun _ => rfl)
  rw [drop_at hlt] at hR
  have hfo := hf fs[i] (List.getElem_mem hlt)
  have hpi : prvF fs (i + 1) = some fs[i].nm := prvF_succ hlt
  generalize hx : fs[i] = x at hA hR hfo hpi
  have hc : ∀ H, calls Tryz.prog cfgR 37 [.sl .sh (encAs x.vals)] H = some (.ret (.lit (.bool (mayA x.vals))) H) := c_rMay x.vals hfo .sh
  have hA' : iad (some (85, 3, 48)) (.sl .sh (fs.map encF)) (some i) = some (.ep [.lit (.string x.nm), .lit (.bool x.sure), .sl .sh (encAs x.vals)]) := hA
  clear hA
  simp only [go_sem, simprocAttr, g1, g3, hm, hg, d1, List.length_map]
  refine W_draw [(13, 20), (18, 20), (13, 24), (18, 24)] (by kernel_rfl) ?_
  cases hv : mayA x.vals with
  | false =>
   have hR' : r = false := by rw [← hR]; simp [upF, hv]
   subst hR'
   simp only [go_sem, simprocAttr, g1, g3, hm, hg, hA', hc, hv, rs]
  | true =>
   by_cases hi0 : i = 0
   ·subst hi0
    have hR' : (upF (prvF fs (0 + 1)) (fs.drop (0 + 1)) && mayA pr) = r := by rw [← hR, hpi]; simp [upF, hv, prvF]
    have d2 : decide ((0 : Int) < 0) = false := rfl
    simp only [go_sem, simprocAttr, g1, g3, hm, hg, hA', hc, hv, d2] at hw ⊢
    exact ih (fs.length - (0 + 1)) (by omega) _ _ ⟨0 + 1, rfl, by omega, hR', by simp only [go_sem, simprocAttr, g1], by simp only [go_sem, simprocAttr, hw] <;> rfl, by simp only [go_sem, simprocAttr, hm, hg], by simp only [go_sem, simprocAttr, hm] <;> omega⟩
   ·have d2 : decide ((0 : Int) < (i : Nat)) = true := by simp; omega
    have hv1 := wrapD (show 0 < i by omega) (by unfold LA at hfl; omega)
    have hi1 : i - 1 < fs.length := by omega
    have hB := iad_map (f := encF) (t := 85) (n := 3) (b := 48) (o := .sh) hi1 (fun _ => rfl)
    have hp0 : prvF fs i = some fs[i - 1].nm := by simp [prvF, hi0, hi1]
    generalize hy : fs[i - 1] = y at hB hp0
    have hB' : iad (some (85, 3, 48)) (.sl .sh (fs.map encF)) (some (i - 1)) = some (.ep [.lit (.string y.nm), .lit (.bool y.sure), .sl .sh (encAs y.vals)]) := hB
    clear hB
    cases hst : strLt y.nm x.nm with
    | false =>
     have hR' : r = false := by rw [← hR, hp0]; simp [upF, hv, hst]
     subst hR'
     simp only [go_sem, simprocAttr, g1, g3, hm, hg, hA', hB', hc, hv, hv1, d2, hst, rs]
    | true =>
     have hR' : (upF (prvF fs (i + 1)) (fs.drop (i + 1)) && mayA pr) = r := by rw [← hR, hp0, hpi]; simp [upF, hv, hst]
     simp only [go_sem, simprocAttr, g1, g3, hm, hg, hA', hB', hc, hv, hv1, d2, hst, hw]
     exact ih (fs.length - (i + 1)) (by omega) _ _ ⟨i + 1, rfl, by omega, hR', by simp only [go_sem, simprocAttr, g1], by simp only [go_sem, simprocAttr], by simp only [go_sem, simprocAttr, hm, hg], by simp only [go_sem, simprocAttr, hm] <;> omega⟩
 ·have d1 : decide ((i : Int) < (fs.length : Nat)) = false := by simp; omega
  rw [List.drop_of_length_le (by omega)] at hR
  have hR' : mayA pr = r := by rw [← hR]; simp [upF]
  have hc : ∀ H, calls Tryz.prog cfgR 37 [.sl .sh (encAs pr)] H = some (.ret (.lit (.bool (mayA pr))) H) := c_rMay pr hpl .sh
  simp only [go_sem, simprocAttr, g1, g3, hm, hg, d1, hc, rs, hR', List.length_map]
end Go.Proofs.YtnoahchdmkpleaaGreat.VA

/-! Ra4 -/
namespace Go.Proofs.YtnoahchdmkpleaaGreat.VA
open Go Go.RowKit
attribute [local go_sem] Nat.add_eq_left Nat.left_eq_add true_and and_true ite_true if_false Int.cast_ofNat_Int eq_self Nat.add_assoc Option.some.injEq decide_true decide_false Bool.not_true Bool.not_false List.size_toArray List.length_cons List.length_nil
set_option linter.unusedSimpArgs false
set_option maxRecDepth 100000

def placeA (x : Int × Int) : Bool := (decide (x.1 = 4) || decide (x.1 = 5)) && decide (0 ≤ x.2)
theorem mayA_one (x : Int × Int) : mayA [x] = rightA x := by
 cases h : rightA x with
 | true => simp [mayA, normA_one h]
 | false =>
  have : normA [x] = [] := List.eq_nil_iff_forall_not_mem.2 fun y hy => by
   rw [mem_normA] at hy
   obtain ⟨h1, h2⟩ := hy
   simp at h1; subst h1
   rw [h] at h2; cases h2
  simp [mayA, this]
theorem c_place (x : Int × Int) (H : Heap) : calls Tryz.prog cfgR 70 [.agg (avA x)] H = some (.ret (.lit (.bool (placeA x))) H) := by
 refine calls_pure (fn := Tryz.f70) rfl rfl rfl rfl rfl ?_ H
 have rs : Tryz.f70.results.toList = [.tmp 2] := rfl
 obtain ⟨k, n⟩ := x
 have hc : ∀ H, calls Tryz.prog cfgR 69 [.sl .sh [[.lit (.int .i64 k), .lit (.int .i64 n)]]] H = some (.ret (.lit (.bool (rightA (k, n)))) H) := by
  rw [← mayA_one]; exact c_may [(k, n)] (show 1 ≤ LA by decide) .sh
 have hb : aBuildSlice Tryz.prog 50 1 [(0, .agg [.lit (.int .i64 k), .lit (.int .i64 n)])] = some (.sl .ex [[.lit (.int .i64 k), .lit (.int .i64 n)]]) := bs1_atm (k, n)
 have hc' : ∀ H, calls Tryz.prog cfgR 69 [.sl .ex [[.lit (.int .i64 k), .lit (.int .i64 n)]]] H = some (.ret (.lit (.bool (rightA (k, n)))) H) := by
  rw [← mayA_one]; exact c_may [(k, n)] (show 1 ≤ LA by decide) .ex
 generalize hr : placeA (k, n) = r
 unfold placeA at hr
 simp only at hr
 unfold avA
 by_cases h4 : k = 4
 ·subst h4
  have hR' : rightA ((4 : Int), n) = r := by rw [← hr]; simp [rightA]
  simp only [go_sem, simprocAttr, rs, hb, hc, hc', hR']
 ·have e4 : decide (k = 4) = false := by simpa using h4
  by_cases h5 : k = 5
  ·subst h5
   have hR' : rightA ((5 : Int), n) = r := by rw [← hr]; simp [rightA]
   simp only [go_sem, simprocAttr, rs, hb, hc, hc', hR', e4]
  ·have e5 : decide (k = 5) = false := by simpa using h5
   have hR' : r = false := by rw [← hr]; simp [h4, h5]
   subst hR'
   simp only [go_sem, simprocAttr, rs, e4, e5]
theorem c_rPlace (x : Int × Int) (H : Heap) : calls Tryz.prog cfgR 38 [.agg (avA x)] H = some (.ret (.lit (.bool (placeA x))) H) := by
 refine calls_pure (fn := Tryz.f38) rfl rfl rfl rfl rfl ?_ H
 have rs : Tryz.f38.results.toList = [.tmp 2] := rfl
 obtain ⟨k, n⟩ := x
 generalize hr : placeA (k, n) = r
 unfold placeA at hr
 simp only at hr
 unfold avA
 by_cases h4 : k = 4
 ·subst h4
  have hR' : decide (0 ≤ n) = r := by rw [← hr]; simp
  simp only [go_sem, simprocAttr, rs, hR']
 ·have e4 : decide (k = 4) = false := by simpa using h4
  by_cases h5 : k = 5
  ·subst h5
   have hR' : decide (0 ≤ n) = r := by rw [← hr]; simp
   simp only [go_sem, simprocAttr, rs, hR', e4]
  ·have e5 : decide (k = 5) = false := by simpa using h5
   have hR' : r = false := by rw [← hr]; simp [h4, h5]
   subst hR'
   simp only [go_sem, simprocAttr, rs, e4, e5]
def upB : Option ByteArray → List Bnd → Bool
 | _, [] => true
 | p, f :: l => mayA f.vals && ((match p with | none => true | some q => strLt q f.nm) && upB (some f.nm) l)
def upL : Option (Int × Int) → List Lc → Bool
 | _, [] => true
 | p, f :: l => placeA f.atom && (mayS f.shape && ((match p with | none => true | some q => ltA q f.atom) && upL (some f.atom) l))
def prvB (l : List Bnd) (i : Nat) : Option ByteArray := if i = 0 then none else (l[i - 1]?).map Bnd.nm
theorem prvB_succ {l : List Bnd} {i : Nat} (h : i < l.length) : prvB l (i + 1) = some l[i].nm := by simp [prvB, h]
def prvL (l : List Lc) (i : Nat) : Option (Int × Int) := if i = 0 then none else (l[i - 1]?).map Lc.atom
theorem prvL_succ {l : List Lc} {i : Nat} (h : i < l.length) : prvL l (i + 1) = some l[i].atom := by simp [prvL, h]
def BOk (b : Bnd) : Prop := b.vals.length + 1 ≤ LA
def StOk (s : Sta) : Prop := (∀ b, b ∈ s.vars → BOk b) ∧ s.vars.length ≤ LA ∧ (∀ l, l ∈ s.locs → ShOk l.shape) ∧ s.locs.length ≤ LA
def mayT (s : Sta) : Bool := upB none s.vars && (upL none s.locs && (!s.dead || decide (s.vars.length + s.locs.length = 0)))
theorem geq_cmp (x y : Int × Int) : decide (0 ≤ cmpA x y) = !ltA x y := by
 have h : ltA x y = decide (cmpA x y < 0) := by unfold ltA; rw [← cmpA_lt]; rfl
 rw [h, ← decide_not]
 exact decide_eq_decide.2 (by omega)
theorem c_staMay (s : Sta) (hs : StOk s) (H : Heap) : calls Tryz.prog cfgR 45 [.agg (encSt s)] H = some (.ret (.lit (.bool (mayT s))) H) := by
 refine calls_pure (fn := Tryz.f45) rfl rfl rfl rfl rfl ?_ H
 have rs : Tryz.f45.results.toList = [.tmp 2] := rfl
 obtain ⟨dd, vs, ls⟩ := s
 obtain ⟨hv, hvl, hL, hll⟩ := hs
 simp only at hv hvl hL hll
 generalize hr : mayT ⟨dd, vs, ls⟩ = r
 unfold mayT at hr
 simp only at hr
 unfold encSt
 simp only [go_sem, simprocAttr, rs, List.length_map]
 refine W_loop_ind (fun k e H => ∃ i : Nat, k = vs.length - i ∧ i ≤ vs.length ∧ (upB (prvB vs i) (vs.drop i) && (upL none ls && (!dd || decide (vs.length + ls.length = 0)))) = r ∧ gget .bad e 1 = .ptr 0 0 ∧ gget .bad e 8 = .sl .sh (vs.map encB) ∧ gget .bad e 9 = .lit (.int .i64 (vs.length : Nat)) ∧ gget .bad e 10 = .lit (.int .i64 (i : Nat)) ∧
   H.get 0 = some [.lit (.bool dd), .sl .sh (vs.map encB), .sl .sh (ls.map encL)] ∧ 1 ≤ H.next)
  vs.length ⟨0, rfl, by omega, hr, by simp only [go_sem, simprocAttr], by simp only [go_sem, simprocAttr], by simp only [go_sem, simprocAttr], by simp only [go_sem, simprocAttr], by simp only [go_sem, simprocAttr], by simp only [go_sem, simprocAttr]⟩ ?_
 rintro k ih e H ⟨i, rfl, hle, hR, g1, g8, g9, g10, hg, hnx⟩
 obtain ⟨m, hm⟩ : ∃ m, H.next = m + 1 := ⟨H.next - 1, by omega⟩
 by_cases hlt : i < vs.length
 ·have d1 : decide ((i : Int) < (vs.length : Nat)) = true := by simp; omega
  have hw := wrap1 (show i + 1 ≤ 9223372036854775807 by unfold LA at hvl; omega)
  have hA := iad_map (f := encB) (t := 76) (n := 2) (b := 40) (o := .sh) hlt (fun _ => rfl)
  rw [drop_at hlt] at hR
  have hfo := hv vs[i] (List.getElem_mem hlt)
  have hpi : prvB vs (i + 1) = some vs[i].nm := prvB_succ hlt
  generalize hx : vs[i] = x at hA hR hfo hpi
  have hc : ∀ H, calls Tryz.prog cfgR 69 [.sl .sh (encAs x.vals)] H = some (.ret (.lit (.bool (mayA x.vals))) H) := c_may x.vals (by unfold BOk at hfo; omega) .sh
  have hA' : iad (some (76, 2, 40)) (.sl .sh (vs.map encB)) (some i) = some (.ep [.lit (.string x.nm), .sl .sh (encAs x.vals)]) := hA
  clear hA
  simp only [go_sem, simprocAttr, g1, g8, g9, g10, hm, d1, hA']
  refine W_draw [(9, 16), (14, 16)] (by kernel_rfl) ?_
  cases hv : mayA x.vals with
  | false =>
   have hR' : r = false := by rw [← hR]; simp [upB, hv]
   subst hR'
   simp only [go_sem, simprocAttr, g1, g8, g9, g10, hm, hA', hc, hv, rs]
  | true =>
   by_cases hi0 : i = 0
   ·subst hi0
    have hR' : (upB (prvB vs (0 + 1)) (vs.drop (0 + 1)) && (upL none ls && (!dd || decide (vs.length + ls.length = 0)))) = r := by rw [← hR, hpi]; simp [upB, hv, prvB]
    have d2 : decide ((0 : Int) < 0) = false := rfl
    simp only [go_sem, simprocAttr, g1, g8, g9, g10, hm, hA', hc, hv, d2] at hw ⊢
    exact ih (vs.length - (0 + 1)) (by omega) _ _ ⟨0 + 1, rfl, by omega, hR', by simp only [go_sem, simprocAttr, g1], by simp only [go_sem, simprocAttr, g8], by simp only [go_sem, simprocAttr, g9], by simp only [go_sem, simprocAttr, hw] <;> rfl, by simp only [go_sem, simprocAttr, hm, hg], by simp only [go_sem, simprocAttr, hm] <;> omega⟩
   ·have d2 : decide ((0 : Int) < (i : Nat)) = true := by simp; omega
    have hv1 := wrapD (show 0 < i by omega) (by unfold LA at hvl; omega)
    have hi1 : i - 1 < vs.length := by omega
    have hB := iad_map (f := encB) (t := 76) (n := 2) (b := 40) (o := .sh) hi1 (fun _ => rfl)
    have hp0 : prvB vs i = some vs[i - 1].nm := by simp [prvB, hi0, hi1]
    generalize hy : vs[i - 1] = y at hB hp0
    have hB' : iad (some (76, 2, 40)) (.sl .sh (vs.map encB)) (some (i - 1)) = some (.ep [.lit (.string y.nm), .sl .sh (encAs y.vals)]) := hB
    clear hB
    cases hst : strLt y.nm x.nm with
    | false =>
     have hR' : r = false := by rw [← hR, hp0]; simp [upB, hv, hst]
     subst hR'
     simp only [go_sem, simprocAttr, g1, g8, g9, g10, hm, hg, hA', hB', hc, hv, hv1, d2, hst, rs]
    | true =>
     have hR' : (upB (prvB vs (i + 1)) (vs.drop (i + 1)) && (upL none ls && (!dd || decide (vs.length + ls.length = 0)))) = r := by rw [← hR, hp0, hpi]; simp [upB, hv, hst]
     simp only [go_sem, simprocAttr, g1, g8, g9, g10, hm, hg, hA', hB', hc, hv, hv1, d2, hst, hw]
     exact ih (vs.length - (i + 1)) (by omega) _ _ ⟨i + 1, rfl, by omega, hR', by simp only [go_sem, simprocAttr, g1], by simp only [go_sem, simprocAttr, g8], by simp only [go_sem, simprocAttr, g9], by simp only [go_sem, simprocAttr], by simp only [go_sem, simprocAttr, hm, hg], by simp only [go_sem, simprocAttr, hm] <;> omega⟩
 ·have d1 : decide ((i : Int) < (vs.length : Nat)) = false := by simp; omega
  rw [List.drop_of_length_le (by omega)] at hR
  have hR' : (upL none ls && (!dd || decide (vs.length + ls.length = 0))) = r := by rw [← hR]; simp [upB]
  clear hR ih
  simp only [go_sem, simprocAttr, g1, g8, g9, g10, hm, hg, d1, List.length_map]
  refine W_loop_ind (fun k e H => ∃ i : Nat, k = ls.length - i ∧ i ≤ ls.length ∧ (upL (prvL ls i) (ls.drop i) && (!dd || decide (vs.length + ls.length = 0))) = r ∧ gget .bad e 1 = .ptr 0 0 ∧ gget .bad e 37 = .sl .sh (ls.map encL) ∧ gget .bad e 38 = .lit (.int .i64 (ls.length : Nat)) ∧ gget .bad e 39 = .lit (.int .i64 (i : Nat)) ∧
    H.get 0 = some [.lit (.bool dd), .sl .sh (vs.map encB), .sl .sh (ls.map encL)] ∧ 1 ≤ H.next)
   ls.length ⟨0, rfl, by omega, hR', by simp only [go_sem, simprocAttr, g1], by simp only [go_sem, simprocAttr], by simp only [go_sem, simprocAttr], by simp only [go_sem, simprocAttr], by simp only [go_sem, simprocAttr, hm, hg], by simp only [go_sem, simprocAttr, hm] <;> omega⟩ ?_
  clear hg hm hnx g1 g8 g9 g10
  rintro k ih e H ⟨i, rfl, hle, hR, g1, g37, g38, g39, hg, hnx⟩
  obtain ⟨m, hm⟩ : ∃ m, H.next = m + 1 := ⟨H.next - 1, by omega⟩
  by_cases hlt : i < ls.length
  ·have d1 : decide ((i : Int) < (ls.length : Nat)) = true := by simp; omega
   have hw := wrap1 (show i + 1 ≤ 9223372036854775807 by unfold LA at hll; omega)
   have hA := iad_map (f := encL) (t := 83) (n := 4) (b := 64) (o := .sh) hlt (fun _ => rfl)
   rw [drop_at hlt] at hR
   have hfo := hL ls[i] (List.getElem_mem hlt)
   have hpi : prvL ls (i + 1) = some ls[i].atom := prvL_succ hlt
   generalize hx : ls[i] = x at hA hR hfo hpi
   have hA' : iad (some (83, 4, 64)) (.sl .sh (ls.map encL)) (some i) = some (.ep [.lit (.int .i64 x.atom.1), .lit (.int .i64 x.atom.2), .sl .sh (x.shape.fields.map encF), .sl .sh (encAs x.shape.proto)]) := hA
   clear hA
   have hc1 : ∀ H, calls Tryz.prog cfgR 70 [.agg [.lit (.int .i64 x.atom.1), .lit (.int .i64 x.atom.2)]] H = some (.ret (.lit (.bool (placeA x.atom))) H) := c_place x.atom
   have hc2 : ∀ H, calls Tryz.prog cfgR 71 [.agg [.sl .sh (x.shape.fields.map encF), .sl .sh (encAs x.shape.proto)]] H = some (.ret (.lit (.bool (mayS x.shape))) H) := c_objMay x.shape hfo
   simp only [go_sem, simprocAttr, g1, g37, g38, g39, hm, d1, hA']
   refine W_draw [(15, 22), (20, 22)] (by kernel_rfl) ?_
   cases hp : placeA x.atom with
   | false =>
    have hR' : r = false := by rw [← hR]; simp [upL, hp]
    subst hR'
    simp only [go_sem, simprocAttr, g1, g37, g38, g39, hm, hA', hc1, hc2, hp, rs]
   | true =>
    cases hv : mayS x.shape with
    | false =>
     have hR' : r = false := by rw [← hR]; simp [upL, hp, hv]
     subst hR'
     simp only [go_sem, simprocAttr, g1, g37, g38, g39, hm, hA', hc1, hc2, hp, hv, rs]
    | true =>
     by_cases hi0 : i = 0
     ·subst hi0
      have hR' : (upL (prvL ls (0 + 1)) (ls.drop (0 + 1)) && (!dd || decide (vs.length + ls.length = 0))) = r := by rw [← hR, hpi]; simp [upL, hp, hv, prvL]
      have d2 : decide ((0 : Int) < 0) = false := rfl
      simp only [go_sem, simprocAttr, g1, g37, g38, g39, hm, hA', hc1, hc2, hp, hv, d2] at hw ⊢
      exact ih (ls.length - (0 + 1)) (by omega) _ _ ⟨0 + 1, rfl, by omega, hR', by simp only [go_sem, simprocAttr, g1], by simp only [go_sem, simprocAttr, g37], by simp only [go_sem, simprocAttr, g38], by simp only [go_sem, simprocAttr, hw] <;> rfl, by simp only [go_sem, simprocAttr, hm, hg], by simp only [go_sem, simprocAttr, hm] <;> omega⟩
     ·have d2 : decide ((0 : Int) < (i : Nat)) = true := by simp; omega
      have hv1 := wrapD (show 0 < i by omega) (by unfold LA at hll; omega)
      have hi1 : i - 1 < ls.length := by omega
      have hB := iad_map (f := encL) (t := 83) (n := 4) (b := 64) (o := .sh) hi1 (fun _ => rfl)
      have hp0 : prvL ls i = some ls[i - 1].atom := by simp [prvL, hi0, hi1]
      generalize hy : ls[i - 1] = y at hB hp0
      have hB' : iad (some (83, 4, 64)) (.sl .sh (ls.map encL)) (some (i - 1)) = some (.ep [.lit (.int .i64 y.atom.1), .lit (.int .i64 y.atom.2), .sl .sh (y.shape.fields.map encF), .sl .sh (encAs y.shape.proto)]) := hB
      clear hB
      have hc3 : ∀ H, calls Tryz.prog cfgR 72 [.agg [.lit (.int .i64 y.atom.1), .lit (.int .i64 y.atom.2)], .agg [.lit (.int .i64 x.atom.1), .lit (.int .i64 x.atom.2)]] H = some (.ret (.lit (.int .i64 (cmpA y.atom x.atom))) H) := rc_compare y.atom x.atom
      cases hst : ltA y.atom x.atom with
      | false =>
       have hR' : r = false := by rw [← hR, hp0]; simp [upL, hp, hv, hst]
       subst hR'
       simp only [go_sem, simprocAttr, g1, g37, g38, g39, hm, hg, hA', hB', hc1, hc2, hc3, geq_cmp, hp, hv, hv1, d2, hst, rs]
      | true =>
       have hR' : (upL (prvL ls (i + 1)) (ls.drop (i + 1)) && (!dd || decide (vs.length + ls.length = 0))) = r := by rw [← hR, hp0, hpi]; simp [upL, hp, hv, hst]
       simp only [go_sem, simprocAttr, g1, g37, g38, g39, hm, hg, hA', hB', hc1, hc2, hc3, geq_cmp, hp, hv, hv1, d2, hst, hw]
       exact ih (ls.length - (i + 1)) (by omega) _ _ ⟨i + 1, rfl, by omega, hR', by simp only [go_sem, simprocAttr, g1], by simp only [go_sem, simprocAttr, g37], by simp only [go_sem, simprocAttr, g38], by simp only [go_sem, simprocAttr], by simp only [go_sem, simprocAttr, hm, hg], by simp only [go_sem, simprocAttr, hm] <;> omega⟩
  ·have d1 : decide ((i : Int) < (ls.length : Nat)) = false := by simp; omega
   rw [List.drop_of_length_le (by omega)] at hR
   have hR' : (!dd || decide (vs.length + ls.length = 0)) = r := by rw [← hR]; simp [upL]
   have hws : IntKind.i64.wrap ((vs.length : Int) + (ls.length : Nat)) = ((vs.length + ls.length : Nat) : Int) := by rw [wrapI (by unfold LA at hvl hll; omega)]; omega
   have hd3 : decide ((((vs.length + ls.length : Nat)) : Int) = 0) = decide (vs.length + ls.length = 0) := decide_eq_decide.2 (by omega)
   cases dd with
   | false =>
    have hR2 : r = true := by rw [← hR']; rfl
    subst hR2
    simp only [go_sem, simprocAttr, g1, g37, g38, g39, hm, hg, d1, rs]
   | true =>
    have hR2 : decide (vs.length + ls.length = 0) = r := by rw [← hR']; rfl
    simp only [go_sem, simprocAttr, g1, g37, g38, g39, hm, hg, d1, rs, List.length_map, hws, hd3, hR2]
end Go.Proofs.YtnoahchdmkpleaaGreat.VA

/-! Ar2 -/
namespace Go.Proofs.YtnoahchdmkpleaaGreat.VA
open Go Go.RowKit
set_option linter.unusedSimpArgs false

/-- A list that is nil, or an array behind a number. -/
def ArrOf (H : Heap) (lo : Nat) (A : AV) (sz : Nat) (es : List (List AV)) : Prop :=
 (A = .sl .nil [] ∧ es = []) ∨ ∃ r, A = .ar r 0 es.length sz ∧ es ≠ [] ∧ H.get r = some es.flatten ∧ lo ≤ r ∧ r < H.next
def arrUs (A : AV) (id : Nat) (cs : List AV) : List U :=
 match A with
 | .ar r _ _ _ => [.del r, .box id cs]
 | _ => [.box id cs]
def arrRs (A : AV) : List Nat :=
 match A with
 | .ar r _ _ _ => [r]
 | _ => []
def arrNo (A : AV) (k : Nat) : Prop :=
 match A with
 | .ar r _ _ _ => r ≠ k
 | _ => True
theorem arrUs_next (A : AV) (id : Nat) (cs : List AV) (H : Heap) : (appU H (arrUs A id cs)).next = H.next := by cases A <;> rfl
attribute [go_sem] arrUs_next
theorem arrUs_ho {A : AV} {id k : Nat} {cs : List AV} {H : Heap} (h1 : id ≠ k) (h2 : arrNo A k) : (appU H (arrUs A id cs)).ho k = H.ho k := by
 cases A with
 | ar r lo n sz =>
  have h2' : r ≠ k := h2
  simp [arrUs, appU, U.app, Heap.put, Heap.set, Heap.del, h1, h2']
 | _ => simp [arrUs, appU, U.app, Heap.put, Heap.set, h1]
theorem arrUs_get {A : AV} {id k : Nat} {cs : List AV} {H : Heap} (h1 : id ≠ k) (h2 : arrNo A k) : (appU H (arrUs A id cs)).get k = H.get k := by
 rw [Heap.get, Heap.get, arrUs_ho h1 h2]
theorem arrUs_new (A : AV) (id : Nat) (cs : List AV) (H : Heap) : (appU H (arrUs A id cs)).get id = some cs := by
 cases A <;> simp [arrUs, appU, U.app]
theorem ArrOf.no {H : Heap} {lo : Nat} {A : AV} {sz : Nat} {es : List (List AV)} (h : ArrOf H lo A sz es) {k : Nat} (hk : k < lo) : arrNo A k := by
 rcases h with ⟨rfl, _⟩ | ⟨r, rfl, _, _, h4, _⟩
 ·trivial
 ·show r ≠ k; omega
theorem ArrOf.no' {H : Heap} {lo : Nat} {A : AV} {sz : Nat} {es : List (List AV)} (h : ArrOf H lo A sz es) {k : Nat} (hk : H.next ≤ k) : arrNo A k := by
 rcases h with ⟨rfl, _⟩ | ⟨r, rfl, _, _, _, h5⟩
 ·trivial
 ·show r ≠ k; omega
theorem ArrOf.of {H H' : Heap} {lo : Nat} {A : AV} {sz : Nat} {es : List (List AV)} (h : ArrOf H lo A sz es) (hn : H.next ≤ H'.next) (hk : ∀ k, lo ≤ k → k < H.next → H'.get k = H.get k) : ArrOf H' lo A sz es := by
 rcases h with h | ⟨r, h1, h2, h3, h4, h5⟩
 ·exact .inl h
 ·exact .inr ⟨r, h1, h2, by rw [hk r h4 h5]; exact h3, h4, by omega⟩
theorem ArrOf.new {H : Heap} {lo id sz : Nat} {es : List (List AV)} (h0 : es ≠ []) (h1 : H.get id = some es.flatten) (h2 : lo ≤ id) (h3 : id < H.next) : ArrOf H lo (.ar id 0 es.length sz) sz es :=
 .inr ⟨id, rfl, h0, h1, h2, h3⟩
/-- What an array's number names. -/
def arrGet (A : AV) (H : Heap) : Option (List AV) :=
 match A with
 | .ar r _ _ _ => H.get r
 | _ => none
@[go_sem] theorem arrGet_up (A : AV) (H : Heap) (n : Nat) : arrGet A (H.up n) = arrGet A H := by cases A <;> rfl
@[go_sem] theorem arrGet_put {A : AV} {H : Heap} {b : Nat} {cs : List AV} (h : arrNo A b) : arrGet A (H.put b cs) = arrGet A H := by
 cases A with
 | ar r lo n sz =>
  have h' : r ≠ b := h
  simp only [arrGet, Heap.get_put]; rw [if_neg (fun e => h' e.symm)]
 | _ => rfl
theorem ArrOf.mono {H : Heap} {lo lo' : Nat} {A : AV} {sz : Nat} {es : List (List AV)} (h : ArrOf H lo A sz es) (hl : lo' ≤ lo) : ArrOf H lo' A sz es := by
 rcases h with h | ⟨r, h1, h2, h3, h4, h5⟩
 ·exact .inl h
 ·exact .inr ⟨r, h1, h2, h3, by omega, h5⟩
theorem ArrOf.one {H : Heap} {lo : Nat} {A : AV} {sz : Nat} {es : List (List AV)} (h : ArrOf H lo A sz es) : A.one = true := by
 rcases h with ⟨rfl, _⟩ | ⟨r, rfl, _⟩ <;> rfl
theorem frz_arr {H' : Heap} {lo : Nat} {A : AV} {sz : Nat} {es : List (List AV)} (h : ArrOf H' lo A sz es) (hu : Unif sz es) (h1 : es.flatten.all AV.one = true) : san (frz H' A) = .sl .sh (sanLL es) := by
 rcases h with ⟨rfl, rfl⟩ | ⟨r, rfl, h2, h3, h4, h5⟩
 ·rfl
 ·simp only [frz, h3]
  rw [if_pos ⟨by rw [flat_len hu, Nat.zero_add]; exact Nat.le_refl _, h1⟩, Nat.zero_mul, List.drop_zero, chunk_flat _ hu (Nat.le_refl _), List.take_of_length_le (Nat.le_refl _)]
  rfl
/-- Appending one element. -/
theorem app_arr {P : Program} {t e : TypeId} {sz b : Nat} {H H' : Heap} {lo : Nat} {A : AV} {es : List (List AV)} {x : List AV} {o : Own} (ht : tElem P t = some (e, sz, b)) (hm : mutT e = true) (hs : 0 < sz) (hz : zeroOk P e sz = true)
  (hb : (es.length + 1) * b ≤ 140737488355328) (hl : es.length + 1 ≤ 140737488355328) (hx : x.length = sz) (h1 : x.all AV.one = true) (hu : Unif sz es) (h : ArrOf H lo A sz es) (id : Nat) (hg : arrGet A H' = arrGet A H) :
  aAppend P t A (.sl o [x]) H' id = some (.ar id 0 (es.length + 1) sz, arrUs A id (es ++ [x]).flatten, arrRs A) := by
 rcases h with ⟨rfl, rfl⟩ | ⟨r, rfl, h2, h3, h4, h5⟩
 ·have := append_nilA (P := P) (H := H') (id := id) (o := o) (y := x) (xs := []) ht hm hs hz (by simpa using hb) (by simp) (fun y hy => by simp at hy; subst hy; exact hx)
  rw [this]; rfl
 ·have hn : newsA sz H' (.sl o [x]) = some (x, 1, []) := by
   have := news_sl (H := H') (o := o) (sz := sz) (xs := [x]) (fun e he => by simp at he; subst he; exact hx)
   rw [this]; simp
  have hg' : H'.get r = some es.flatten := by rw [← h3]; exact hg
  rw [append_arN (P := P) ht hg' hn (by omega) hs hz hb hl h1 (by rw [flat_len hu])]
  simp [arrUs, arrRs]
end Go.Proofs.YtnoahchdmkpleaaGreat.VA

/-! Co1 -/
namespace Go.Proofs.YtnoahchdmkpleaaGreat.VA
open Go Go.RowKit
attribute [local go_sem] Nat.add_eq_left Nat.left_eq_add true_and and_true ite_true if_false Int.cast_ofNat_Int eq_self Nat.add_assoc Option.some.injEq decide_true decide_false Bool.not_true Bool.not_false List.size_toArray List.length_cons List.length_nil
set_option linter.unusedSimpArgs false
set_option maxRecDepth 100000

/-- The table for object.Copy. -/
noncomputable def cfgO : Cfg := mkC Tryz.prog [75] [] [75] [(74, tClone)] []
theorem cfgO_ok : CfgOk Tryz.prog Cond.none cfgO := mkC_ok (by kernel_rfl) (by kernel_rfl) (by
 intro p hp
 simp only [List.mem_cons, List.not_mem_nil, or_false] at hp
 subst hp
 exact tClone_ok _) (by simp)
@[go_sem] theorem cfgO_imp (f : FuncId) : cfgO.imp f = false := rfl
theorem tClone_atm {c : Cfg} (ht : c.told 74 = some tClone) (d : List (Int × Int)) (hl : d.length ≤ LA) (o : Own) (H : Heap) :
  calls Tryz.prog c 74 [.sl o (encAs d)] H = some (.ret (.sl .sh (encAs d)) H) := by
 refine calls_told (h := tClone) ht ?_ H
 show tClone [.sl .sh (sanLL (encAs d))] = _
 rw [sanLL_encAs]
 unfold tClone
 simp only
 rw [if_pos ⟨List.all_eq_true.2 fun e he => by simpa using encAs_unif d e he, by rw [encAs_len]; exact hl⟩]
theorem F_unif (l : List Fd) : Unif 3 (l.map encF) := Unif.map (f := encF) (fun _ => rfl) l
theorem F_one (f : Fd) : (encF f).all AV.one = true := rfl
theorem F_ones (l : List Fd) : ((l.map encF).flatten).all AV.one = true := by
 induction l with
 | nil => rfl
 | cons x l ih => rw [List.map_cons, List.flatten_cons, List.all_append, ih]; rfl
theorem c_objCopy (s : Sh) (hs : ShOk s) (H : Heap) : calls Tryz.prog cfgO 75 [.agg (encSh s)] H = some (.ret (.agg (encSh s)) H) := by
 refine calls_frz (fn := Tryz.f75) rfl rfl rfl rfl rfl ?_ H
 have rs : Tryz.f75.results.toList = [.cell 2 79] := rfl
 obtain ⟨fs, pr⟩ := s
 obtain ⟨hf, hfl, hpl⟩ := hs
 simp only at hf hfl hpl
 have hcp : ∀ H, calls Tryz.prog cfgO 74 [.sl .sh (encAs pr)] H = some (.ret (.sl .sh (encAs pr)) H) := tClone_atm rfl pr (by omega) .sh
 unfold encSh
 simp only [go_sem, simprocAttr, rs, hcp, List.length_map]
 refine W_loop_ind (fun k e H => ∃ (i : Nat) (A : AV), k = fs.length - i ∧ i ≤ fs.length ∧ gget .bad e 2 = .ptr 1 0 ∧ gget .bad e 3 = .ptr 6 0 ∧ gget .bad e 11 = .sl .sh (fs.map encF) ∧ gget .bad e 12 = .lit (.int .i64 (fs.length : Nat)) ∧ gget .bad e 13 = .lit (.int .i64 (i : Nat)) ∧
   H.get 1 = some [.sl .nil [], .sl .nil []] ∧ H.get 6 = some [A, .sl .sh (encAs pr)] ∧ ArrOf H 8 A 3 ((fs.take i).map encF) ∧ 8 ≤ H.next)
  fs.length ⟨0, .sl .nil [], rfl, by omega, by simp only [go_sem, simprocAttr], by simp only [go_sem, simprocAttr], by simp only [go_sem, simprocAttr], by simp only [go_sem, simprocAttr], by simp only [go_sem, simprocAttr], by simp only [go_sem, simprocAttr], by simp only [go_sem, simprocAttr], .inl ⟨rfl, by simp⟩, by simp only [go_sem, simprocAttr] <;> omega⟩ ?_
 rintro k ih e H ⟨i, A, rfl, hle, g2, g3, g11, g12, g13, h1, h6, hA, hnx⟩
 obtain ⟨m, hm⟩ : ∃ m, H.next = m + 8 := ⟨H.next - 8, by omega⟩
 by_cases hlt : i < fs.length
 ·have d1 : decide ((i : Int) < (fs.length : Nat)) = true := by simp; omega
  have hw := wrap1 (show i + 1 ≤ 9223372036854775807 by unfold LA at hfl; omega)
  have hI := iad_map (f := encF) (t := 85) (n := 3) (b := 48) (o := .sh) hlt (fun _ => rfl)
  have hfo := hf fs[i] (List.getElem_mem hlt)
  have htk : (fs.take (i + 1)).map encF = (fs.take i).map encF ++ [encF fs[i]] := by rw [List.take_succ_eq_append_getElem hlt, List.map_append]; rfl
  generalize hx : fs[i] = x at hI hfo htk
  have hI' : iad (some (85, 3, 48)) (.sl .sh (fs.map encF)) (some i) = some (.ep [.lit (.string x.nm), .lit (.bool x.sure), .sl .sh (encAs x.vals)]) := hI
  clear hI
  have hc : ∀ H, calls Tryz.prog cfgO 74 [.sl .sh (encAs x.vals)] H = some (.ret (.sl .sh (encAs x.vals)) H) := tClone_atm rfl x.vals (by unfold FOk at hfo; omega) .sh
  have hb : aBuildSlice Tryz.prog 77 1 [(0, .agg [.lit (.string x.nm), .lit (.bool x.sure), .sl .sh (encAs x.vals)])] = some (.sl .ex [[.lit (.string x.nm), .lit (.bool x.sure), .sl .sh (encAs x.vals)]]) := build1 el_sFld (by decide) zr_fld rfl rfl _ rfl rfl
  have hlen : ((fs.take i).map encF).length = i := by rw [List.length_map, List.length_take]; omega
  have hap : ∀ H' id, arrGet A H' = arrGet A H → aAppend Tryz.prog 77 A (.sl .ex [[.lit (.string x.nm), .lit (.bool x.sure), .sl .sh (encAs x.vals)]]) H' id = some (.ar id 0 (i + 1) 3, arrUs A id ((fs.take (i + 1)).map encF).flatten, arrRs A) := by
   intro H' id hg
   have := app_arr (P := Tryz.prog) (x := encF x) (o := .ex) el_sFld rfl (by decide) zo_sFld (by rw [hlen]; unfold LA at hfl; omega) (by rw [hlen]; unfold LA at hfl; omega) rfl (F_one x) (F_unif _) hA id hg
   rw [hlen, ← htk] at this
   exact this
  have n11 : arrNo A (m + 11) := hA.no' (by omega)
  have hg6 : ∀ (H' : Heap) (cs : List AV), (appU H' (arrUs A (m + 22) cs)).get 6 = H'.get 6 := fun H' cs => arrUs_get (by omega) (hA.no (by decide))
  have hg1 : ∀ (H' : Heap) (cs : List AV), (appU H' (arrUs A (m + 22) cs)).get 1 = H'.get 1 := fun H' cs => arrUs_get (by omega) (hA.no (by decide))
  simp only [go_sem, simprocAttr, g2, g3, g11, g12, g13, h1, h6, hm, d1, hw, hI', hc, hb, hap, n11, hg6]
  exact ih (fs.length - (i + 1)) (by omega) _ _ ⟨i + 1, .ar (m + 22) 0 (i + 1) 3, rfl, by omega, by simp only [go_sem, simprocAttr, g2], by simp only [go_sem, simprocAttr, g3], by simp only [go_sem, simprocAttr, g11], by simp only [go_sem, simprocAttr, g12], by simp only [go_sem, simprocAttr], by simp only [go_sem, simprocAttr, hm, h1, hg1], by simp only [go_sem, simprocAttr],
   .inr ⟨m + 22, by rw [List.length_map, List.length_take, Nat.min_eq_left (by omega)], by rw [htk]; simp, by simp only [go_sem, simprocAttr, hm, arrUs_new], by omega, by simp only [go_sem, simprocAttr, hm] <;> omega⟩, by simp only [go_sem, simprocAttr, hm] <;> omega⟩
 ·have d1 : decide ((i : Int) < (fs.length : Nat)) = false := by simp; omega
  rw [List.take_of_length_le (by omega)] at hA
  have hA1 := hA.one
  simp only [go_sem, simprocAttr, g2, g3, g11, g12, g13, h1, h6, hm, d1, rs, hA1]
  refine ⟨_, rfl, ?_⟩
  have hfr := frz_arr (H' := ((H.up 1).up 2).put 1 [A, .sl .sh (encAs pr)]) (hA.of (H' := ((H.up 1).up 2).put 1 [A, .sl .sh (encAs pr)]) (by simp only [go_sem, simprocAttr] <;> omega) (fun k h1 h2 => by rw [Heap.get_put, if_neg (by omega)]; rfl)) (F_unif fs) (F_ones fs)
  rw [sanLL_F] at hfr
  have hsp : frz (((H.up 1).up 2).put 1 [A, .sl .sh (encAs pr)]) (.sl .sh (encAs pr)) = .sl .sh (encAs pr) := rfl
  simp only [oneOr, frz, frzL, san, sanL, hfr, hsp, sanLL_encAs]
end Go.Proofs.YtnoahchdmkpleaaGreat.VA

/-! Co2 -/
namespace Go.Proofs.YtnoahchdmkpleaaGreat.VA
open Go Go.RowKit
attribute [local go_sem] Nat.add_eq_left Nat.left_eq_add true_and and_true ite_true if_false Int.cast_ofNat_Int eq_self Nat.add_assoc Option.some.injEq decide_true decide_false Bool.not_true Bool.not_false List.size_toArray List.length_cons List.length_nil
set_option linter.unusedSimpArgs false
set_option maxRecDepth 100000

theorem Frm.arr {H H1 : Heap} (h : Frm H H1) {A : AV} {id : Nat} {cs : List AV} (h1 : H.next ≤ id) (h2 : ∀ k, k < H.next → arrNo A k) : Frm H (appU H1 (arrUs A id cs)) :=
 ⟨by rw [arrUs_next]; exact h.nx, fun k hk => by rw [arrUs_ho (by omega) (h2 k hk)]; exact h.ho k hk⟩
/-- Two lists that are not one array. -/
def ArrDis (A B : AV) : Prop :=
 match A with
 | .ar r _ _ _ => arrNo B r
 | _ => True
theorem B_unif (l : List Bnd) : Unif 2 (l.map encB) := Unif.map (f := encB) (fun _ => rfl) l
theorem B_ones (l : List Bnd) : ((l.map encB).flatten).all AV.one = true := by
 induction l with
 | nil => rfl
 | cons x l ih => rw [List.map_cons, List.flatten_cons, List.all_append, ih]; rfl
theorem L_unif (l : List Lc) : Unif 4 (l.map encL) := Unif.map (f := encL) (fun _ => rfl) l
theorem L_ones (l : List Lc) : ((l.map encL).flatten).all AV.one = true := by
 induction l with
 | nil => rfl
 | cons x l ih => rw [List.map_cons, List.flatten_cons, List.all_append, ih]; rfl
theorem t_objCopy {c : Cfg} (hoc : c.told 75 = some (toldBy Tryz.prog cfgO 75)) (s : Sh) (hs : ShOk s) (H : Heap) : calls Tryz.prog c 75 [.agg [.sl .sh (s.fields.map encF), .sl .sh (encAs s.proto)]] H = some (.ret (.agg [.sl .sh (s.fields.map encF), .sl .sh (encAs s.proto)]) H) :=
 calls_by hoc (fun H => by
  have e : sanL [AV.agg [.sl .sh (s.fields.map encF), .sl .sh (encAs s.proto)]] = [.agg (encSh s)] := by simp only [sanL, san, sanLL_F, sanLL_encAs]; rfl
  rw [e]; exact c_objCopy s hs H) (by simp only [san, sanL, sanLL_F, sanLL_encAs]) H
theorem copy_W {c : Cfg} (hcl : c.told 74 = some tClone) (hoc : c.told 75 = some (toldBy Tryz.prog cfgO 75))
  (hi1 : c.imp 74 = false) (hi2 : c.imp 75 = false) (s : Sta) (hs : StOk s) (H0 : Heap) {R : AV → Heap → Prop}
  (hR : ∀ A B H', Frm H0 H' → ArrOf H' H0.next A 2 (s.vars.map encB) → ArrOf H' H0.next B 4 (s.locs.map encL) → ArrDis A B → R (.agg [.lit (.bool s.dead), A, B]) H')
  {code : Code} (hb : Tryz.f48.body = some code) (hno : c.imp hoF = false := by rfl) : W Tryz.prog c code [] [.agg (encSt s)] H0 (RetAQ Tryz.prog Tryz.f48.results.toList R) := by
 obtain rfl := Option.some.inj hb
 have rs : Tryz.f48.results.toList = [.cell 2 26] := rfl
 obtain ⟨dd, vs, ls⟩ := s
 obtain ⟨hv, hvl, hL, hll⟩ := hs
 simp only at hv hvl hL hll hR
 generalize hN : H0.next = N at hR
 have z1 : ¬ N + 1 = N := by omega
 have z5 : ¬ N + 5 = N := by omega
 have z51 : ¬ N + 5 = N + 1 := by omega
 unfold encSt
 simp only [go_sem, simprocAttr, rs, hN, List.length_map, Nat.add_zero, z1, z5, z51]
 refine W_loop_ind (fun k e H => ∃ (i : Nat) (A : AV), k = vs.length - i ∧ i ≤ vs.length ∧ gget .bad e 1 = .ptr N 0 ∧ gget .bad e 2 = .ptr (N + 1) 0 ∧ gget .bad e 3 = .ptr (N + 5) 0 ∧ gget .bad e 12 = .sl .sh (vs.map encB) ∧ gget .bad e 13 = .lit (.int .i64 (vs.length : Nat)) ∧ gget .bad e 14 = .lit (.int .i64 (i : Nat)) ∧
   H.get N = some [.lit (.bool dd), .sl .sh (vs.map encB), .sl .sh (ls.map encL)] ∧ H.get (N + 1) = some [.lit (.bool false), .sl .nil [], .sl .nil []] ∧ H.get (N + 5) = some [.lit (.bool dd), A, .sl .nil []] ∧ ArrOf H (N + 7) A 2 ((vs.take i).map encB) ∧ N + 7 ≤ H.next ∧ Frm H0 H)
  vs.length ⟨0, .sl .nil [], rfl, by omega, by simp only [go_sem, simprocAttr], by simp only [go_sem, simprocAttr], by simp only [go_sem, simprocAttr], by simp only [go_sem, simprocAttr], by simp only [go_sem, simprocAttr], by simp only [go_sem, simprocAttr], by simp only [go_sem, simprocAttr, z1, z5, z51], by simp only [go_sem, simprocAttr, z1, z5, z51], by simp only [go_sem, simprocAttr, z1, z5, z51], .inl ⟨rfl, by simp⟩, by simp only [go_sem, simprocAttr, hN] <;> omega,
   by repeat (first | exact Frm.refl _ | refine Frm.up ?_ _ | refine Frm.put ?_ _ (by omega))⟩ ?_
 rintro k ih e H ⟨i, A, rfl, hle, g1, g2, g3, g12, g13, g14, h0, h1, h5, hA, hnx, hF⟩
 obtain ⟨m, hm⟩ : ∃ m, H.next = m := ⟨_, rfl⟩
 have n0 : ∀ j, ¬ m + j = N := fun j => by omega
 have n1 : ∀ j, ¬ m + j = N + 1 := fun j => by omega
 have n5 : ∀ j, ¬ m + j = N + 5 := fun j => by omega
 have q5 : ∀ j, ¬ N + 5 = m + j := fun j => by omega
 by_cases hlt : i < vs.length
 ·have d1 : decide ((i : Int) < (vs.length : Nat)) = true := by simp; omega
  have hw := wrap1 (show i + 1 ≤ 9223372036854775807 by unfold LA at hvl; omega)
  have hI := iad_map (f := encB) (t := 76) (n := 2) (b := 40) (o := .sh) hlt (fun _ => rfl)
  have hfo := hv vs[i] (List.getElem_mem hlt)
  have htk : (vs.take (i + 1)).map encB = (vs.take i).map encB ++ [encB vs[i]] := by rw [List.take_succ_eq_append_getElem hlt, List.map_append]; rfl
  generalize hx : vs[i] = x at hI hfo htk
  have hI' : iad (some (76, 2, 40)) (.sl .sh (vs.map encB)) (some i) = some (.ep [.lit (.string x.nm), .sl .sh (encAs x.vals)]) := hI
  clear hI
  have hc : ∀ H, calls Tryz.prog c 74 [.sl .sh (encAs x.vals)] H = some (.ret (.sl .sh (encAs x.vals)) H) := tClone_atm hcl x.vals (by unfold BOk at hfo; omega) .sh
  have hb : aBuildSlice Tryz.prog 23 1 [(0, .agg [.lit (.string x.nm), .sl .sh (encAs x.vals)])] = some (.sl .ex [[.lit (.string x.nm), .sl .sh (encAs x.vals)]]) := build1 el_sBnd (by decide) zr_bind rfl rfl _ rfl rfl
  have hlen : ((vs.take i).map encB).length = i := by rw [List.length_map, List.length_take]; omega
  have hap : ∀ H' id, arrGet A H' = arrGet A H → aAppend Tryz.prog 23 A (.sl .ex [[.lit (.string x.nm), .sl .sh (encAs x.vals)]]) H' id = some (.ar id 0 (i + 1) 2, arrUs A id ((vs.take (i + 1)).map encB).flatten, arrRs A) := by
   intro H' id hg
   have := app_arr (P := Tryz.prog) (x := encB x) (o := .ex) el_sBnd rfl (by decide) zo_sBnd (by rw [hlen]; unfold LA at hvl; omega) (by rw [hlen]; unfold LA at hvl; omega) rfl rfl (B_unif _) hA id hg
   rw [hlen, ← htk] at this
   exact this
  simp only [go_sem, simprocAttr, g1, g2, g3, g12, g13, g14, h0, h1, h5, hm, d1, hI']
  refine W_draw [(1, 3), (1, 5), (3, 5), (1, 6), (3, 6)] (by kernel_rfl) ?_ hno
  have hno : ∀ j, arrNo A (m + j) := fun j => hA.no' (by omega)
  have hgN : ∀ (H' : Heap) (j : Nat) (cs : List AV), (appU H' (arrUs A (m + j) cs)).get N = H'.get N := fun H' j cs => arrUs_get (by omega) (hA.no (by omega))
  have hg1 : ∀ (H' : Heap) (j : Nat) (cs : List AV), (appU H' (arrUs A (m + j) cs)).get (N + 1) = H'.get (N + 1) := fun H' j cs => arrUs_get (by omega) (hA.no (by omega))
  have hg5 : ∀ (H' : Heap) (j : Nat) (cs : List AV), (appU H' (arrUs A (m + j) cs)).get (N + 5) = H'.get (N + 5) := fun H' j cs => arrUs_get (by omega) (hA.no (by omega))
  simp only [go_sem, simprocAttr, g1, g2, g3, g12, g13, g14, h0, h1, h5, hm, hw, hI', hc, hb, hap, hno, hg5, hi1, n5, q5]
  have hap2 := fun (H' : Heap) (cs : List AV) => arrUs_new A (m + 14) cs H'
  refine ih (vs.length - (i + 1)) (by omega) _ _ ⟨i + 1, .ar (m + 14) 0 (i + 1) 2, rfl, by omega, by simp only [go_sem, simprocAttr, g1], by simp only [go_sem, simprocAttr, g2], by simp only [go_sem, simprocAttr, g3], by simp only [go_sem, simprocAttr, g12], by simp only [go_sem, simprocAttr, g13], by simp only [go_sem, simprocAttr], ?_, ?_, ?_, ?_, ?_, ?_⟩
  ·simp only [go_sem, simprocAttr, hgN, h0, n0, z5]
  ·simp only [go_sem, simprocAttr, hg1, h1, n1, z51]
  ·simp only [go_sem, simprocAttr]
  ·exact .inr ⟨m + 14, by rw [List.length_map, List.length_take, Nat.min_eq_left (by omega)], by rw [htk]; simp, by simp only [go_sem, simprocAttr, q5, hap2], by omega, by simp only [go_sem, simprocAttr, hm] <;> omega⟩
  ·simp only [go_sem, simprocAttr, hm] <;> omega
  ·repeat (first | exact hF | refine Frm.up ?_ _ | refine Frm.put ?_ _ (by omega) | refine Frm.arr ?_ (by omega) (fun k hk => hA.no (by omega)))
 ·have d1 : decide ((i : Int) < (vs.length : Nat)) = false := by simp; omega
  rw [List.take_of_length_le (by omega)] at hA
  simp only [go_sem, simprocAttr, g1, g2, g3, g12, g13, g14, h0, h1, h5, hm, d1, List.length_map]
  refine W_loop_ind (fun k e K => ∃ (i : Nat) (B : AV), k = ls.length - i ∧ i ≤ ls.length ∧ gget .bad e 2 = .ptr (N + 1) 0 ∧ gget .bad e 3 = .ptr (N + 5) 0 ∧ gget .bad e 31 = .sl .sh (ls.map encL) ∧ gget .bad e 32 = .lit (.int .i64 (ls.length : Nat)) ∧ gget .bad e 33 = .lit (.int .i64 (i : Nat)) ∧
    K.get (N + 1) = some [.lit (.bool false), .sl .nil [], .sl .nil []] ∧ K.get (N + 5) = some [.lit (.bool dd), A, B] ∧ ArrOf K m B 4 ((ls.take i).map encL) ∧ m ≤ K.next ∧ Frm H0 K ∧ ∀ k, N + 7 ≤ k → k < m → K.get k = H.get k)
   ls.length ⟨0, .sl .nil [], rfl, by omega, by simp only [go_sem, simprocAttr, g2], by simp only [go_sem, simprocAttr, g3], by simp only [go_sem, simprocAttr], by simp only [go_sem, simprocAttr], by simp only [go_sem, simprocAttr], by simp only [go_sem, simprocAttr, h1], by simp only [go_sem, simprocAttr, h5], .inl ⟨rfl, by simp⟩, by simp only [go_sem, simprocAttr, hm] <;> omega,
    by repeat (first | exact hF | refine Frm.up ?_ _), fun k _ _ => rfl⟩ ?_
  clear ih g1 g2 g3 g12 g13 g14 h0 h1 h5 hF n0 n1 n5 q5 d1 hlt
  rintro k ih e K ⟨i, B, rfl, hle, g2, g3, g31, g32, g33, h1, h5, hB, hmx, hF, hkp⟩
  obtain ⟨w, hw0⟩ : ∃ w, K.next = w := ⟨_, rfl⟩
  have n1 : ∀ j, ¬ w + j = N + 1 := fun j => by omega
  have n5 : ∀ j, ¬ w + j = N + 5 := fun j => by omega
  have q5 : ∀ j, ¬ N + 5 = w + j := fun j => by omega
  have hA1 := hA.one
  by_cases hlt : i < ls.length
  ·have d1 : decide ((i : Int) < (ls.length : Nat)) = true := by simp; omega
   have hw := wrap1 (show i + 1 ≤ 9223372036854775807 by unfold LA at hll; omega)
   have hI := iad_map (f := encL) (t := 83) (n := 4) (b := 64) (o := .sh) hlt (fun _ => rfl)
   have hfo := hL ls[i] (List.getElem_mem hlt)
   have htk : (ls.take (i + 1)).map encL = (ls.take i).map encL ++ [encL ls[i]] := by rw [List.take_succ_eq_append_getElem hlt, List.map_append]; rfl
   generalize hx : ls[i] = x at hI hfo htk
   have hI' : iad (some (83, 4, 64)) (.sl .sh (ls.map encL)) (some i) = some (.ep [.lit (.int .i64 x.atom.1), .lit (.int .i64 x.atom.2), .sl .sh (x.shape.fields.map encF), .sl .sh (encAs x.shape.proto)]) := hI
   clear hI
   have hc := t_objCopy hoc x.shape hfo
   have hb : aBuildSlice Tryz.prog 24 1 [(0, .agg [.lit (.int .i64 x.atom.1), .lit (.int .i64 x.atom.2), .sl .sh (x.shape.fields.map encF), .sl .sh (encAs x.shape.proto)])] =
     some (.sl .ex [[.lit (.int .i64 x.atom.1), .lit (.int .i64 x.atom.2), .sl .sh (x.shape.fields.map encF), .sl .sh (encAs x.shape.proto)]]) := build1 el_sLoc (by decide) zr_loc rfl rfl _ rfl rfl
   have hlen : ((ls.take i).map encL).length = i := by rw [List.length_map, List.length_take]; omega
   have hap : ∀ H' id, arrGet B H' = arrGet B K → aAppend Tryz.prog 24 B (.sl .ex [[.lit (.int .i64 x.atom.1), .lit (.int .i64 x.atom.2), .sl .sh (x.shape.fields.map encF), .sl .sh (encAs x.shape.proto)]]) H' id =
     some (.ar id 0 (i + 1) 4, arrUs B id ((ls.take (i + 1)).map encL).flatten, arrRs B) := by
    intro H' id hg
    have := app_arr (P := Tryz.prog) (x := encL x) (o := .ex) el_sLoc rfl (by decide) zo_sLoc (by rw [hlen]; unfold LA at hll; omega) (by rw [hlen]; unfold LA at hll; omega) rfl rfl (L_unif _) hB id hg
    rw [hlen, ← htk] at this
    exact this
   simp only [go_sem, simprocAttr, g2, g3, g31, g32, g33, h1, h5, hw0, d1, hI']
   refine W_draw [(1, 3), (1, 5), (3, 5), (1, 6), (3, 6)] (by kernel_rfl) ?_ hno
   have hno : ∀ j, arrNo B (w + j) := fun j => hB.no' (by omega)
   have hg1 : ∀ (H' : Heap) (j : Nat) (cs : List AV), (appU H' (arrUs B (w + j) cs)).get (N + 1) = H'.get (N + 1) := fun H' j cs => arrUs_get (by omega) (hB.no (by omega))
   have hg5 : ∀ (H' : Heap) (j : Nat) (cs : List AV), (appU H' (arrUs B (w + j) cs)).get (N + 5) = H'.get (N + 5) := fun H' j cs => arrUs_get (by omega) (hB.no (by omega))
   simp only [go_sem, simprocAttr, g2, g3, g31, g32, g33, h1, h5, hw0, hw, hI', hc, hb, hap, hno, hg5, hi2, n5, q5, hA1]
   have hap2 := fun (H' : Heap) (cs : List AV) => arrUs_new B (w + 14) cs H'
   refine ih (ls.length - (i + 1)) (by omega) _ _ ⟨i + 1, .ar (w + 14) 0 (i + 1) 4, rfl, by omega, by simp only [go_sem, simprocAttr, g2], by simp only [go_sem, simprocAttr, g3], by simp only [go_sem, simprocAttr, g31], by simp only [go_sem, simprocAttr, g32], by simp only [go_sem, simprocAttr], ?_, ?_, ?_, ?_, ?_, ?_⟩
   ·simp only [go_sem, simprocAttr, hg1, h1, n1, z51]
   ·simp only [go_sem, simprocAttr]
   ·exact .inr ⟨w + 14, by rw [List.length_map, List.length_take, Nat.min_eq_left (by omega)], by rw [htk]; simp, by simp only [go_sem, simprocAttr, q5, hap2], by omega, by simp only [go_sem, simprocAttr, hw0] <;> omega⟩
   ·simp only [go_sem, simprocAttr, hw0] <;> omega
   ·repeat (first | exact hF | refine Frm.up ?_ _ | refine Frm.put ?_ _ (by omega) | refine Frm.arr ?_ (by omega) (fun k hk => hB.no (by omega)))
   ·intro k hk1 hk2
    have e1 : ¬ N + 5 = k := by omega
    have e2 : ∀ j, ¬ w + j = k := fun j => by omega
    have e3 : ∀ (H' : Heap) (j : Nat) (cs : List AV), (appU H' (arrUs B (w + j) cs)).get k = H'.get k := fun H' j cs => arrUs_get (by omega) (hB.no hk2)
    simp only [go_sem, simprocAttr, e1, e2, e3, hkp k hk1 hk2]
  ·have d1 : decide ((i : Int) < (ls.length : Nat)) = false := by simp; omega
   rw [List.take_of_length_le (by omega)] at hB
   have hB1 := hB.one
   simp only [go_sem, simprocAttr, g2, g3, g31, g32, g33, h1, h5, hw0, d1, rs, hA1, hB1]
   refine ⟨_, rfl, hR A B _ ?_ ?_ ?_ ?_⟩
   ·repeat (first | exact hF | refine Frm.up ?_ _ | refine Frm.put ?_ _ (by omega))
   ·refine ((hA.of (H' := ((K.up 1).up 2).put (N + 1) [.lit (.bool dd), A, B]) (by simp only [go_sem, simprocAttr] <;> omega) (fun k h1 h2 => ?_))).mono (by omega)
    rw [Heap.get_put, if_neg (by omega)]
    exact hkp k h1 (by omega)
   ·refine ((hB.of (H' := ((K.up 1).up 2).put (N + 1) [.lit (.bool dd), A, B]) (by simp only [go_sem, simprocAttr] <;> omega) (fun k h1 h2 => ?_))).mono (by omega)
    rw [Heap.get_put, if_neg (by omega)]
    rfl
   ·rcases hA with ⟨rfl, _⟩ | ⟨r, rfl, _, _, _, h5⟩
    ·trivial
    ·exact hB.no (by omega)
end Go.Proofs.YtnoahchdmkpleaaGreat.VA

/-! De1 -/
namespace Go.Proofs.YtnoahchdmkpleaaGreat.VA
open Go Go.RowKit
set_option linter.unusedSimpArgs false

theorem wpList_clear_runI {P : Program} (w : World) {ops : Array Oper} {rest : List Oper} {o : Oper} {a : Act} {Q : Exit → Act → World → Prop} (hgd : o.guard = none) (d : Operand) (t : TypeId)
  (ho : o.op = .call { callee := .builtin .clear, args := #[d], argTypes := #[t] }) (v : Value) (hd : a.eval d = v) {v' : Value} {w' : World}
  (hr : (Builtin.clear_ #[t] o.type #[v]).run P w = .ok v' w') (h : wpList P ops Q rest (a.put o.dst v') w') : wpList P ops Q (o :: rest) a w :=
 wpList_plain hgd fun _ hK => by
  unfold Oper.wp execOp
  simp only [ho, resolve, invoke, builtin, Sem.run_bind, Sem.run_pure, Result.andThen_ok, List.map_toArray, List.map_cons, List.map_nil, hd, hr]
  exact hK _ _ h
theorem step_append_runI {P : Program} {ops : Array Oper} {o : Oper} {a : Act} {w : World} {K : Act → World → Prop} {Q : Exit → Act → World → Prop} {E : Prop}
  (hg : o.guard = none) (d x : Operand) (dT sT : TypeId) (hop : o.op = Op.call { callee := Callee.builtin Builtin.append, args := #[d, x], argTypes := #[dT, sT] })
  (v u : Value) (hd : a.eval d = v) (hx : a.eval x = u) {v' : Value} {w' : World} (hr : (Builtin.append_ #[dT, sT] o.type #[v, u]).run P w = .ok v' w') (hK : K (a.put o.dst v') w') :
  if Region.wanted o (yielded ops a.tmps) = true then Oper.wp P o a w K Q else E := by
 have hw : Region.wanted o (yielded ops a.tmps) = true := by simp [Region.wanted, hg]
 rw [if_pos hw]
 unfold Oper.wp
 simp [execOp, hop, resolve, invoke, builtin, hd, hx, hr, Result.andThen]
 exact hK
theorem run_clear_row1 {P : Program} (w : World) (t ty e : TypeId) (z : Value) (ht : P.underlying t = some (.slice e)) (hz : (zeroValue e).run P w = .ok z w) (b o c : Nat) (vs : Array Value) (t' : TypeId)
  (hb : w.heap[b]? = some (.cells vs t' (0, 0))) (hfit : o + z.cells.size ≤ vs.size) (h1 : ∀ u, u ∈ z.cells.toList → u.oneCell' = true) :
  (Builtin.clear_ #[t] ty #[.slice (some ⟨b, o, none⟩) 1 c]).run P w = .ok (.tuple #[]) (w.setRow b (vs.toList.take o ++ z.cells.toList ++ vs.toList.drop (o + z.cells.size)).toArray) := by
 have hzc : Builtin.zeroCells z.cells 1 = z.cells := by
  simp [Builtin.zeroCells]
  apply Array.ext
  ·simp
  ·intro i h1 h2
   simp [Nat.mod_eq_of_lt h2, h2]
 have hst := run_storeCells_at P b o t' z.cells.toList 0 vs w hb (by simpa using hfit) h1
 simp only [Nat.add_zero, Array.length_toList] at hst
 simp [Builtin.clear_, run_underlying ht, hz, hzc, hst]
def delRow {α : Type} (l zs : List α) (a s m : Nat) : List α := l.take a ++ (l.take m).drop (a + s) ++ zs ++ l.drop m
theorem delRow_two {α : Type} (l zs : List α) (a s m : Nat) (h1 : a + s ≤ m) (h2 : m ≤ l.length) (hz : zs.length = s) :
  (l.take a ++ (l.take m).drop (a + s) ++ l.drop (m - s)).take (m - s) ++ zs ++ (l.take a ++ (l.take m).drop (a + s) ++ l.drop (m - s)).drop (m - s + zs.length) = delRow l zs a s m := by
 have e1 : (l.take a ++ (l.take m).drop (a + s)).length = m - s := by simp only [List.length_append, List.length_take, List.length_drop]; omega
 have e2 : (l.take a ++ (l.take m).drop (a + s) ++ l.drop (m - s)).take (m - s) = l.take a ++ (l.take m).drop (a + s) := by rw [← e1]; exact List.take_left
 have e3 : (l.take a ++ (l.take m).drop (a + s) ++ l.drop (m - s)).drop (m - s + zs.length) = l.drop m := by
  rw [← List.drop_drop, List.drop_left' e1, List.drop_drop, hz]; congr 1; omega
 rw [e2, e3]; rfl
/-- What slices.Delete of one element does to rows. -/
structure DelWalks (P : Program) (f : FuncId) (t e : TypeId) (sz : Nat) : Prop where
 enters : ∀ vs w, (callFunc f vs).run P w = .ok (.enter f vs) w
 del : ∀ (b n c i : Nat) (vs : Array Value) (t' : TypeId) (z : Value) (w : World), i < n → n ≤ c → c ≤ 9223372036854775807 → ((P.info? e).bind fun i => i.zero) = some z → w.heap[b]? = some (.cells vs t' (0, 0)) → vs.size = c * sz →
  (∀ u, u ∈ z.cells.toList → u.oneCell' = true) → (∀ u, u ∈ vs.toList.take (n * sz) → u.oneCell' = true) →
  Calls P f #[.slice (some ⟨b, 0, none⟩) n c, .int .i64 i, .int .i64 ((i + 1 : Nat) : Int)] w fun en w' =>
   en = .returned (.slice (some ⟨b, 0, none⟩) (n - 1) c) ∧ w' = w.drew.setRow b (delRow vs.toList z.cells.toList (i * sz) sz (n * sz)).toArray
/-- Delete of one element of an array. -/
def delB (P : Program) (t : TypeId) (args : List AV) (H : Heap) : Option (AV × List U) :=
 match args with
 | [.ar r 0 n z, .lit (.int .i64 i), .lit (.int .i64 j)] =>
  match tElem P t, H.get r with
  | some (e, sz, _), some cs =>
   match tZero P e with
   | some zs => if z = sz ∧ 0 ≤ i ∧ j = i + 1 ∧ i < n ∧ n * sz ≤ cs.length ∧ 0 < sz ∧ zs.length = sz ∧ zs.all AV.one = true ∧ (cs.take (n * sz)).all AV.one = true then
     some (.ar r 0 (n - 1) sz, [.box r (delRow cs zs (i.toNat * sz) sz (n * sz))])
    else none
   | none => none
  | _, _ => none
 | _ => none
theorem delB_ok {P : Program} {C : Cond} {f : FuncId} {t e : TypeId} {sz by_ : Nat} (hW : DelWalks P f t e sz) (het : tElem P t = some (e, sz, by_)) : TolHOk P C f (delB P t) := by
 refine ⟨hW.enters, fun args H v us h g w vs hC hi ht hr => ?_⟩
 unfold delB at h
 split at h
 ·rename_i r n z i j
  obtain ⟨a1, a2, a3, hvs, r1, r2, r3⟩ := relL3 hr
  have hvs' : vs = #[a1, a2, a3] := by rw [← Array.toArray_toList (xs := vs), hvs]
  subst hvs'
  have hi2 := r2.lit_inv
  have hi3 := r3.lit_inv
  subst hi2 hi3
  obtain ⟨b, cap, m0, off, c, e1, rfl, hbx, hown, hnc, hcc, hoff⟩ := r1.ar_inv
  split at h
  ·rename_i e' sz' _ cs het' hcs
   rw [het] at het'
   simp only [Option.some.injEq, Prod.mk.injEq] at het'
   obtain ⟨rfl, rfl, rfl⟩ := het'
   split at h
   ·rename_i zs hzs
    split at h
    ·rename_i hc0
     obtain ⟨rfl, h0, rfl, hlt, hcl, hpos, hzl, hzo, hco⟩ := hc0
     simp only [Option.some.injEq, Prod.mk.injEq] at h
     obtain ⟨rfl, rfl⟩ := h
     obtain ⟨k, rfl⟩ : ∃ k : Nat, i = (k : Int) := ⟨i.toNat, by omega⟩
     have hkn : k < n := by omega
     simp only [Int.toNat_natCast]
     obtain ⟨zv, i', hzr, hi', hiz, hzrel⟩ := tZero_run hzs g w
     obtain ⟨b', vs, t', q1, q2, q3⟩ := hi.boxE hcs hbx
     rw [hbx] at q1
     simp at q1; subst q1
     obtain ⟨ha1, us0, ha2, ha3⟩ := hi.arr r b m0 cap e1 z (by rw [hcs]; rfl) hbx hown
     rw [q2] at ha2
     simp only [Option.some.injEq, Obj.cells.injEq] at ha2
     obtain ⟨rfl, rfl, _⟩ := ha2
     have hcap : cap = c := by omega
     subst hcap
     have ho : off = 0 := by have := hoff (by omega); omega
     subst ho
     have hcl2 : cs.length ≤ vs.toList.length := by have := q3.1; rw [List.length_take] at this; omega
     have hvl : vs.toList.length = cap * z := by simpa using ha3
     have hmax : maxLen = 9223372036854775807 := rfl
     have hkz : (k + 1) * z ≤ n * z := Nat.mul_le_mul_right z (by omega)
     rw [Nat.add_mul, Nat.one_mul] at hkz
     have hq4 : RelL g w (cs.take (n * z)) (vs.toList.take (n * z)) := by
      have := q3.take (n * z)
      rwa [List.take_take, Nat.min_eq_left (by omega)] at this
     have hpre : RelL g w (cs.take (k * z)) (vs.toList.take (k * z)) := by
      have := q3.take (k * z)
      rwa [List.take_take, Nat.min_eq_left (by omega)] at this
     have hzrel' : RelL g w zs zv.cells.toList := hzrel
     have hzc : zv.cells.size = z := by have := hzrel'.1; simp at this; omega
     have hzl2 : zv.cells.toList.length = z := by simp [hzc]
     have hnz : n * z ≤ vs.toList.length := by omega
     have hnew : RelL g w (delRow cs zs (k * z) z (n * z)) (((delRow vs.toList zv.cells.toList (k * z) z (n * z))).take cs.length) := by
      have hd := q3.drop (n * z)
      rw [List.drop_take] at hd
      have e5 : (delRow vs.toList zv.cells.toList (k * z) z (n * z)).take cs.length = vs.toList.take (k * z) ++ (vs.toList.take (n * z)).drop (k * z + z) ++ zv.cells.toList ++ (vs.toList.drop (n * z)).take (cs.length - n * z) := by
       unfold delRow
       have e6 : (vs.toList.take (k * z) ++ (vs.toList.take (n * z)).drop (k * z + z) ++ zv.cells.toList).length = n * z := by
        simp only [List.length_append, List.length_take, List.length_drop, hzl2]; omega
       rw [List.take_append, e6, List.take_of_length_le (by omega)]
      rw [e5]
      exact ((hpre.append (hq4.drop (k * z + z))).append hzrel').append hd
     have hdl : (delRow cs zs (k * z) z (n * z)).length = cs.length := by
      unfold delRow; simp only [List.length_append, List.length_take, List.length_drop, hzl]; omega
     have hdv : (delRow vs.toList zv.cells.toList (k * z) z (n * z)).length = vs.toList.length := by
      unfold delRow; simp only [List.length_append, List.length_take, List.length_drop, hzl2]; omega
     refine (hW.del b n cap k vs t' zv w hkn hnc (by omega) (by rw [hi']; exact hiz) q2 (by simpa using hvl) (relL_one hzrel' hzo) (relL_one hq4 hco)).mono fun en w' hp => ?_
     obtain ⟨rfl, rfl⟩ := hp
     obtain ⟨hd1, hd2⟩ := hi.drew
     obtain ⟨he, hinv⟩ := inv_store (w := w.drew) (vs' := (delRow vs.toList zv.cells.toList (k * z) z (n * z)).toArray) (cs' := delRow cs zs (k * z) z (n * z)) hd2 hcs hbx q2 (by simpa using hdv) (by
      rw [hdl]; exact hnew.ext hd1)
     exact ⟨_, g, rfl, tolH_past (us := [.box r _]) ht (hd1.trans he) hinv (fun _ _ => ⟨rfl, rfl⟩), .ar r 0 (n - 1) z b cap m0 0 cap t' hbx hown (by omega) hcc hoff⟩
    ·cases h
   ·cases h
  ·cases h
 ·cases h
end Go.Proofs.YtnoahchdmkpleaaGreat.VA

/-! In3 -/
namespace Go.Proofs.YtnoahchdmkpleaaGreat.VA
open Go Go.Shelf Go.RowKit
set_option linter.unusedVariables false
set_option linter.unusedSimpArgs false
def Hid2 (p : Prop) : Prop := p
theorem hid2 {p : Prop} (h : p) : Hid2 p := h
theorem Hid2.out {p : Prop} (h : Hid2 p) : p := h

set_option maxHeartbeats 4000000 in
set_option maxRecDepth 100000 in
theorem insBind_shift (b n c i vc : Nat) (ad : Addr) (vs : Array Value) (nv : List Value) (t' : TypeId) (w : World) (hi : i < n) (hroom : n + 1 ≤ c) (hc63 : c ≤ 9223372036854775807)
  (hb : w.heap[b]? = some (.cells vs t' (0, 0))) (hvl : vs.size = c * 2) (hnl : nv.length = 2)
  (hnc : ∀ j u, nv[j]? = some u → w.cell? (ad.add j) = some u) (h1n : ∀ u, u ∈ nv → u.oneCell' = true) (h1o : ∀ u, u ∈ vs.toList.take (n * 2) → u.oneCell' = true) (hvb : ad.block ≠ b) (hsp : ad.spot = none) :
  Calls Tryz.prog 133 #[.slice (some ⟨b, 0, none⟩) n c, .int .i64 i, .slice (some ad) 1 vc] w fun en w' =>
   en = .returned (.slice (some ⟨b, 0, none⟩) (n + 1) c) ∧ w' = w.drew.setRow b (insRow vs.toList nv (i * 2) (n * 2)).toArray := by
 obtain ⟨vb, voff, sp⟩ := ad
 simp only at hsp hvb
 subst hsp
 have ht : Tryz.prog.underlying 23 = some (.slice 76) := by kernel_rfl
 have hinf : ∃ inf, Tryz.prog.info? 76 = some inf ∧ inf.size = 2 := ⟨_, rfl, by kernel_rfl⟩
 obtain ⟨inf, hinf1, hinf2⟩ := hinf
 have hvl2 : vs.toList.length = c * 2 := by simpa using hvl
 have hxv : ∃ x, w.cell? ⟨vb, voff, none⟩ = some x := by
  match nv, hnl with
  | [x, y], _ => exact ⟨x, by simpa [addr_add] using hnc 0 x rfl⟩
 obtain ⟨x0, hx0⟩ := hxv
 have hov : ∀ lb cb, (callFunc 171 #[.slice (some ⟨vb, voff, none⟩) 1 vc, .slice (some ⟨b, (i + 1) * 2, none⟩) lb cb]).run Tryz.prog w = .ok (.value (.bool false)) w := fun lb cb => by
  rw [run_callFunc_extern (fn := Tryz.f171) (by kernel_rfl) (by kernel_rfl) (by kernel_rfl) (by kernel_rfl) (e := Extern.SlicesOverlaps.overlaps #[23, 23] #[4]) (by kernel_rfl),
   run_overlaps_row w 23 4 76 ht 2 (fun w => by simp [sizeOf, typeInfo, hinf1, hinf2]) ⟨vb, voff, none⟩ ⟨b, (i + 1) * 2, none⟩ 1 vc lb cb hvb x0 hx0 vs t' hb (by omega)]
  rfl
 have hdl : ((vs.toList.take (n * 2)).drop (i * 2)).length = (n - i) * 2 := by rw [List.length_drop, List.length_take]; omega
 have hcp1 : ∀ ty dc sc, (Builtin.copy_ #[23, 23] ty #[.slice (some ⟨b, (i + 1) * 2, none⟩) (n - i) dc, .slice (some ⟨b, i * 2, none⟩) (n + 1 - i) sc]).run Tryz.prog w.drew =
   .ok (goInt ((n - i : Nat) : Int)) (w.drew.setRow b (vs.toList.take ((i + 1) * 2) ++ (vs.toList.take (n * 2)).drop (i * 2) ++ vs.toList.drop ((i + 1) * 2 + ((vs.toList.take (n * 2)).drop (i * 2)).length)).toArray) := fun ty dc sc =>
  run_copy_rowK w.drew _ _ ty 76 inf b ((i + 1) * 2) (n - i) dc ⟨b, i * 2, none⟩ (n + 1 - i) sc (n - i) vs t' _ ht hinf1 hb (by simp only [Nat.min_def]; split <;> omega) (by rw [hinf2, hdl])
   (fun j v hj => by
    rw [addr_add, cell_of_row w.drew b (i * 2 + j) vs t' (0, 0) hb]
    rw [List.getElem?_drop, List.getElem?_take] at hj
    split at hj
    ·rwa [Array.getElem?_toList] at hj
    ·cases hj) (by rw [hdl]; omega) (fun v hv => h1o v (List.mem_of_mem_drop hv))
 obtain ⟨R1, hR1⟩ : ∃ R1, R1 = (vs.toList.take ((i + 1) * 2) ++ (vs.toList.take (n * 2)).drop (i * 2) ++ vs.toList.drop ((i + 1) * 2 + ((vs.toList.take (n * 2)).drop (i * 2)).length)).toArray := ⟨_, rfl⟩
 have hR1s : R1.size = vs.size := by
  rw [hR1]
  simp only [List.size_toArray, List.length_append, List.length_take, hdl, List.length_drop]
  simp at hvl2 ⊢
  omega
 rw [← hR1] at hcp1
 have hb1 : (w.drew.setRow b R1).heap[b]? = some (.cells R1 t' (0, 0)) := setRow_heap w.drew b vs R1 t' (0, 0) hb
 have hcp2 : ∀ ty dc, (Builtin.copy_ #[23, 23] ty #[.slice (some ⟨b, i * 2, none⟩) (n + 1 - i) dc, .slice (some ⟨vb, voff, none⟩) 1 vc]).run Tryz.prog (w.drew.setRow b R1) =
   .ok (goInt 1) (w.drew.setRow b (insRow vs.toList nv (i * 2) (n * 2)).toArray) := fun ty dc => by
  have h := run_copy_rowK (P := Tryz.prog) (w.drew.setRow b R1) 23 23 ty 76 inf b (i * 2) (n + 1 - i) dc ⟨vb, voff, none⟩ 1 vc 1 R1 t' nv ht hinf1 hb1 (by simp only [Nat.min_def]; split <;> omega) (by rw [hinf2, hnl])
   (fun j v hj => by
    rw [addr_add, cell_setRow_other w.drew b R1 ⟨vb, voff + j, none⟩ hvb]
    have := hnc j v hj
    rwa [addr_add] at this) (by rw [hR1s]; omega) h1n
  rw [h, setRow_setRow]
  have e := insRow_two vs.toList nv (i * 2) (n * 2) (by omega) (by omega)
  rw [hnl] at e
  have e3 : (i + 1) * 2 = i * 2 + 2 := by omega
  rw [e3] at hR1
  rw [hnl, ← e, hR1]
  rfl
 have hw1 : IntKind.i64.wrap ((i : Int) + 1) = (i : Int) + 1 := by rw [IntKind.wrap_i64]; omega
 have hw2 : IntKind.i64.wrap ((n : Int) + 1) = (n : Int) + 1 := by rw [IntKind.wrap_i64]; omega
 have hz2 : ¬ ((i : Int) = (n : Int)) := by omega
 have hin : i ≤ n := by omega
 have hp3 : (i : Int) ≤ (n : Int) + 1 := by omega
 have hp1 : (0 : Int) ≤ (i : Int) + 1 := by omega
 have hp2 : (0 : Int) ≤ (n : Int) + 1 := by omega
 have hb3 : ¬ ((c : Int) < (n : Int) + 1) := by omega
 have hb2 : ¬ (c = i + 1) := by omega
 have hb4 : ¬ (c = i) := by omega
 have hgt : ((n : Int) + 1).toNat = n + 1 := by omega
 have hgi : ((i : Int) + 1).toNat = i + 1 := by omega
 have HCP1 := hid2 hcp1
 have HCP2 := hid2 hcp2
 clear hcp1 hcp2 hnc h1n h1o hR1
 go_enter Tryz.func133, Tryz.ntmps133
 go_wp2_with (simp only [hov])
 go_region_law (refine step_copy_runI rfl _ _ 23 23 rfl (.slice (some ⟨b, (i + 1) * 2, none⟩) (n - i) (c - (i + 1))) (.slice (some ⟨b, i * 2, none⟩) (n + 1 - i) (c - i)) (by simp [Act.eval, Act.put]) (by simp [Act.eval, Act.put]) (HCP1.out 3 (c - (i + 1)) (c - i)) ?_)
 go_wp2_with (refine wpList_copy_runI _ rfl _ _ 23 23 rfl (.slice (some ⟨b, i * 2, none⟩) (n + 1 - i) (c - i)) (.slice (some ⟨vb, voff, none⟩) 1 vc) (by first | rfl | simp [Act.eval, Act.put]) (by first | rfl | simp [Act.eval, Act.put]) (HCP2.out 3 (c - i)) ?_)

 go_ret
 exact ⟨rfl, rfl⟩
end Go.Proofs.YtnoahchdmkpleaaGreat.VA

/-! In4 -/
namespace Go.Proofs.YtnoahchdmkpleaaGreat.VA
open Go Go.Shelf Go.RowKit
set_option linter.unusedVariables false
set_option linter.unusedSimpArgs false

theorem bindZero {z : Value} (h : ((Tryz.prog.info? 76).bind fun i => i.zero) = some z) : z.cells.size = 2 := by
 have h2 : ((Tryz.prog.info? 76).bind fun i => i.zero).map (fun z => z.cells.size) = some 2 := by kernel_rfl
 rw [h] at h2
 simpa using h2
theorem grow_rows {α : Type} (l nv z1 z2 : List α) (a m : Nat) (h1 : a ≤ m) (h2 : m ≤ l.length) (hz : z1.length = m - a + nv.length) :
  ((l.take a ++ z1 ++ z2).take a ++ nv ++ (l.take a ++ z1 ++ z2).drop (a + nv.length)).take (a + nv.length) ++ (l.take m).drop a ++
   ((l.take a ++ z1 ++ z2).take a ++ nv ++ (l.take a ++ z1 ++ z2).drop (a + nv.length)).drop (a + nv.length + ((l.take m).drop a).length) = l.take a ++ nv ++ (l.take m).drop a ++ z2 := by
 have e0 : (l.take a).length = a := by rw [List.length_take]; omega
 have e1 : ((l.take m).drop a).length = m - a := by rw [List.length_drop, List.length_take]; omega
 have e2 : (l.take a ++ z1 ++ z2).take a = l.take a := by
  rw [List.append_assoc, List.take_append_of_le_length (by omega), List.take_take, Nat.min_self]
 have e3 : (l.take a ++ z1 ++ z2).drop (a + nv.length) = (z1 ++ z2).drop nv.length := by
  rw [List.append_assoc, List.drop_append, List.drop_eq_nil_of_le (by omega), List.nil_append, e0]; congr 1; omega
 rw [e2, e3, e1]
 have e4 : (l.take a ++ nv).length = a + nv.length := by rw [List.length_append, e0]
 have e5 : (l.take a ++ nv ++ (z1 ++ z2).drop nv.length).take (a + nv.length) = l.take a ++ nv := by rw [← e4]; exact List.take_left
 have e6 : (l.take a ++ nv ++ (z1 ++ z2).drop nv.length).drop (a + nv.length + (m - a)) = z2 := by
  rw [List.drop_append, List.drop_eq_nil_of_le (by omega), List.nil_append, e4, List.drop_drop, List.drop_append, List.drop_eq_nil_of_le (by omega), List.nil_append]
  rw [show nv.length + (a + nv.length + (m - a) - (a + nv.length)) - z1.length = 0 by omega, List.drop_zero]
 rw [e5, e6]
set_option maxHeartbeats 4000000 in
set_option maxRecDepth 100000 in
theorem insBind_grow (b n c i vc : Nat) (ad : Addr) (vs : Array Value) (nv : List Value) (t' : TypeId) (z : Value) (w : World) (hi : i < n) (hnc0 : n ≤ c) (hroom : c < n + 1) (hbig : n + 1 ≤ 1000000000000)
  (hz : ((Tryz.prog.info? 76).bind fun i => i.zero) = some z)
  (hb : w.heap[b]? = some (.cells vs t' (0, 0))) (hvl : vs.size = c * 2) (hnl : nv.length = 2)
  (hnc : ∀ j u, nv[j]? = some u → w.cell? (ad.add j) = some u) (h1n : ∀ u, u ∈ nv → u.oneCell' = true) (h1o : ∀ u, u ∈ vs.toList.take (n * 2) → u.oneCell' = true) (hsp : ad.spot = none) :
  Calls Tryz.prog 133 #[.slice (some ⟨b, 0, none⟩) n c, .int .i64 i, .slice (some ad) 1 vc] w fun en w' => ∃ G, G = grownCap w (n + 1) c 76 ∧
   en = .returned (.slice (some ⟨w.heap.size, 0, none⟩) (n + 1) G) ∧
   w' = w.drew.drew.alloc (.cells ((vs.toList.take (i * 2) ++ nv ++ (vs.toList.take (n * 2)).drop (i * 2)).toArray ++ Builtin.zeroCells z.cells (G - (n + 1))) 76) := by
 obtain ⟨vb, voff, sp⟩ := ad
 simp only at hsp
 subst hsp
 have hcn : c = n := by omega
 subst hcn
 have hzc := bindZero hz
 have ht : Tryz.prog.underlying 23 = some (.slice 76) := by kernel_rfl
 have htn : Tryz.prog.underlying 3 = some (.int .i64) := by kernel_rfl
 have hinf : ∃ inf, Tryz.prog.info? 76 = some inf ∧ inf.size = 2 ∧ inf.bytes = 40 := ⟨_, rfl, by kernel_rfl, by kernel_rfl⟩
 obtain ⟨inf, hinf1, hinf2, hinf3⟩ := hinf
 have hiz : inf.zero = some z := by rw [hinf1] at hz; exact hz
 clear hz
 have hvl2 : vs.toList.length = c * 2 := by simpa using hvl
 have hbw : b < w.heap.size := (Array.getElem?_eq_some_iff.1 hb).1
 have hvw : vb < w.heap.size := by
  match nv, hnl with
  | [x, y], _ =>
   have := hnc 0 x rfl
   exact block_lt_of_cell (by simpa [addr_add] using this)
 have hik : i + (c + 1 - i) = c + 1 := by omega
 have hkk : (c : Int) + 1 - (i : Int) = ((c + 1 - i : Nat) : Int) := by omega
 have hold : (Builtin.firstCells inf.size i (.slice (some ⟨b, 0, none⟩) i c)).run Tryz.prog w.drew = .ok (vs.toList.take (i * 2)).toArray w.drew := by
  rw [hinf2]
  refine run_firstCells_some w.drew 2 i ⟨b, 0, none⟩ i c (vs.toList.take (i * 2)) (by rw [List.length_take]; omega) (fun j v hj => ?_)
  rw [addr_add, cell_of_row w.drew b (0 + j) vs t' (0, 0) hb, Nat.zero_add]
  rw [List.getElem?_take] at hj
  split at hj
  ·rwa [Array.getElem?_toList] at hj
  ·cases hj
 obtain ⟨G, hG⟩ : ∃ G, G = grownCap w (c + 1) c 76 := ⟨_, rfl⟩
 have hGn : c + 1 ≤ G := by rw [hG]; exact grownCap_ge w _ _ _
 have hmax : maxLen = 9223372036854775807 := rfl
 have hG63 : G ≤ 9223372036854775807 := by
  have := grownCap_le_maxLen w (c + 1) c 76 (by omega)
  rw [← hG] at this
  omega
 obtain ⟨R1, hR1⟩ : ∃ R1 : Array Value, R1 = (vs.toList.take (i * 2)).toArray ++ Builtin.zeroCells z.cells (c + 1 - i) ++ Builtin.zeroCells z.cells (G - (c + 1)) := ⟨_, rfl⟩
 have hR1l : R1.toList = vs.toList.take (i * 2) ++ (Builtin.zeroCells z.cells (c + 1 - i)).toList ++ (Builtin.zeroCells z.cells (G - (c + 1))).toList := by rw [hR1]; simp
 have hR1s : R1.size = G * 2 := by
  rw [hR1]
  simp only [Array.size_append, List.size_toArray, size_zeroCells, hzc, List.length_take]
  omega
 have hrz : ∀ ty, (Builtin.append_ #[23, 3] ty #[.slice (some ⟨b, 0, none⟩) i c, .int .i64 ((c : Int) + 1 - (i : Int))]).run Tryz.prog w =
   .ok (.slice (some ⟨w.heap.size, 0, none⟩) (c + 1) G) (w.drew.alloc (.cells R1 76)) := fun ty => by
  have h := Lib.run_append_grow_zeros w 23 3 ty 76 inf z .i64 .i64 ht htn hinf1 hiz (some ⟨b, 0, none⟩) i c (vs.toList.take (i * 2)) hold (c + 1 - i) (by omega) (by omega) (by omega) (by omega)
   (by rw [hinf3]; omega) (by rw [hinf3, hik]; exact growslice_fits (by omega) (by omega))
  rw [hik, ← hG, ← hR1] at h
  rw [hkk]
  exact h
 have hdl : ((vs.toList.take (c * 2)).drop (i * 2)).length = (c - i) * 2 := by rw [List.length_drop, List.length_take]; omega
 have hsz : w.heap.size = w.drew.heap.size := rfl
 have hn1 : (w.drew.alloc (.cells R1 76)).heap[w.heap.size]? = some (.cells R1 76 (0, 0)) := heap_alloc_new w.drew _
 obtain ⟨R2, hR2⟩ : ∃ R2, R2 = (R1.toList.take (i * 2) ++ nv ++ R1.toList.drop (i * 2 + nv.length)).toArray := ⟨_, rfl⟩
 have hR1l2 : R1.toList.length = G * 2 := by simpa using hR1s
 have hR2s : R2.size = G * 2 := by
  rw [hR2]
  simp only [List.size_toArray, List.length_append, List.length_take, List.length_drop, hnl, hR1l2]
  omega
 have hcpA : ∀ ty dc, (Builtin.copy_ #[23, 23] ty #[.slice (some ⟨w.heap.size, i * 2, none⟩) (c + 1 - i) dc, .slice (some ⟨vb, voff, none⟩) 1 vc]).run Tryz.prog (w.drew.alloc (.cells R1 76)) =
   .ok (goInt 1) (w.drew.alloc (.cells R2 76)) := fun ty dc => by
  have h := run_copy_rowK (P := Tryz.prog) (w.drew.alloc (.cells R1 76)) 23 23 ty 76 inf w.heap.size (i * 2) (c + 1 - i) dc ⟨vb, voff, none⟩ 1 vc 1 R1 76 nv ht hinf1 hn1
   (by simp only [Nat.min_def]; split <;> omega) (by rw [hinf2, hnl])
   (fun j v hj => by
    rw [addr_add, World.cell?_alloc_lt w.drew _ ⟨vb, voff + j, none⟩ hvw]
    have := hnc j v hj
    rwa [addr_add] at this) (by rw [hR1s]; omega) h1n
  rw [h, ← hR2, alloc_setRow _ _ hsz]
  rfl
 have hn2 : ((w.drew.alloc (.cells R2 76)).drew).heap[w.heap.size]? = some (.cells R2 76 (0, 0)) := heap_alloc_new w.drew _
 obtain ⟨R3, hR3⟩ : ∃ R3, R3 = (R2.toList.take ((i + 1) * 2) ++ (vs.toList.take (c * 2)).drop (i * 2) ++ R2.toList.drop ((i + 1) * 2 + ((vs.toList.take (c * 2)).drop (i * 2)).length)).toArray := ⟨_, rfl⟩
 have hcpB : ∀ ty dc sc, (Builtin.copy_ #[23, 23] ty #[.slice (some ⟨w.heap.size, (i + 1) * 2, none⟩) (c - i) dc, .slice (some ⟨b, i * 2, none⟩) (c - i) sc]).run Tryz.prog ((w.drew.alloc (.cells R2 76)).drew) =
   .ok (goInt ((c - i : Nat) : Int)) ((w.drew.alloc (.cells R3 76)).drew) := fun ty dc sc => by
  have h := run_copy_rowK (P := Tryz.prog) ((w.drew.alloc (.cells R2 76)).drew) 23 23 ty 76 inf w.heap.size ((i + 1) * 2) (c - i) dc ⟨b, i * 2, none⟩ (c - i) sc (c - i) R2 76
   ((vs.toList.take (c * 2)).drop (i * 2)) ht hinf1 hn2 (by simp only [Nat.min_def]; split <;> omega) (by rw [hinf2, hdl])
   (fun j v hj => by
    have hb' : (w.drew.alloc (.cells R2 76)).drew.heap[b]? = some (.cells vs t' (0, 0)) := (Below.heap_alloc w.drew _ b (by simpa using hbw)).trans hb
    rw [addr_add, cell_of_row _ b (i * 2 + j) vs t' (0, 0) hb']
    rw [List.getElem?_drop, List.getElem?_take] at hj
    split at hj
    ·rwa [Array.getElem?_toList] at hj
    ·cases hj) (by rw [hdl, hR2s]; omega) (fun v hv => h1o v (List.mem_of_mem_drop hv))
  rw [h, ← hR3]
  have e : ∀ R, ((w.drew.alloc (.cells R2 76)).drew).setRow w.heap.size R = ((w.drew.alloc (.cells R2 76)).setRow w.heap.size R).drew := fun R => rfl
  rw [e, alloc_setRow _ _ hsz]
 have hfin : (w.drew.alloc (.cells R3 76)).drew = w.drew.drew.alloc (.cells ((vs.toList.take (i * 2) ++ nv ++ (vs.toList.take (c * 2)).drop (i * 2)).toArray ++ Builtin.zeroCells z.cells (G - (c + 1))) 76) := by
  have e := grow_rows vs.toList nv (Builtin.zeroCells z.cells (c + 1 - i)).toList (Builtin.zeroCells z.cells (G - (c + 1))).toList (i * 2) (c * 2) (by omega) (by omega) (by
   rw [Array.length_toList, size_zeroCells, hzc, hnl]; omega)
  have e3 : (i + 1) * 2 = i * 2 + nv.length := by omega
  have e4 : R3 = ((vs.toList.take (i * 2) ++ nv ++ (vs.toList.take (c * 2)).drop (i * 2)).toArray ++ Builtin.zeroCells z.cells (G - (c + 1))) := by
   rw [hR3, e3, hR2, ← hR1l] at *
   apply Array.toList_inj.1
   rw [Array.toList_append]
   simpa using e
  rw [e4]
  rfl
 have hw1 : IntKind.i64.wrap ((i : Int) + 1) = (i : Int) + 1 := by rw [IntKind.wrap_i64]; omega
 have hw2 : IntKind.i64.wrap ((c : Int) + 1) = (c : Int) + 1 := by rw [IntKind.wrap_i64]; omega
 have hw3 : IntKind.i64.wrap ((c : Int) + 1 - (i : Int)) = (c : Int) + 1 - (i : Int) := by rw [IntKind.wrap_i64]; omega
 have hz2 : ¬ ((i : Int) = (c : Int)) := by omega
 have hin : i ≤ c := by omega
 have hp3 : (i : Int) ≤ (c : Int) + 1 := by omega
 have hp1 : (0 : Int) ≤ (i : Int) + 1 := by omega
 have hp2 : (0 : Int) ≤ (c : Int) + 1 := by omega
 have hb3 : (c : Int) < (c : Int) + 1 := by omega
 have hgi : ((i : Int) + 1).toNat = i + 1 := by omega
 have hGi : ¬ (G = i) := by omega
 have hGim : ¬ (G = i + 1) := by omega
 have hci : ¬ (c = i) := by omega
 have HA := hid2 hrz
 have HB := hid2 hcpA
 have HC := hid2 hcpB
 have HG := hid2 hG
 have HF := hid2 hfin
 clear hsz hmax hdl hvl hvl2 hnl hR1l2 hR1s hR2s hzc hinf1 hinf2 hinf3 hroom hnc0 hrz hcpA hcpB hG hfin hnc h1n h1o hR1 hR2 hR3 hkk hik hold hR1l hn1 hn2 hiz
 go_enter Tryz.func133, Tryz.ntmps133
 go_wp2_with (first
  | (refine Lib.wpList_append_run _ rfl _ _ 23 3 rfl (.slice (some ⟨b, 0, none⟩) i c) (.int .i64 ((c : Int) + 1 - (i : Int))) (by first | rfl | simp [Act.eval, Act.put]) (by first | rfl | simp [Act.eval, Act.put]) _ _ (HA.out _) ?_)
  | (refine wpList_copy_runI _ rfl _ _ 23 23 rfl (.slice (some ⟨w.heap.size, i * 2, none⟩) (c + 1 - i) (G - i)) (.slice (some ⟨vb, voff, none⟩) 1 vc) (by first | rfl | simp [Act.eval, Act.put]) (by first | rfl | simp [Act.eval, Act.put]) (HB.out 3 (G - i)) ?_))
 go_region_law (refine step_copy_runI rfl _ _ 23 23 rfl (.slice (some ⟨w.heap.size, (i + 1) * 2, none⟩) (c - i) (G - (i + 1))) (.slice (some ⟨b, i * 2, none⟩) (c - i) (c - i)) (by simp [Act.eval, Act.put]) (by simp [Act.eval, Act.put]) (HC.out 3 (G - (i + 1)) (c - i)) ?_)
 go_wp2
 go_ret
 exact ⟨G, HG.out, rfl, HF.out⟩
set_option maxHeartbeats 4000000 in
set_option maxRecDepth 100000 in
theorem insBind_end (a : Option Addr) (n c vc : Nat) (ad : Option Addr) (w w' : World) (q : Value) (hnc : n ≤ c) (hr : (Builtin.append_ #[23, 23] 23 #[.slice a n c, .slice ad 1 vc]).run Tryz.prog w = .ok q w') :
  Calls Tryz.prog 133 #[.slice a n c, .int .i64 n, .slice ad 1 vc] w fun en w'' => en = .returned q ∧ w'' = w' := by
 have HA := hid2 hr
 clear hr
 go_enter Tryz.func133, Tryz.ntmps133
 go_wp2_with (refine Lib.wpList_append_run _ rfl _ _ 23 23 rfl (.slice a n c) (.slice ad 1 vc) (by first | rfl | simp [Act.eval, Act.put]) (by first | rfl | simp [Act.eval, Act.put]) _ _ HA.out ?_)
 all_goals (go_ret; exact ⟨rfl, rfl⟩)
theorem insBind_walks : InsWalks Tryz.prog 133 23 76 2 :=
 ⟨fun vs w => callFunc_enter (fn := Tryz.f133) (by kernel_rfl) (by kernel_rfl) rfl vs w, insBind_shift, insBind_grow, insBind_end⟩
theorem insBind_ok (C : Cond) : TolHOk Tryz.prog C 133 (insB Tryz.prog 23) := insB_ok (by_ := 40) insBind_walks (by kernel_rfl)
end Go.Proofs.YtnoahchdmkpleaaGreat.VA

/-! De2 -/
namespace Go.Proofs.YtnoahchdmkpleaaGreat.VA
open Go Go.Shelf Go.RowKit
set_option linter.unusedVariables false
set_option linter.unusedSimpArgs false

set_option maxHeartbeats 4000000 in
set_option maxRecDepth 100000 in
theorem delBind_walk (b n c i : Nat) (vs : Array Value) (t' : TypeId) (z : Value) (w : World) (hi : i < n) (hnc : n ≤ c) (hc63 : c ≤ 9223372036854775807) (hz : ((Tryz.prog.info? 76).bind fun i => i.zero) = some z)
  (hb : w.heap[b]? = some (.cells vs t' (0, 0))) (hvl : vs.size = c * 2) (h1z : ∀ u, u ∈ z.cells.toList → u.oneCell' = true) (h1o : ∀ u, u ∈ vs.toList.take (n * 2) → u.oneCell' = true) :
  Calls Tryz.prog 132 #[.slice (some ⟨b, 0, none⟩) n c, .int .i64 i, .int .i64 ((i + 1 : Nat) : Int)] w fun en w' =>
   en = .returned (.slice (some ⟨b, 0, none⟩) (n - 1) c) ∧ w' = w.drew.setRow b (delRow vs.toList z.cells.toList (i * 2) 2 (n * 2)).toArray := by
 have hzc := bindZero hz
 have ht : Tryz.prog.underlying 23 = some (.slice 76) := by kernel_rfl
 have hinf : ∃ inf, Tryz.prog.info? 76 = some inf ∧ inf.size = 2 := ⟨_, rfl, by kernel_rfl⟩
 obtain ⟨inf, hinf1, hinf2⟩ := hinf
 have hiz : inf.zero = some z := by rw [hinf1] at hz; exact hz
 have hzv : ∀ w, (zeroValue 76).run Tryz.prog w = .ok z w := fun w => by simp [zeroValue, typeInfo, hinf1, hiz]
 have hsz : ∀ w, (sizeOf 76).run Tryz.prog w = .ok 2 w := fun w => by simp [sizeOf, typeInfo, hinf1, hinf2]
 clear hz
 have hvl2 : vs.toList.length = c * 2 := by simpa using hvl
 obtain ⟨R1, hR1⟩ : ∃ R1, R1 = (vs.toList.take (i * 2) ++ (vs.toList.take (n * 2)).drop (i * 2 + 2) ++ vs.toList.drop (n * 2 - 2)).toArray := ⟨_, rfl⟩
 have hR1s : R1.size = vs.size := by
  rw [hR1]
  simp only [List.size_toArray, List.length_append, List.length_take, List.length_drop]
  simp at hvl2 ⊢
  omega
 have hap : ∀ ty dc, (Builtin.append_ #[23, 23] ty #[.slice (some ⟨b, 0, none⟩) i c, .slice (if c = i + 1 then some ⟨b, 0, none⟩ else some ⟨b, (i + 1) * 2, none⟩) (n - (i + 1)) dc]).run Tryz.prog w.drew =
   .ok (.slice (some ⟨b, 0, none⟩) (n - 1) c) (w.drew.setRow b R1) := fun ty dc => by
  by_cases hn1 : n = i + 1
  ·subst hn1
   have e1 : vs.toList.take (i * 2) ++ (vs.toList.take ((i + 1) * 2)).drop (i * 2 + 2) ++ vs.toList.drop ((i + 1) * 2 - 2) = vs.toList := by
    rw [List.drop_eq_nil_of_le (by rw [List.length_take]; omega), List.append_nil, show (i + 1) * 2 - 2 = i * 2 by omega, List.take_append_drop]
   rw [hR1, e1, Array.toArray_toList, setRow_self w.drew b vs t' (0, 0) hb]
   have := run_append_zero (P := Tryz.prog) (w := w.drew) (t := 23) ty ht (hsz w.drew) (a := some ⟨b, 0, none⟩) (n := i) (cap := c) (a' := (if c = i + 1 then some ⟨b, 0, none⟩ else some ⟨b, (i + 1) * 2, none⟩)) (c' := dc) (by omega)
   rw [show i + 1 - (i + 1) = 0 by omega, show i + 1 - 1 = i by omega]
   exact this
  ·rw [if_neg (by omega)]
   have h := run_append_room2 (P := Tryz.prog) (w := w.drew) 23 ty 76 t' inf ht hinf1 b i c vs hb ⟨b, (i + 1) * 2, none⟩ (n - (i + 1)) dc ((vs.toList.take (n * 2)).drop (i * 2 + 2))
    (by rw [hinf2, List.length_drop, List.length_take]; omega)
    (fun j u hj => by
     rw [addr_add, cell_of_row w.drew b ((i + 1) * 2 + j) vs t' (0, 0) hb]
     rw [List.getElem?_drop, List.getElem?_take] at hj
     split at hj
     ·rw [show (i + 1) * 2 + j = i * 2 + 2 + j by omega]; rwa [Array.getElem?_toList] at hj
     ·cases hj) (fun u hu => h1o u (List.mem_of_mem_drop hu)) (by omega) (by rw [hinf2, List.length_drop, List.length_take]; omega)
   rw [h, hinf2, hR1]
   congr 3
   ·omega
   ·congr 3
    rw [List.length_drop, List.length_take]; omega
 have hb1 : (w.drew.setRow b R1).heap[b]? = some (.cells R1 t' (0, 0)) := setRow_heap w.drew b vs R1 t' (0, 0) hb
 have hcl : ∀ ty dc, (Builtin.clear_ #[23] ty #[.slice (some ⟨b, (n - 1) * 2, none⟩) 1 dc]).run Tryz.prog (w.drew.setRow b R1) = .ok (.tuple #[]) (w.drew.setRow b (delRow vs.toList z.cells.toList (i * 2) 2 (n * 2)).toArray) := fun ty dc => by
  have h := run_clear_row1 (P := Tryz.prog) (w.drew.setRow b R1) 23 ty 76 z ht (hzv _) b ((n - 1) * 2) dc R1 t' hb1 (by rw [hR1s, hzc]; omega) h1z
  rw [h, setRow_setRow]
  have hzl : z.cells.toList.length = 2 := by simp [hzc]
  have e := delRow_two vs.toList z.cells.toList (i * 2) 2 (n * 2) (by omega) (by omega) hzl
  rw [← e, hR1, hzl, hzc]
  have e4 : (n - 1) * 2 = n * 2 - 2 := by omega
  rw [e4]
 have hw1 : ¬ ((i : Int) = ((i + 1 : Nat) : Int)) := by omega
 have hw2 : ¬ ((i : Int) = (i : Int) + 1) := by omega
 have q1 : i ≤ i + 1 := by omega
 have q2 : i + 1 ≤ n := by omega
 have q3 : n ≤ c := hnc
 have q4 : i ≤ n := by omega
 have q5 : ¬ (c = i) := by omega
 have q6 : (i : Int) + 1 ≤ (n : Int) := by omega
 have q7 : ((i : Int) + 1).toNat = i + 1 := by omega
 have q8 : (0 : Int) ≤ (i : Int) + 1 := by omega
 have q9 : n - (n - 1) = 1 := by omega
 have q10 : ¬ (c = n - 1) := by omega
 have q11 : n - 1 ≤ n := by omega
 clear h1z hR1 hR1s
 generalize z.cells.toList = ZC at hcl ⊢
 by_cases hc1 : c = i + 1
 ·have hn1 : n = i + 1 := by omega
  subst hn1
  subst hc1
  have HA := hid2 (hap 23 0)
  have HC := hid2 (hcl 0 1)
  rw [if_pos rfl, Nat.sub_self, Nat.add_sub_cancel] at HA
  rw [Nat.add_sub_cancel] at HC
  clear hap hcl h1o hvl hvl2 hinf1 hinf2 hiz hzc hzv hsz hb1 q9 q10 q11 q2 q3 q4 q5 hnc
  have p1 : (i : Int) ≤ (i : Int) + 1 := by omega
  have p2 : ¬ (i + 1 = i) := by omega
  have p3 : i ≤ i + 1 := by omega
  have p4 : i + 1 - i = 1 := by omega
  go_enter Tryz.func132, Tryz.ntmps132
  go_wp2
  go_region_law (refine step_append_runI rfl _ _ 23 23 rfl (.slice (some ⟨b, 0, none⟩) i (i + 1)) (.slice (some ⟨b, 0, none⟩) 0 0) (by simp [Act.eval, Act.put]) (by simp [Act.eval, Act.put]) HA.out ?_)
  go_wp2_with (refine wpList_clear_runI _ rfl _ 23 rfl (.slice (some ⟨b, i * 2, none⟩) 1 1) (by first | rfl | simp [Act.eval, Act.put]) HC.out ?_)
  go_ret
  exact ⟨rfl, rfl⟩
 ·simp only [if_neg hc1] at hap
  have HA := hid2 hap
  have HC := hid2 hcl
  clear hap hcl h1o hvl hvl2 hinf1 hinf2 hiz hzc hzv hsz hb1
  have p1 : (i : Int) ≤ (c : Int) := by omega
  have p2 : i ≤ c := by omega
  have p3 : n - 1 ≤ c := by omega
  have p4 : n ≤ c := by omega
  have p5 : ((n - 1 : Nat) : Int) ≤ (n : Int) := by omega
  have p6 : i + 1 ≤ c := by omega
  have p7 : (i : Int) + 1 ≤ (c : Int) := by omega
  go_enter Tryz.func132, Tryz.ntmps132
  go_wp2
  go_region_law (refine step_append_runI rfl _ _ 23 23 rfl (.slice (some ⟨b, 0, none⟩) i c) (.slice (some ⟨b, (i + 1) * 2, none⟩) (n - (i + 1)) (c - (i + 1))) (by simp [Act.eval, Act.put]) (by simp [Act.eval, Act.put]) (HA.out 23 (c - (i + 1))) ?_)
  go_wp2_with (refine wpList_clear_runI _ rfl _ 23 rfl (.slice (some ⟨b, (n - 1) * 2, none⟩) 1 (c - (n - 1))) (by first | rfl | simp [Act.eval, Act.put]) (HC.out 0 (c - (n - 1))) ?_)
  go_ret
  exact ⟨rfl, rfl⟩
theorem delBind_walks : DelWalks Tryz.prog 132 23 76 2 :=
 ⟨fun vs w => callFunc_enter (fn := Tryz.f132) (by kernel_rfl) (by kernel_rfl) rfl vs w, delBind_walk⟩
theorem delBind_ok (C : Cond) : TolHOk Tryz.prog C 132 (delB Tryz.prog 23) := delB_ok (by_ := 40) delBind_walks (by kernel_rfl)
end Go.Proofs.YtnoahchdmkpleaaGreat.VA

/-! Se1 -/
namespace Go.Proofs.YtnoahchdmkpleaaGreat.VA
open Go Go.RowKit
attribute [local go_sem] Nat.add_eq_left Nat.left_eq_add true_and and_true ite_true if_false Int.cast_ofNat_Int eq_self Nat.add_assoc Option.some.injEq decide_true decide_false Bool.not_true Bool.not_false List.size_toArray List.length_cons List.length_nil
set_option linter.unusedSimpArgs false
set_option maxRecDepth 100000

/-- The table for state.Set. -/
noncomputable def cfg2 : Cfg := mkC Tryz.prog [115] [48, 87, 130, 154, 131,
 132, 133] [115, 48, 87]
 [(74, tClone), (75, toldBy Tryz.prog cfgO 75), (60, toldBy Tryz.prog cfg1 60), (45, toldBy Tryz.prog cfgR 45)]
 [(133, insB Tryz.prog 23), (132, delB Tryz.prog 23)]
theorem cfg2_ok : CfgOk Tryz.prog Cond.none cfg2 := mkC_ok (by kernel_rfl) (by kernel_rfl) (by
 intro p hp
 simp only [List.mem_cons, List.not_mem_nil, or_false] at hp
 rcases hp with rfl | rfl | rfl | rfl
 ·exact tClone_ok _
 ·exact toldBy_ok cfgO_ok (fn := Tryz.f75) (by kernel_rfl) (by kernel_rfl) rfl
 ·exact toldBy_ok cfg1_ok (fn := Tryz.f60) (by kernel_rfl) (by kernel_rfl) rfl
 ·exact toldBy_ok cfgR_ok (fn := Tryz.f45) (by kernel_rfl) (by kernel_rfl) rfl) (by
 intro p hp
 simp only [List.mem_cons, List.not_mem_nil, or_false] at hp
 rcases hp with rfl | rfl
 ·exact insBind_ok _
 ·exact delBind_ok _)
theorem c_set1 (x : Bnd) (q : ByteArray) (p : Nat) (H : Heap) (hp : H.get p = some [.lit (.string q)]) (hlt : p < H.next) : ∃ v H', calls Tryz.prog cfg2 131 [.agg (encB x), .ptr p 0] H = some (.ret v H') ∧
  (v = .lit (.bool (!strLt x.nm q)) ∧ Frm H H') := by
 refine calls_imp (fn := Tryz.f131) rfl rfl rfl rfl rfl ?_
 have rs : Tryz.f131.results.toList = [.tmp 3] := rfl
 obtain ⟨m, hm⟩ : ∃ m, H.next = m := ⟨_, rfl⟩
 have n0 : ∀ j, ¬ m + j = p := fun j => by omega
 unfold encB
 simp only [go_sem, simprocAttr, rs, hp, hm, n0]
 exact ⟨_, rfl, rfl, by repeat (first | exact Frm.refl _ | refine Frm.up ?_ _ | refine Frm.put ?_ _ (by omega))⟩
end Go.Proofs.YtnoahchdmkpleaaGreat.VA

/-! Se2 -/
namespace Go.Proofs.YtnoahchdmkpleaaGreat.VA
open Go Go.RowKit
attribute [local go_sem] Nat.add_eq_left Nat.left_eq_add true_and and_true ite_true if_false Int.cast_ofNat_Int eq_self Nat.add_assoc Option.some.injEq decide_true decide_false Bool.not_true Bool.not_false List.size_toArray List.length_cons List.length_nil
set_option linter.unusedSimpArgs false
set_option maxRecDepth 100000

theorem flat_row {sz : Nat} {es : List (List AV)} (h : Unif sz es) {i : Nat} (hi : i < es.length) : i * sz + sz ≤ es.flatten.length := by
 rw [flat_len h]
 have := Nat.mul_le_mul_right sz (show i + 1 ≤ es.length from hi)
 rw [Nat.add_mul, Nat.one_mul] at this
 exact this
theorem c_idxBnd (vs : List Bnd) (q : ByteArray) (p : Nat) (A : AV) (lo : Nat) (H0 : Heap) (hA : ArrOf H0 lo A 2 (vs.map encB)) (hp : H0.get p = some [.lit (.string q)]) (hlt : p < H0.next) (hvl : vs.length ≤ LA) :
  ∃ v H', calls Tryz.prog cfg2 154 [A, .fn 131 [.ptr p 0]] H0 = some (.ret v H') ∧
   (Frm H0 H' ∧ ((v = .lit (.int .i64 (-1)) ∧ vs.all (fun b => strLt b.nm q) = true) ∨ ∃ (i : Nat) (h : i < vs.length), v = .lit (.int .i64 (i : Nat)) ∧ (vs.take i).all (fun b => strLt b.nm q) = true ∧ strLt vs[i].nm q = false)) := by
 refine calls_imp (fn := Tryz.f154) rfl rfl rfl rfl rfl ?_
 have rs : Tryz.f154.results.toList = [.tmp 4] := rfl
 rcases hA with ⟨rfl, he⟩ | ⟨r, rfl, he, hg, hlo, hrn⟩
 ·have hv0 : vs = [] := List.map_eq_nil_iff.1 he
  subst hv0
  have d0 : decide ((0 : Int) < 0) = false := rfl
  simp only [go_sem, simprocAttr, rs]
  rw [W_loop]
  simp only [go_sem, simprocAttr, rs, d0]
  exact ⟨_, rfl, by repeat (first | exact Frm.refl _ | refine Frm.up ?_ _), .inl rfl⟩
 ·rw [List.length_map]
  simp only [go_sem, simprocAttr, rs]
  refine W_loop_ind (fun k e H => ∃ i : Nat, k = vs.length - i ∧ i ≤ vs.length ∧ (vs.take i).all (fun b => strLt b.nm q) = true ∧ Frm H0 H ∧ gget .bad e 0 = .ar r 0 vs.length 2 ∧ gget .bad e 1 = .fn 131 [.ptr p 0] ∧ gget .bad e 7 = .lit (.int .i64 (vs.length : Nat)) ∧ gget .bad e 8 = .lit (.int .i64 (i : Nat)))
   vs.length ⟨0, rfl, by omega, rfl, by repeat (first | exact Frm.refl _ | refine Frm.up ?_ _), by simp only [go_sem, simprocAttr], by simp only [go_sem, simprocAttr], by simp only [go_sem, simprocAttr], by simp only [go_sem, simprocAttr]⟩ ?_
  rintro k ih e H ⟨i, rfl, hle, hR, hF, g0, g1, g7, g8⟩
  by_cases hl : i < vs.length
  ·have d1 : decide ((i : Int) < (vs.length : Nat)) = true := by simp; omega
   have ha := iad_ar (t := 76) (b := 40) (r := r) (a := 0) (sz := 2) hl
   rw [Nat.zero_add] at ha
   have hw1 := wrap1 (show i + 1 ≤ 9223372036854775807 by unfold LA at hvl; omega)
   have hgr : H.get r = some ((vs.map encB).flatten) := by rw [hF.get hrn]; exact hg
   have hgp : H.get p = some [.lit (.string q)] := by rw [hF.get hlt]; exact hp
   have hst := flat_row (B_unif vs) (i := i) (by simpa using hl)
   have hat := flat_at (B_unif vs) (i := i) (x := encB vs[i]) (by simp [hl])
   have hnx := hF.nx
   simp only [go_sem, simprocAttr, g0, g1, g7, g8, d1, ha, hgr, hst, hat]
   refine goC_ex (c_set1 vs[i] q p _ (by simp only [go_sem, simprocAttr, hgp]) (by simp only [go_sem, simprocAttr]; omega)) ?_
   rintro v H1 ⟨rfl, hF1⟩
   have hF2 : Frm H0 H1 := (by repeat (first | exact hF | refine Frm.up ?_ _) : Frm H0 _).trans hF1
   cases hx : strLt vs[i].nm q with
   | true =>
    simp only [go_sem, simprocAttr, g0, g1, g7, g8, hw1]
    exact ih (vs.length - (i + 1)) (by omega) _ _ ⟨i + 1, rfl, by omega, by rw [List.take_succ_eq_append_getElem hl, List.all_append, hR]; simp [hx], by repeat (first | exact hF2 | refine Frm.up ?_ _), by simp only [go_sem, simprocAttr, g0], by simp only [go_sem, simprocAttr, g1], by simp only [go_sem, simprocAttr, g7], by simp only [go_sem, simprocAttr]⟩
   | false =>
    simp only [go_sem, simprocAttr, g0, g1, g7, g8, rs]
    exact ⟨_, rfl, by repeat (first | exact hF2 | refine Frm.up ?_ _), .inr ⟨i, hl, rfl, hR, hx⟩⟩
  ·have d1 : decide ((i : Int) < (vs.length : Nat)) = false := by simp; omega
   rw [List.take_of_length_le (by omega)] at hR
   simp only [go_sem, simprocAttr, g0, g1, g7, g8, d1, rs]
   exact ⟨_, rfl, by repeat (first | exact hF | refine Frm.up ?_ _), .inl ⟨rfl, hR⟩⟩
theorem c_befBnd (vs : List Bnd) (q : ByteArray) (p : Nat) (A : AV) (lo : Nat) (H0 : Heap) (hA : ArrOf H0 lo A 2 (vs.map encB)) (hp : H0.get p = some [.lit (.string q)]) (hlt : p < H0.next) (hvl : vs.length ≤ LA) :
  ∃ v H', calls Tryz.prog cfg2 130 [A, .fn 131 [.ptr p 0]] H0 = some (.ret v H') ∧
   (Frm H0 H' ∧ ∃ k : Nat, v = .lit (.int .i64 (k : Nat)) ∧ k ≤ vs.length ∧ (vs.take k).all (fun b => strLt b.nm q) = true ∧ ∀ h : k < vs.length, strLt vs[k].nm q = false) := by
 refine calls_imp (fn := Tryz.f130) rfl rfl rfl rfl rfl ?_
 have rs : Tryz.f130.results.toList = [.tmp 4] := rfl
 have hln : lnn Tryz.prog 23 A = some (.lit (.int .i64 (vs.length : Nat))) := by
  rcases hA with ⟨rfl, he⟩ | ⟨r, rfl, _⟩
  ·have hv0 : vs = [] := List.map_eq_nil_iff.1 he
   subst hv0; rfl
  ·rw [lnn_ar (q := (76, 2, 40)) _ _ _ _ el_sBnd, List.length_map]
 simp only [go_sem, simprocAttr, rs]
 refine goC_ex (c_idxBnd vs q p A lo _ (hA.of (by simp only [go_sem, simprocAttr]; omega) (fun _ _ _ => rfl)) hp (by simp only [go_sem, simprocAttr]; omega) hvl) ?_
 rintro v H1 ⟨hF1, hv⟩
 have hF2 : Frm H0 H1 := (by repeat (first | exact Frm.refl _ | refine Frm.up ?_ _) : Frm H0 _).trans hF1
 rcases hv with ⟨rfl, hall⟩ | ⟨i, hi, rfl, hall, hx⟩
 ·have d1 : decide ((0 : Int) ≤ -1) = false := rfl
  simp only [go_sem, simprocAttr, rs, d1, hln]
  exact ⟨_, rfl, by repeat (first | exact hF2 | refine Frm.up ?_ _), vs.length, rfl, Nat.le_refl _, by rw [List.take_of_length_le (Nat.le_refl _)]; exact hall, fun h => absurd h (Nat.lt_irrefl _)⟩
 ·have d1 : decide ((0 : Int) ≤ (i : Nat)) = true := by simp
  simp only [go_sem, simprocAttr, rs, d1]
  exact ⟨_, rfl, by repeat (first | exact hF2 | refine Frm.up ?_ _), i, rfl, by omega, hall, fun _ => hx⟩
end Go.Proofs.YtnoahchdmkpleaaGreat.VA

/-! Se3 -/
namespace Go.Proofs.YtnoahchdmkpleaaGreat.VA
open Go Go.RowKit
set_option linter.unusedSimpArgs false
set_option maxRecDepth 100000

def zB : List AV := [.lit (.string ⟨#[]⟩), .sl .nil []]
theorem c_delBnd (vs : List Bnd) (k : Nat) (hk : k < vs.length) (r : Nat) (H : Heap) (hg : H.get r = some (vs.map encB).flatten) (hr : r < H.next) : ∃ v H', calls Tryz.prog cfg2 132 [.ar r 0 vs.length 2, .lit (.int .i64 (k : Nat)), .lit (.int .i64 ((k + 1 : Nat) : Int))] H = some (.ret v H') ∧
  (v = .ar r 0 (vs.length - 1) 2 ∧ ∃ z, Unif 2 z ∧ z.flatten.all AV.one = true ∧ Arr H r H' (((vs.take k ++ vs.drop (k + 1)).map encB) ++ z)) := by
 have hu := B_unif vs
 have hll : (vs.map encB).flatten.length = vs.length * 2 := by rw [flat_len hu]; simp
 have hkz : k * 2 + 2 = (k + 1) * 2 := by omega
 have e1 : delRow (vs.map encB).flatten zB (k * 2) 2 (vs.length * 2) = (((vs.take k ++ vs.drop (k + 1)).map encB) ++ [zB]).flatten := by
  unfold delRow
  rw [List.take_of_length_le (l := (vs.map encB).flatten) (i := vs.length * 2) (by omega), List.drop_of_length_le (l := (vs.map encB).flatten) (i := vs.length * 2) (by omega), List.append_nil, (flat_cut hu k (by simp; omega)).1, hkz, (flat_cut hu (k + 1) (by simp; omega)).2, List.map_append, List.flatten_append, List.flatten_append, ← List.map_take, ← List.map_drop]
  rfl
 refine ⟨_, _, calls_tolH (h := delB Tryz.prog 23) (v := .ar r 0 (vs.length - 1) 2) (us := [.box r (delRow (vs.map encB).flatten zB (k * 2) 2 (vs.length * 2))]) rfl rfl rfl ?_, rfl, [zB], fun e he => by simp at he; subst he; rfl, rfl, ?_⟩
 ·unfold delB
  simp only [el_sBnd, hg, zr_bind]
  rw [if_pos ⟨by trivial, by omega, by omega, by omega, by rw [hll]; exact Nat.le_refl _, by decide, rfl, rfl, by rw [List.take_of_length_le (by omega)]; exact B_ones vs⟩]
  simp
  rfl
 ·refine ⟨?_, Nat.le_succ _, fun j hj hne => ?_, hr⟩
  ·rw [← e1]; simp [appU, U.app]
  ·have hne' : ¬ r = j := fun e => hne e.symm
   simp [appU, U.app, Heap.put, Heap.ho_set, hne']
/-- A list that is nil, or an array's beginning. -/
def ArrP (H : Heap) (A : AV) (es : List (List AV)) : Prop :=
 (A = .sl .nil [] ∧ es = []) ∨ ∃ r z, A = .ar r 0 es.length 2 ∧ H.get r = some (es ++ z).flatten ∧ r < H.next ∧ Unif 2 z ∧ z.flatten.all AV.one = true
theorem ArrP.up {H : Heap} {A : AV} {es : List (List AV)} (h : ArrP H A es) (n : Nat) : ArrP (H.up n) A es := by
 rcases h with h | ⟨r, z, h1, h2, h3, h4⟩
 ·exact .inl h
 ·exact .inr ⟨r, z, h1, h2, Nat.lt_of_lt_of_le h3 (Nat.le_add_right _ _), h4⟩
theorem ArrP.put {H : Heap} {A : AV} {es : List (List AV)} (h : ArrP H A es) {b : Nat} (cs : List AV) (hb : arrNo A b) : ArrP (H.put b cs) A es := by
 rcases h with h | ⟨r, z, rfl, h2, h3, h4⟩
 ·exact .inl h
 ·have hb' : r ≠ b := hb
  exact .inr ⟨r, z, rfl, by rw [Heap.get_put, if_neg (fun e => hb' e.symm)]; exact h2, h3, h4⟩
theorem frz_arrP {H : Heap} {A : AV} {es : List (List AV)} (h : ArrP H A es) (hu : Unif 2 es) (h1 : es.flatten.all AV.one = true) : san (frz H A) = .sl .sh (sanLL es) := by
 rcases h with ⟨rfl, rfl⟩ | ⟨r, z, rfl, h3, _, h4, h5⟩
 ·rfl
 ·have hul := hu.append h4
  simp only [frz, h3]
  rw [if_pos ⟨by rw [flat_len hul, Nat.zero_add, List.length_append]; exact Nat.mul_le_mul_right 2 (Nat.le_add_right _ _), by rw [List.flatten_append, List.all_append, h1, h5]; rfl⟩, Nat.zero_mul, List.drop_zero, chunk_flat _ hul (by simp), List.take_left]
  rfl
theorem c_insBnd (es : List Bnd) (x : Bnd) (k : Nat) (hk : k ≤ es.length) (hl : es.length + 1 ≤ LA) (A : AV) (H : Heap) (hA : ArrP H A (es.map encB)) : ∃ v H', calls Tryz.prog cfg2 133 [A, .lit (.int .i64 (k : Nat)), .sl .ex [encB x]] H = some (.ret v H') ∧
  (v.one = true ∧ ArrP H' v ((es.take k ++ [x] ++ es.drop k).map encB) ∧ H.next ≤ H'.next ∧ (∀ j, j < H.next → arrNo A j → H'.ho j = H.ho j) ∧ ∀ j, j < H.next → arrNo A j → arrNo v j) := by
 have hx1 : (encB x).all AV.one = true := rfl
 rcases hA with ⟨rfl, he⟩ | ⟨r, z, rfl, hg, hrn, hz, hzo⟩
 ·have he0 : es = [] := List.map_eq_nil_iff.1 he
  subst he0
  have hk0 : k = 0 := by simpa using hk
  subst hk0
  have hap := append_nilA (P := Tryz.prog) (H := H) (id := H.next) (o := .ex) (y := encB x) (xs := []) el_sBnd rfl (by decide) zo_sBnd (by decide) (by decide) (fun y hy => by simp at hy; subst hy; rfl)
  refine ⟨_, _, calls_tolH (h := insB Tryz.prog 23) (v := .ar H.next 0 1 2) (us := [.box H.next [encB x].flatten]) rfl rfl rfl ?_, rfl, .inr ⟨H.next, [], rfl, ?_, ?_, Unif.nil 2, rfl⟩, Nat.le_succ _, fun j hj _ => ?_, fun j hj _ => show H.next ≠ j by omega⟩
  ·show insB Tryz.prog 23 [.sl .nil [], .lit (.int .i64 ((0 : Nat) : Int)), .sl .ex [encB x]] H = _
   unfold insB
   simp only [hap]
   rfl
  ·simp [appU, U.app]
  ·simp [appU, U.app]
  ·have hne' : ¬ H.next = j := by omega
   simp [appU, U.app, Heap.put, Heap.ho_set, hne']
 ·have hu := B_unif es
  have hul := hu.append hz
  have hll : (es.map encB ++ z).flatten.length = (es.length + z.length) * 2 := by rw [flat_len hul]; simp
  rw [List.length_map]
  by_cases hkn : k = es.length
  ·subst hkn
   have hes : (es.take es.length ++ [x] ++ es.drop es.length).map encB = es.map encB ++ [encB x] := by simp
   have htk : (es.map encB ++ z).flatten.take (es.length * 2) = (es.map encB).flatten := by
    rw [(flat_cut hul es.length (by simp)).1]; congr 1; exact List.take_left' (by simp)
   have hnw : newsA 2 H (.sl .ex [encB x]) = some (encB x, 1, []) := by
    rw [news_sl (fun e he => by simp at he; subst he; rfl)]; simp
   have hrun : ∀ q, aAppend Tryz.prog 23 (.ar r 0 es.length 2) (.sl .ex [encB x]) H H.next = some q → insB Tryz.prog 23 [.ar r 0 es.length 2, .lit (.int .i64 ((es.length : Nat) : Int)), .sl .ex [encB x]] H = some (q.1, q.2.1) := by
    intro q hq
    unfold insB
    simp only [hq, if_true]
    rfl
   rw [hes]
   cases z with
   | nil =>
    rw [List.append_nil] at hg
    have hap := append_arN (P := Tryz.prog) (id := H.next) (r := r) (n := es.length) (m := 1) el_sBnd hg hnw (by omega) (by decide) zo_sBnd (by unfold LA at hl; omega) (by unfold LA at hl; omega) hx1 (by rw [flat_len hu]; simp)
    refine ⟨_, _, calls_tolH (h := insB Tryz.prog 23) (v := .ar H.next 0 (es.length + 1) 2) rfl rfl rfl (hrun _ hap), rfl, .inr ⟨H.next, [], by simp, ?_, ?_, Unif.nil 2, rfl⟩, Nat.le_succ _, fun j hj hne => ?_, fun j hj _ => show H.next ≠ j by omega⟩
    ·simp [appU, U.app]
    ·simp [appU, U.app]
    ·have hne' : ¬ H.next = j := by omega
     have hne2 : r ≠ j := hne
     simp [appU, U.app, Heap.put, Heap.set, Heap.del, hne', hne2]
   | cons y z =>
    have hap := append_ar (P := Tryz.prog) (id := H.next) (r := r) (n := es.length) (m := 1) el_sBnd hg hnw (by omega) (by decide) zo_sBnd (by unfold LA at hl; omega) (by unfold LA at hl; omega) hx1 (by rw [hll]; simp; omega)
    refine ⟨_, _, calls_tolH (h := insB Tryz.prog 23) (v := .ar r 0 (es.length + 1) 2) rfl rfl rfl (hrun _ hap), rfl, .inr ⟨r, z, by simp, ?_, ?_, fun e he => hz e (List.mem_cons_of_mem _ he), ?_⟩, Nat.le_succ _, fun j hj hne => ?_, fun j hj hne => hne⟩
    ·have hdr : (es.map encB ++ y :: z).flatten.drop ((es.length + 1) * 2) = z.flatten := by
      rw [(flat_cut hul (es.length + 1) (by simp)).2]; congr 1
      rw [show es.map encB ++ y :: z = (es.map encB ++ [y]) ++ z by simp]; exact List.drop_left' (by simp)
     simp only [htk, hdr]
     simp [appU, U.app]
    ·simp [appU, U.app]; omega
    ·rw [List.flatten_cons, List.all_append] at hzo
     exact (Bool.and_eq_true _ _ ▸ hzo).2
    ·have hne2 : ¬ r = j := hne
     simp [appU, U.app, Heap.put, Heap.ho_set, hne2]
  ·have hkl : k < es.length := by omega
   have htn : (es.map encB ++ z).flatten.take (es.length * 2) = (es.map encB).flatten := by
    rw [(flat_cut hul es.length (by simp)).1]; congr 1; exact List.take_left' (by simp)
   have hcells : (es.map encB ++ z).flatten.take (k * 2) ++ encB x ++ ((es.map encB ++ z).flatten.take (es.length * 2)).drop (k * 2) = ((es.take k ++ [x] ++ es.drop k).map encB).flatten := by
    have h1 : (es.map encB ++ z).flatten.take (k * 2) = ((es.take k).map encB).flatten := by
     rw [(flat_cut hul k (by simp; omega)).1, List.take_append_of_le_length (by simp; omega), List.map_take]
    rw [htn, h1, (flat_cut hu k (by simp; omega)).2, ← List.map_drop, List.map_append, List.map_append, List.flatten_append, List.flatten_append]
    simp
   refine ⟨_, _, calls_tolH (h := insB Tryz.prog 23) (v := .ar H.next 0 (es.length + 1) 2) (us := [.del r, .box H.next ((es.map encB ++ z).flatten.take (k * 2) ++ encB x ++ ((es.map encB ++ z).flatten.take (es.length * 2)).drop (k * 2))]) rfl rfl rfl ?_, rfl, .inr ⟨H.next, [], ?_, ?_, ?_, Unif.nil 2, rfl⟩, Nat.le_succ _, fun j hj hne => ?_, fun j hj _ => show H.next ≠ j by omega⟩
   ·unfold insB
    have hne' : ¬ ((k : Nat) : Int) = ((es.length : Nat) : Int) := by omega
    simp only [if_neg hne', el_sBnd, hg]
    rw [if_pos ⟨by trivial, by omega, by omega, by rw [hll]; omega, rfl, by decide, zo_sBnd, by unfold LA at hl; omega, hx1, by rw [htn]; exact B_ones es⟩]
    simp
   ·congr 1; simp; omega
   ·rw [hcells]; simp [appU, U.app]
   ·simp [appU, U.app]
   ·have hne' : ¬ H.next = j := by omega
    have hne2 : r ≠ j := hne
    simp [appU, U.app, Heap.put, Heap.set, Heap.del, hne', hne2]
end Go.Proofs.YtnoahchdmkpleaaGreat.VA

/-! Se4 -/
namespace Go.Proofs.YtnoahchdmkpleaaGreat.VA
open Go Go.RowKit
attribute [local go_sem] Nat.add_eq_left Nat.left_eq_add true_and and_true ite_true if_false Int.cast_ofNat_Int eq_self Nat.add_assoc Option.some.injEq decide_true decide_false Bool.not_true Bool.not_false List.size_toArray List.length_cons List.length_nil
set_option linter.unusedSimpArgs false
set_option maxRecDepth 100000

def bef (q : ByteArray) (vs : List Bnd) : Nat := (vs.takeWhile fun b => strLt b.nm q).length
theorem bef_eq {q : ByteArray} : ∀ {vs : List Bnd} {k : Nat}, k ≤ vs.length → (vs.take k).all (fun b => strLt b.nm q) = true → (∀ h : k < vs.length, strLt vs[k].nm q = false) → bef q vs = k
 | [], k, h, _, _ => by simp at h; subst h; rfl
 | x :: vs, 0, _, _, h => by
  have := h (by simp)
  unfold bef; rw [List.takeWhile_cons]; simp at this; simp [this]
 | x :: vs, k + 1, h1, h2, h3 => by
  rw [List.take_succ_cons, List.all_cons, Bool.and_eq_true] at h2
  have ih := bef_eq (q := q) (vs := vs) (k := k) (by simpa using h1) h2.2 (fun h => by have := h3 (by simp; exact h); simpa using this)
  unfold bef at ih ⊢
  rw [List.takeWhile_cons]; simp [h2.1, ih]
def setB (q : ByteArray) (nd : List (Int × Int)) (vs : List Bnd) : List Bnd :=
 vs.take (bef q vs) ++ [⟨q, nd⟩] ++ (match vs[bef q vs]? with | some b => if b.nm = q then vs.drop (bef q vs + 1) else vs.drop (bef q vs) | none => [])
section
variable {P : Program} {c : Cfg} {st : List Fr} {Q : Post} {ds : List (Option Tmp)} {base : Nat} {dst : Option Tmp} {os : List Oper} {i : Nat} {f : FuncId} {args : List AV} {e : List AV} {H : Heap} {R : AV → Heap → Prop} {un : List (Nat × Nat)} {tr : List Tr}
theorem dK_ex {ho : Bool} (h : ∃ v H', calls P c f args H = some (.ret v H') ∧ R v H') (hi : c.imp f = true) (k : ∀ v H', R v H' → WD P c ho un ds base os i (tr ++ [.call v H H']) st (aput e dst v) H' Q) : dK P c ho (calls P c f args H) (c.imp f) un ds base dst os i tr st e H Q := by
 obtain ⟨v, H', h1, h2⟩ := h
 rw [h1, hi]; exact k v H' h2
end
theorem cells_of_one {v : AV} (h : v.one = true) : v.cells = [v] := by cases v <;> first | rfl | simp [AV.one] at h
theorem t_norm (d : List (Int × Int)) (hl : d.length ≤ LA) (o : Own) (H : Heap) : calls Tryz.prog cfg2 60 [.sl o (encAs d)] H = some (.ret (.sl .sh (encAs (normA d))) H) :=
 calls_by rfl (fun H => by simp only [sanL, san, sanLL_encAs]; exact c_norm d hl .sh H) (by simp only [san, sanLL_encAs]) H
theorem c_set (dd : Bool) (vs : List Bnd) (A B : AV) (q : ByteArray) (d : List (Int × Int)) (o : Own) (lo : Nat) (H0 : Heap) (hA : ArrOf H0 lo A 2 (vs.map encB)) (hB : B.one = true) (hd : d.length ≤ LA) (hvl : vs.length + 1 ≤ LA) :
  ∃ v H', calls Tryz.prog cfg2 87 [.agg [.lit (.bool dd), A, B], .lit (.string q), .sl o (encAs d)] H0 = some (.ret v H') ∧
   (∃ A', v = .agg [.lit (.bool dd), A', B] ∧ A'.one = true ∧ ArrP H' A' ((setB q (normA d) vs).map encB) ∧ H0.next ≤ H'.next ∧ ∀ j, j < H0.next → arrNo A j → (H'.ho j = H0.ho j ∧ arrNo A' j)) := by
 refine calls_arr (fn := Tryz.f87) rfl rfl rfl rfl rfl ?_
 have rs : Tryz.f87.results.toList = [.cell 6 26] := rfl
 generalize hN : H0.next = N
 have hA1 := hA.one
 have z1 : ¬ N + 1 = N := by omega
 have z2 : ¬ N + 2 = N := by omega
 have z3 : ¬ N + 2 = N + 1 := by omega
 have hno : ∀ j, arrNo A (N + j) := fun j => hA.no' (by omega)
 have hno0 : arrNo A N := hA.no' (by omega)
 simp only [go_sem, simprocAttr, rs, hN, Nat.add_zero, z1, z2, z3, hA1, hB]
 refine goC_ex (c_befBnd vs q (N + 1) A lo _ (hA.of (by simp only [go_sem, simprocAttr]; omega) (fun k h1 h2 => by
  have a1 : ¬ N = k := by omega
  have a2 : ¬ N + 1 = k := by omega
  have a3 : ¬ N + 2 = k := by omega
  simp only [go_sem, simprocAttr, a1, a2, a3])) (by simp only [go_sem, simprocAttr, z3]) (by simp only [go_sem, simprocAttr]; omega) (by omega)) ?_
 rintro v K ⟨hF1, k, rfl, hkl, hall, hkx⟩
 have hbk := bef_eq hkl hall hkx
 have kN : K.get N = some [.lit (.bool dd), A, B] := by rw [hF1.get (by simp only [go_sem, simprocAttr]; omega)]; simp only [go_sem, simprocAttr, z1, z2]
 have kN1 : K.get (N + 1) = some [.lit (.string q)] := by rw [hF1.get (by simp only [go_sem, simprocAttr]; omega)]; simp only [go_sem, simprocAttr, z3]
 have kN2 : K.get (N + 2) = some [.lit (.bool false), .sl .nil [], .sl .nil []] := by rw [hF1.get (by simp only [go_sem, simprocAttr]; omega)]; simp only [go_sem, simprocAttr]
 have knx : N + 8 ≤ K.next := by have := hF1.nx; simp only [go_sem, simprocAttr] at this; omega
 have kho : ∀ j, j < N → K.ho j = H0.ho j := fun j hj => by
  have a1 : ¬ N = j := by omega
  have a2 : ¬ N + 1 = j := by omega
  have a3 : ¬ N + 2 = j := by omega
  rw [hF1.ho j (by simp only [go_sem, simprocAttr]; omega)]
  simp [Heap.up, Heap.put, Heap.ho_set, a1, a2, a3]
 have hln : lnn Tryz.prog 23 A = some (.lit (.int .i64 (vs.length : Nat))) := by
  rcases hA with ⟨rfl, he⟩ | ⟨r, rfl, _⟩
  ·have hv0 : vs = [] := List.map_eq_nil_iff.1 he
   subst hv0; rfl
  ·rw [lnn_ar (q := (76, 2, 40)) _ _ _ _ el_sBnd, List.length_map]
 have hKA : ArrP K A (vs.map encB) := by
  rcases hA with h | ⟨r, h1, h2, h3, h4, h5⟩
  ·exact .inl h
  ·exact .inr ⟨r, [], h1, by rw [List.append_nil, Heap.get, kho r (by omega)]; exact h3, by omega, Unif.nil 2, rfl⟩
 obtain ⟨m, hm⟩ : ∃ m, K.next = m := ⟨_, rfl⟩
 by_cases hkn : k < vs.length
 ·obtain ⟨r, rfl, hg, hrn⟩ : ∃ r, A = .ar r 0 vs.length 2 ∧ K.get r = some (vs.map encB).flatten ∧ r < N := by
   rcases hA with ⟨_, he⟩ | ⟨r, h1, h2, h3, h4, h5⟩
   ·have hv0 : vs = [] := List.map_eq_nil_iff.1 he
    subst hv0; simp at hkn
   ·exact ⟨r, by rw [h1, List.length_map], by rw [Heap.get, kho r (by omega)]; exact h3, by omega⟩
  have d1 : decide ((k : Int) < (vs.length : Nat)) = true := by simp; omega
  have ha := iad_ar (t := 76) (b := 40) (r := r) (a := 0) (sz := 2) hkn
  rw [Nat.zero_add] at ha
  have hnm : ((vs.map encB).flatten)[k * 2]? = some (.lit (.string vs[k].nm)) := by
   have h1 := flat_at (B_unif vs) (i := k) (x := encB vs[k]) (by simp [hkn])
   have h2 : (((vs.map encB).flatten.drop (k * 2)).take 2)[0]? = (encB vs[k])[0]? := by rw [h1]
   rw [List.getElem?_take, if_pos (by decide), List.getElem?_drop] at h2
   simpa [encB] using h2
  simp only [go_sem, simprocAttr]
  refine W_draw [(7, 12), (11, 12)] (by kernel_rfl) ?_
  by_cases hq : vs[k].nm = q
  ·have dq : decide (vs[k].nm = q) = true := by simpa using hq
   have hw1 := wrap1 (show k + 1 ≤ 9223372036854775807 by unfold LA at hvl; omega)
   simp only [go_sem, simprocAttr, rs, kN, kN1, hln, d1, ha, hg, hnm, dq, hw1, hm, Nat.add_zero]
   refine goC_ex (c_delBnd vs k hkn r _ (by simp only [go_sem, simprocAttr, hg]) (by simp only [go_sem, simprocAttr, hm]; omega)) ?_
   rintro v K1 ⟨rfl, zz, hz1, hz2, hArr⟩
   have y0 : ¬ r = N := by omega
   have y1 : ¬ r = N + 1 := by omega
   have y2 : ¬ r = N + 2 := by omega
   have h1N : K1.get N = some [.lit (.bool dd), .ar r 0 vs.length 2, B] := by rw [hArr.old (by simp only [go_sem, simprocAttr]; omega) (by omega)]; exact kN
   have h1N1 : K1.get (N + 1) = some [.lit (.string q)] := by rw [hArr.old (by simp only [go_sem, simprocAttr]; omega) (by omega)]; exact kN1
   have h1N2 : K1.get (N + 2) = some [.lit (.bool false), .sl .nil [], .sl .nil []] := by rw [hArr.old (by simp only [go_sem, simprocAttr]; omega) (by omega)]; exact kN2
   have hnx1 := hArr.nx
   simp only [go_sem, simprocAttr, rs, h1N, hB]
   obtain ⟨KX, hKX⟩ : ∃ KX, KX = K1.put N [.lit (.bool dd), .ar r 0 (vs.length - 1) 2, B] := ⟨_, rfl⟩
   have z0' : ¬ N = N + 1 := by omega
   have z0'' : ¬ N = N + 2 := by omega
   have xN : KX.get N = some [.lit (.bool dd), .ar r 0 (vs.length - 1) 2, B] := by rw [hKX]; simp only [go_sem, simprocAttr]
   have xN1 : KX.get (N + 1) = some [.lit (.string q)] := by rw [hKX]; simp only [go_sem, simprocAttr, z0', h1N1]
   have xN2 : KX.get (N + 2) = some [.lit (.bool false), .sl .nil [], .sl .nil []] := by rw [hKX]; simp only [go_sem, simprocAttr, z0'', h1N2]
   have xnx : N + 8 ≤ KX.next := by rw [hKX]; simp only [go_sem, simprocAttr] at hnx1 ⊢; omega
   have hlen1 : ((vs.take k ++ vs.drop (k + 1)).map encB).length = vs.length - 1 := by simp; omega
   have hPX : ArrP KX (.ar r 0 (vs.length - 1) 2) ((vs.take k ++ vs.drop (k + 1)).map encB) := .inr ⟨r, zz, by rw [hlen1], by rw [hKX, Heap.get_put, if_neg (fun e => y0 e.symm)]; exact hArr.get, by rw [hKX]; simp only [go_sem, simprocAttr] at hnx1 ⊢; omega, hz1, hz2⟩
   have hnoX : ∀ j, N ≤ j → j < N + 3 → arrNo (.ar r 0 (vs.length - 1) 2) j := fun j h1 h2 => show r ≠ j by omega
   have hhoX : ∀ j, j < N → arrNo (.ar r 0 vs.length 2) j → KX.ho j = H0.ho j := fun j hj hne => by
    have a1 : ¬ N = j := by omega
    have hne' : r ≠ j := hne
    have := hArr.ho j (by simp only [go_sem, simprocAttr]; omega) (fun e => hne' e.symm)
    rw [hKX]
    simp only [Heap.up, Heap.put, Heap.ho_set, a1, if_false] at this ⊢
    rw [this]; exact kho j hj
   have hA1A : ∀ j, arrNo (.ar r 0 vs.length 2) j → arrNo (.ar r 0 (vs.length - 1) 2) j := fun j h => h
   have hkX : k ≤ (vs.take k ++ vs.drop (k + 1)).length := by simp; omega
   have hlX : (vs.take k ++ vs.drop (k + 1)).length + 1 ≤ LA := by simp; omega
   have hsetX : setB q (normA d) vs = (vs.take k ++ vs.drop (k + 1)).take k ++ [⟨q, normA d⟩] ++ (vs.take k ++ vs.drop (k + 1)).drop k := by
    have hl : (vs.take k).length = k := by rw [List.length_take]; omega
    rw [List.take_left' hl, List.drop_left' hl]
    unfold setB
    rw [hbk, List.getElem?_eq_getElem hkn]
    simp only [hq, if_true]
   rw [← hKX]
   clear hKX
   have hbd : aBuildSlice Tryz.prog 23 1 [(0, .agg [.lit (.string q), .sl .sh (encAs (normA d))])] = some (.sl .ex [encB ⟨q, normA d⟩]) := build1 el_sBnd (by decide) zr_bind rfl rfl _ rfl rfl
   have hnd : ∀ H, calls Tryz.prog cfg2 60 [.sl o (encAs d)] H = some (.ret (.sl .sh (encAs (normA d))) H) := fun H => t_norm d hd o H
   have i1 : cfg2.imp 60 = false := rfl
   refine W_draw [(1, 3), (1, 5), (3, 5)] (by kernel_rfl) ?_
   simp only [go_sem, simprocAttr, xN, xN1, hnd, i1, hbd]
   refine dK_ex (c_insBnd (vs.take k ++ vs.drop (k + 1)) ⟨q, normA d⟩ k hkX hlX (.ar r 0 (vs.length - 1) 2) _ (by repeat (first | exact hPX | refine ArrP.up ?_ _))) rfl ?_
   rintro v K2 ⟨hv1, hP2, hnx2, hho2, hno2⟩
   have k2N : K2.get N = some [.lit (.bool dd), (.ar r 0 (vs.length - 1) 2), B] := by rw [Heap.get, hho2 N (by simp only [go_sem, simprocAttr]; omega) (hnoX N (Nat.le_refl _) (by omega))]; exact xN
   have k2N2 : K2.get (N + 2) = some [.lit (.bool false), .sl .nil [], .sl .nil []] := by rw [Heap.get, hho2 (N + 2) (by simp only [go_sem, simprocAttr]; omega) (hnoX (N + 2) (by omega) (by omega))]; exact xN2
   have v0 := hno2 N (by simp only [go_sem, simprocAttr]; omega) (hnoX N (Nat.le_refl _) (by omega))
   have v2 := hno2 (N + 2) (by simp only [go_sem, simprocAttr]; omega) (hnoX (N + 2) (by omega) (by omega))
   have z0 : ¬ N = N + 2 := by omega
   have hvc := cells_of_one hv1
   have hvo : [v].all AV.one = true := by rw [List.all_cons, hv1]; rfl
   simp only [go_sem, simprocAttr, rs, k2N, k2N2, hv1, hB, z0, hvc, hvo]
   refine ⟨_, rfl, v, rfl, hv1, ?_, ?_, fun j hj hne => ?_⟩
   ·rw [hsetX]
    repeat (first | exact hP2 | with_reducible refine ArrP.up ?_ _ | refine ArrP.put ?_ _ v0 | refine ArrP.put ?_ _ v2)
   ·simp only [go_sem, simprocAttr] at hnx2 ⊢; omega
   ·refine ⟨?_, hno2 j (by simp only [go_sem, simprocAttr]; omega) (hA1A j hne)⟩
    have a1 : ¬ N = j := by omega
    have a2 : ¬ N + 2 = j := by omega
    have := hho2 j (by simp only [go_sem, simprocAttr]; omega) (hA1A j hne)
    simp only [Heap.up, Heap.put, Heap.ho_set, a1, a2, if_false] at this ⊢
    rw [this]; exact hhoX j hj hne
  ·have dq : decide (vs[k].nm = q) = false := by simpa using hq
   simp only [go_sem, simprocAttr, rs, kN, kN1, hln, d1, ha, hg, hnm, dq, hm, Nat.add_zero]
   have xN := kN
   have xN1 := kN1
   have xN2 := kN2
   have hPX := hKA
   have hnoX : ∀ j, N ≤ j → j < N + 3 → arrNo (.ar r 0 vs.length 2) j := fun j h1 h2 => show r ≠ j by omega
   have hhoX : ∀ j, j < N → arrNo (.ar r 0 vs.length 2) j → K.ho j = H0.ho j := fun j hj _ => kho j hj
   have hA1A : ∀ j, arrNo (.ar r 0 vs.length 2) j → arrNo (.ar r 0 vs.length 2) j := fun j h => h
   have hkX : k ≤ vs.length := hkl
   have hlX := hvl
   have hsetX : setB q (normA d) vs = vs.take k ++ [⟨q, normA d⟩] ++ vs.drop k := by
    unfold setB
    rw [hbk, List.getElem?_eq_getElem hkn]
    simp only [hq, if_false]
   have hbd : aBuildSlice Tryz.prog 23 1 [(0, .agg [.lit (.string q), .sl .sh (encAs (normA d))])] = some (.sl .ex [encB ⟨q, normA d⟩]) := build1 el_sBnd (by decide) zr_bind rfl rfl _ rfl rfl
   have hnd : ∀ H, calls Tryz.prog cfg2 60 [.sl o (encAs d)] H = some (.ret (.sl .sh (encAs (normA d))) H) := fun H => t_norm d hd o H
   have i1 : cfg2.imp 60 = false := rfl
   refine W_draw [(1, 3), (1, 5), (3, 5)] (by kernel_rfl) ?_
   simp only [go_sem, simprocAttr, xN, xN1, hnd, i1, hbd]
   refine dK_ex (c_insBnd (vs) ⟨q, normA d⟩ k hkX hlX (.ar r 0 vs.length 2) _ (by repeat (first | exact hPX | refine ArrP.up ?_ _))) rfl ?_
   rintro v K2 ⟨hv1, hP2, hnx2, hho2, hno2⟩
   have k2N : K2.get N = some [.lit (.bool dd), (.ar r 0 vs.length 2), B] := by rw [Heap.get, hho2 N (by simp only [go_sem, simprocAttr]; omega) (hnoX N (Nat.le_refl _) (by omega))]; exact xN
   have k2N2 : K2.get (N + 2) = some [.lit (.bool false), .sl .nil [], .sl .nil []] := by rw [Heap.get, hho2 (N + 2) (by simp only [go_sem, simprocAttr]; omega) (hnoX (N + 2) (by omega) (by omega))]; exact xN2
   have v0 := hno2 N (by simp only [go_sem, simprocAttr]; omega) (hnoX N (Nat.le_refl _) (by omega))
   have v2 := hno2 (N + 2) (by simp only [go_sem, simprocAttr]; omega) (hnoX (N + 2) (by omega) (by omega))
   have z0 : ¬ N = N + 2 := by omega
   have hvc := cells_of_one hv1
   have hvo : [v].all AV.one = true := by rw [List.all_cons, hv1]; rfl
   simp only [go_sem, simprocAttr, rs, k2N, k2N2, hv1, hB, z0, hvc, hvo]
   refine ⟨_, rfl, v, rfl, hv1, ?_, ?_, fun j hj hne => ?_⟩
   ·rw [hsetX]
    repeat (first | exact hP2 | with_reducible refine ArrP.up ?_ _ | refine ArrP.put ?_ _ v0 | refine ArrP.put ?_ _ v2)
   ·simp only [go_sem, simprocAttr] at hnx2 ⊢; omega
   ·refine ⟨?_, hno2 j (by simp only [go_sem, simprocAttr]; omega) (hA1A j hne)⟩
    have a1 : ¬ N = j := by omega
    have a2 : ¬ N + 2 = j := by omega
    have := hho2 j (by simp only [go_sem, simprocAttr]; omega) (hA1A j hne)
    simp only [Heap.up, Heap.put, Heap.ho_set, a1, a2, if_false] at this ⊢
    rw [this]; exact hhoX j hj hne
 ·have d1 : decide ((k : Int) < (vs.length : Nat)) = false := by simp; omega
  simp only [go_sem, simprocAttr]
  refine W_draw [(7, 12), (11, 12)] (by kernel_rfl) ?_
  simp only [go_sem, simprocAttr, rs, kN, kN1, hln, d1, hm]
  have xN := kN
  have xN1 := kN1
  have xN2 := kN2
  have hPX := hKA
  have hnoX : ∀ j, N ≤ j → j < N + 3 → arrNo A j := fun j h1 h2 => hA.no' (by omega)
  have hhoX : ∀ j, j < N → arrNo A j → K.ho j = H0.ho j := fun j hj _ => kho j hj
  have hA1A : ∀ j, arrNo A j → arrNo A j := fun j h => h
  have hkX : k ≤ vs.length := hkl
  have hlX := hvl
  have hsetX : setB q (normA d) vs = vs.take k ++ [⟨q, normA d⟩] ++ vs.drop k := by
   unfold setB
   have e0 : vs.drop k = [] := List.drop_of_length_le (by omega)
   rw [hbk, List.getElem?_eq_none (by omega)]
   simp only [e0]
  have hbd : aBuildSlice Tryz.prog 23 1 [(0, .agg [.lit (.string q), .sl .sh (encAs (normA d))])] = some (.sl .ex [encB ⟨q, normA d⟩]) := build1 el_sBnd (by decide) zr_bind rfl rfl _ rfl rfl
  have hnd : ∀ H, calls Tryz.prog cfg2 60 [.sl o (encAs d)] H = some (.ret (.sl .sh (encAs (normA d))) H) := fun H => t_norm d hd o H
  have i1 : cfg2.imp 60 = false := rfl
  refine W_draw [(1, 3), (1, 5), (3, 5)] (by kernel_rfl) ?_
  simp only [go_sem, simprocAttr, xN, xN1, hnd, i1, hbd]
  refine dK_ex (c_insBnd (vs) ⟨q, normA d⟩ k hkX hlX A _ (by repeat (first | exact hPX | refine ArrP.up ?_ _))) rfl ?_
  rintro v K2 ⟨hv1, hP2, hnx2, hho2, hno2⟩
  have k2N : K2.get N = some [.lit (.bool dd), A, B] := by rw [Heap.get, hho2 N (by simp only [go_sem, simprocAttr]; omega) (hnoX N (Nat.le_refl _) (by omega))]; exact xN
  have k2N2 : K2.get (N + 2) = some [.lit (.bool false), .sl .nil [], .sl .nil []] := by rw [Heap.get, hho2 (N + 2) (by simp only [go_sem, simprocAttr]; omega) (hnoX (N + 2) (by omega) (by omega))]; exact xN2
  have v0 := hno2 N (by simp only [go_sem, simprocAttr]; omega) (hnoX N (Nat.le_refl _) (by omega))
  have v2 := hno2 (N + 2) (by simp only [go_sem, simprocAttr]; omega) (hnoX (N + 2) (by omega) (by omega))
  have z0 : ¬ N = N + 2 := by omega
  have hvc := cells_of_one hv1
  have hvo : [v].all AV.one = true := by rw [List.all_cons, hv1]; rfl
  simp only [go_sem, simprocAttr, rs, k2N, k2N2, hv1, hB, z0, hvc, hvo]
  refine ⟨_, rfl, v, rfl, hv1, ?_, ?_, fun j hj hne => ?_⟩
  ·rw [hsetX]
   repeat (first | exact hP2 | with_reducible refine ArrP.up ?_ _ | refine ArrP.put ?_ _ v0 | refine ArrP.put ?_ _ v2)
  ·simp only [go_sem, simprocAttr] at hnx2 ⊢; omega
  ·refine ⟨?_, hno2 j (by simp only [go_sem, simprocAttr]; omega) (hA1A j hne)⟩
   have a1 : ¬ N = j := by omega
   have a2 : ¬ N + 2 = j := by omega
   have := hho2 j (by simp only [go_sem, simprocAttr]; omega) (hA1A j hne)
   simp only [Heap.up, Heap.put, Heap.ho_set, a1, a2, if_false] at this ⊢
   rw [this]; exact hhoX j hj hne
end Go.Proofs.YtnoahchdmkpleaaGreat.VA
