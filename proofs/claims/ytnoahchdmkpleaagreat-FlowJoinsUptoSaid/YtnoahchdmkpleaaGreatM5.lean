/- What is proved: lists of atoms: in order, without a second of a kind, as they may be; the two ways to bring them there are one. No condition.
What is proved: the document's functions on lists of atoms, and atoms.May, in the abstract interpreter (VA). Condition: no longer a list than a machine holds.
What is proved: appending to what one owns, to nil, to a literal without elements, in the abstract interpreter (VA). No condition.
What is proved: the document's Norm and May of lists of atoms, in the abstract interpreter (VA). Condition: no longer a list than a machine holds.
What is proved: May of objects, the program's and the document's, in the abstract interpreter (VA). Condition: no longer lists than a machine holds.
What is proved: May of states, the program's and the document's, in the abstract interpreter (VA). Condition: no longer lists than a machine holds.
What is proved: arrays that grow at their end, in the abstract interpreter (VA). No condition.
What is proved: object.Copy, in the abstract interpreter (VA). Condition: no longer lists than a machine holds.
What is proved: state.Copy, in the abstract interpreter (VA), for every table in which slices.Clone and object.Copy are told. Condition: no longer lists than a machine holds.
What is proved: state.Copy, as it is handed out; state.Var, in the abstract interpreter (VA). Condition: no longer lists than a machine holds.
What is proved: May of states, the document's, in the abstract interpreter (VA). Condition: no longer lists than a machine holds.
What is proved: a variable's values, the program's way and the document's, in the abstract interpreter (VA). Condition: no longer lists than a machine holds.
What is proved: strings.Compare answers as the abstract interpreter (VA) is told; the order of names. No condition.
What is proved: plain law: what is put at its place into a list that rises. No condition.
What is proved: plain law: two lists of fields joined, as the program joins them and as the reference does. No condition.
What is proved: slices.Grow of the nil slice, at []api.Bind and []api.Atom, walked at this program; what it does in the abstract interpreter (VA). Condition: not more than 10^12 elements.
What is proved: the document's Var and Small of states, in the abstract interpreter (VA). Condition: no longer lists than a machine holds, where one is gone through. -/
import Derived.Test.YtnoahchdmkpleaaGreatM4
import Derived.Lib.Bytealg
import Derived.Test.YtnoahchdmkpleaaGreatProg
import Derived.Lib.AppendZerosOnto
import Derived.Lib.SliceRun
import Derived.Lib.Walk
import Derived.WalkKit
/-! Pl1 -/
namespace Go.Proofs.YtnoahchdmkpleaaGreat.VA
open Go Go.RowKit Go.Sort

def ltA (x y : Int × Int) : Bool := decide (x.1 < y.1 ∨ (x.1 = y.1 ∧ x.2 < y.2))
theorem ltA_iff {x y : Int × Int} : ltA x y = true ↔ (x.1 < y.1 ∨ (x.1 = y.1 ∧ x.2 < y.2)) := by simp [ltA]
theorem ltA_trans {x y z : Int × Int} (h : ltA x y = true) (k : ltA y z = true) : ltA x z = true := by rw [ltA_iff] at *; omega
theorem ltA_irr (x : Int × Int) : ltA x x = false := by simp [ltA]
theorem ltA_tri {x y : Int × Int} (h : ltA x y = false) (k : ltA y x = false) : x = y := by
 have h' : ¬ (x.1 < y.1 ∨ (x.1 = y.1 ∧ x.2 < y.2)) := by rw [← ltA_iff, h]; simp
 have k' : ¬ (y.1 < x.1 ∨ (y.1 = x.1 ∧ y.2 < x.2)) := by rw [← ltA_iff, k]; simp
 exact Prod.ext (by omega) (by omega)
def StrictA (l : List (Int × Int)) : Prop := l.Pairwise fun x y => ltA x y = true
theorem strict_ext : ∀ {a b : List (Int × Int)}, StrictA a → StrictA b → (∀ x, x ∈ a ↔ x ∈ b) → a = b
 | [], [], _, _, _ => rfl
 | [], y :: b, _, _, h => by have := (h y).2 (List.mem_cons_self ..); cases this
 | x :: a, [], _, _, h => by have := (h x).1 (List.mem_cons_self ..); cases this
 | x :: a, y :: b, ha, hb, h => by
  have ha' := List.pairwise_cons.1 ha
  have hb' := List.pairwise_cons.1 hb
  have hxy : x = y := by
   rcases List.mem_cons.1 ((h x).1 (List.mem_cons_self ..)) with e | e
   ·exact e
   ·rcases List.mem_cons.1 ((h y).2 (List.mem_cons_self ..)) with k | k
    ·exact k.symm
    ·have h1 := hb'.1 x e
     have h2 := ha'.1 y k
     have := ltA_trans h1 h2
     rw [ltA_irr] at this; cases this
  subst hxy
  congr 1
  refine strict_ext ha'.2 hb'.2 fun z => ⟨fun hz => ?_, fun hz => ?_⟩
  ·rcases List.mem_cons.1 ((h z).1 (List.mem_cons_of_mem _ hz)) with e | e
   ·subst e; have := ha'.1 _ hz; rw [ltA_irr] at this; cases this
   ·exact e
  ·rcases List.mem_cons.1 ((h z).2 (List.mem_cons_of_mem _ hz)) with e | e
   ·subst e; have := hb'.1 _ hz; rw [ltA_irr] at this; cases this
   ·exact e
theorem leA_eq (x y : Int × Int) : leA x y = !(ltA y x) := by unfold leA ltA; rw [cmpA_lt]
theorem leA_trans (x y z : Int × Int) (h : leA x y = true) (k : leA y z = true) : leA x z = true := by
 rw [leA_eq] at *
 simp only [ltA, Bool.not_eq_true', decide_eq_false_iff_not] at *
 omega
theorem leA_total (x y : Int × Int) : (leA x y || leA y x) = true := by
 rw [leA_eq, leA_eq]
 cases h : ltA y x with
 | false => rfl
 | true =>
  cases k : ltA x y with
  | false => rfl
  | true => have := ltA_trans h k; rw [ltA_irr] at this; cases this
theorem srt_sorted (d : List (Int × Int)) : (srt d).Pairwise fun x y => leA x y = true := List.pairwise_mergeSort leA_trans leA_total d
theorem mem_srt (d : List (Int × Int)) (x : Int × Int) : x ∈ srt d ↔ x ∈ d := (List.mergeSort_perm d leA).mem_iff
theorem mem_ded : ∀ (l : List (Int × Int)) (x : Int × Int), x ∈ ded l ↔ x ∈ l
 | [], x => Iff.rfl
 | [y], x => Iff.rfl
 | y :: z :: l, x => by
  have ih := mem_ded (z :: l) x
  show x ∈ (if y = z then ded (z :: l) else y :: ded (z :: l)) ↔ _
  by_cases h : y = z
  ·subst h
   rw [if_pos rfl, ih]
   simp
  ·rw [if_neg h, List.mem_cons, ih]
   simp
theorem ded_strict : ∀ {l : List (Int × Int)}, (l.Pairwise fun x y => leA x y = true) → StrictA (ded l)
 | [], _ => List.Pairwise.nil
 | [y], _ => List.pairwise_singleton ..
 | y :: z :: l, h => by
  have h' := List.pairwise_cons.1 h
  have ih := ded_strict h'.2
  show StrictA (if y = z then ded (z :: l) else y :: ded (z :: l))
  by_cases e : y = z
  ·rw [if_pos e]; exact ih
  ·rw [if_neg e]
   refine List.pairwise_cons.2 ⟨fun x hx => ?_, ih⟩
   have hx' := (mem_ded (z :: l) x).1 hx
   have hyz : ltA y z = true := by
    have h1 := h'.1 z (List.mem_cons_self ..)
    rw [leA_eq] at h1
    cases k : ltA y z with
    | true => rfl
    | false => exact absurd (ltA_tri k (by simpa using h1)) e
   rcases List.mem_cons.1 hx' with e2 | e2
   ·rw [e2]; exact hyz
   ·have h2 := (List.pairwise_cons.1 h'.2).1 x e2
    rw [leA_eq] at h2
    cases k : ltA z x with
    | true => exact ltA_trans hyz k
    | false =>
     have : z = x := ltA_tri k (by simpa using h2)
     rw [← this]; exact hyz
theorem normA_strict (d : List (Int × Int)) : StrictA (normA d) := ded_strict (srt_sorted _)
theorem mem_normA (d : List (Int × Int)) (x : Int × Int) : x ∈ normA d ↔ x ∈ d ∧ rightA x = true := by
 unfold normA; rw [mem_ded, mem_srt, List.mem_filter]
theorem normA_idem (d : List (Int × Int)) : normA (normA d) = normA d := by
 refine strict_ext (normA_strict _) (normA_strict _) fun x => ?_
 rw [mem_normA, mem_normA]
 exact ⟨fun h => h.1, fun h => ⟨h, h.2⟩⟩
theorem normA_of {d : List (Int × Int)} (h1 : StrictA d) (h2 : ∀ x, x ∈ d → rightA x = true) : normA d = d :=
 strict_ext (normA_strict _) h1 fun x => by rw [mem_normA]; exact ⟨fun h => h.1, fun h => ⟨h, h2 x h⟩⟩
theorem normA_one {x : Int × Int} (h : rightA x = true) : normA [x] = [x] := normA_of (List.pairwise_singleton ..) (fun y hy => by simp at hy; subst hy; exact h)
theorem normA_nil : normA [] = [] := normA_of List.Pairwise.nil (fun y hy => by cases hy)
/-- May a list be? -/
def mayA (d : List (Int × Int)) : Bool := decide (d = normA d)
theorem mayA_norm (d : List (Int × Int)) : mayA (normA d) = true := by simp [mayA, normA_idem]
theorem mayA_eq {d : List (Int × Int)} (h : mayA d = true) : normA d = d := by simp only [mayA, decide_eq_true_eq] at h; exact h.symm

/-! ### the document's way: one after the other, each to its place -/
/-- An atom, laid at its place. -/
def layA (x : Int × Int) : List (Int × Int) → List (Int × Int)
 | [] => [x]
 | y :: l => if ltA x y = true then x :: y :: l else y :: layA x l
def addR (l : List (Int × Int)) (x : Int × Int) : List (Int × Int) := if rightA x = false ∨ x ∈ l then l else layA x l
theorem mem_layA (x : Int × Int) : ∀ (l : List (Int × Int)) (y : Int × Int), y ∈ layA x l ↔ y = x ∨ y ∈ l
 | [], y => by simp [layA]
 | z :: l, y => by
  unfold layA
  split
  ·simp
  ·rw [List.mem_cons, mem_layA x l y, List.mem_cons]
   constructor
   ·rintro (h | h | h)
    ·exact .inr (.inl h)
    ·exact .inl h
    ·exact .inr (.inr h)
   ·rintro (h | h | h)
    ·exact .inr (.inl h)
    ·exact .inl h
    ·exact .inr (.inr h)
theorem layA_strict {x : Int × Int} : ∀ {l : List (Int × Int)}, StrictA l → x ∉ l → StrictA (layA x l)
 | [], _, _ => List.pairwise_singleton ..
 | y :: l, h, hx => by
  have h' := List.pairwise_cons.1 h
  unfold layA
  split
  ·rename_i hlt
   refine List.pairwise_cons.2 ⟨fun z hz => ?_, h⟩
   rcases List.mem_cons.1 hz with e | e
   ·rw [e]; exact hlt
   ·exact ltA_trans hlt (h'.1 z e)
  ·rename_i hlt
   have hyx : ltA y x = true := by
    cases k : ltA y x with
    | true => rfl
    | false => exact absurd (ltA_tri (by simpa using hlt) k) (fun e => hx (by rw [e]; exact List.mem_cons_self ..))
   refine List.pairwise_cons.2 ⟨fun z hz => ?_, layA_strict h'.2 (fun e => hx (List.mem_cons_of_mem _ e))⟩
   rcases (mem_layA x l z).1 hz with e | e
   ·rw [e]; exact hyx
   ·exact h'.1 z e
theorem addR_strict {l : List (Int × Int)} (h : StrictA l) (x : Int × Int) : StrictA (addR l x) := by
 unfold addR
 split
 ·exact h
 ·rename_i hn; exact layA_strict h (fun e => hn (.inr e))
theorem mem_addR (l : List (Int × Int)) (x y : Int × Int) : y ∈ addR l x ↔ y ∈ l ∨ (y = x ∧ rightA x = true) := by
 unfold addR
 split
 ·rename_i h
  refine ⟨.inl, ?_⟩
  rintro (k | ⟨rfl, k⟩)
  ·exact k
  ·rcases h with h | h
   ·rw [h] at k; cases k
   ·exact h
 ·rename_i h
  rw [mem_layA]
  have hr : rightA x = true := by
   cases k : rightA x with
   | true => rfl
   | false => exact absurd (.inl k) h
  constructor
  ·rintro (k | k)
   ·exact .inr ⟨k, hr⟩
   ·exact .inl k
  ·rintro (k | ⟨k, _⟩)
   ·exact .inr k
   ·exact .inl k
def normR (d : List (Int × Int)) : List (Int × Int) := d.foldl addR []
theorem foldl_addR : ∀ (d l : List (Int × Int)), StrictA l → StrictA (d.foldl addR l) ∧ ∀ x, x ∈ d.foldl addR l ↔ x ∈ l ∨ (x ∈ d ∧ rightA x = true)
 | [], l, h => ⟨h, fun x => by simp⟩
 | y :: d, l, h => by
  obtain ⟨h1, h2⟩ := foldl_addR d (addR l y) (addR_strict h y)
  refine ⟨h1, fun x => ?_⟩
  rw [List.foldl_cons, h2, mem_addR, List.mem_cons]
  constructor
  ·rintro ((h | ⟨rfl, h⟩) | h)
   ·exact .inl h
   ·exact .inr ⟨.inl rfl, h⟩
   ·exact .inr ⟨.inr h.1, h.2⟩
  ·rintro (h | ⟨rfl | h, k⟩)
   ·exact .inl (.inl h)
   ·exact .inl (.inr ⟨rfl, k⟩)
   ·exact .inr ⟨h, k⟩
theorem normR_eq (d : List (Int × Int)) : normR d = normA d := by
 obtain ⟨h1, h2⟩ := foldl_addR d [] List.Pairwise.nil
 refine strict_ext h1 (normA_strict d) fun x => ?_
 unfold normR
 rw [h2, mem_normA]
 simp
end Go.Proofs.YtnoahchdmkpleaaGreat.VA

/-! Ra1 -/
namespace Go.Proofs.YtnoahchdmkpleaaGreat.VA
open Go Go.RowKit
attribute [local go_sem] Nat.add_eq_left Nat.left_eq_add true_and and_true ite_true if_false Int.cast_ofNat_Int eq_self Nat.add_assoc Option.some.injEq decide_true decide_false Bool.not_true Bool.not_false List.size_toArray List.length_cons List.length_nil
set_option linter.unusedSimpArgs false
set_option maxRecDepth 100000

/-- The table for what is pure, and keeps no arrays. -/
noncomputable def cfgR : Cfg := mkC Tryz.prog [112, 69, 70, 71, 45, 18, 66, 111,
 156, 40, 67, 37, 39, 38, 11, 10, 19, 17,
 51, 33, 20, 31, 50, 62, 35, 29, 107, 153,
 152, 106, 163, 110, 155, 154, 65] [] []
 [(60, toldBy Tryz.prog cfg1 60), (72, toldBy Tryz.prog cfg0 72), (74, tClone)] []
theorem cfgR_ok : CfgOk Tryz.prog Cond.none cfgR := mkC_ok (by kernel_rfl) (by kernel_rfl) (by
 intro p hp
 simp only [List.mem_cons, List.not_mem_nil, or_false] at hp
 rcases hp with rfl | rfl | rfl
 ·exact toldBy_ok cfg1_ok (fn := Tryz.f60) (by kernel_rfl) (by kernel_rfl) rfl
 ·exact toldBy_ok cfg0_ok (fn := Tryz.f72) (by kernel_rfl) (by kernel_rfl) rfl
 ·exact tClone_ok _) (by simp)
@[go_sem] theorem encAs_len (d : List (Int × Int)) : (encAs d).length = d.length := by simp [encAs]
theorem dec_cons {α : Type} [DecidableEq α] {x y : α} {l m : List α} (h : x = y) : decide (x :: l = y :: m) = decide (l = m) := by subst h; simp
theorem dec_cons_ne {α : Type} [DecidableEq α] {x y : α} {l m : List α} (h : ¬ x = y) : decide (x :: l = y :: m) = false := by simp [h]
theorem dec_mem {α : Type} {x y : α} {l : List α} [Decidable (x ∈ y :: l)] (h : y = x) : decide (x ∈ y :: l) = true := decide_eq_true (by subst h; simp)
theorem dec_mem_ne {α : Type} {x y : α} {l : List α} [Decidable (x ∈ y :: l)] [Decidable (x ∈ l)] (h : ¬ y = x) : decide (x ∈ l) = decide (x ∈ y :: l) := by
 have h' : ¬ x = y := fun e => h e.symm
 exact decide_eq_decide.2 (by simp [h'])
theorem dec_len {a b : Nat} (h : a = b) : decide ((a : Int) = (b : Int)) = true := by subst h; simp
theorem dec_len_ne {a b : Nat} (h : ¬ a = b) : decide ((a : Int) = (b : Int)) = false := by simp; omega
@[go_sem] theorem cfgR_imp (f : FuncId) : cfgR.imp f = false := rfl
theorem rc_norm (d : List (Int × Int)) (hl : d.length ≤ LA) (o : Own) (H : Heap) : calls Tryz.prog cfgR 60 [.sl o (encAs d)] H = some (.ret (.sl .sh (encAs (normA d))) H) :=
 calls_by rfl (fun H => by simp only [sanL, san, sanLL_encAs]; exact c_norm d hl .sh H) (by simp only [san, sanLL_encAs]) H
theorem rc_compare (x y : Int × Int) (H : Heap) : calls Tryz.prog cfgR 72 [.agg (avA x), .agg (avA y)] H = some (.ret (.lit (.int .i64 (cmpA x y))) H) :=
 calls_by rfl (fun H => c_compare x y H) rfl H
theorem rc_clone (d : List (Int × Int)) (hl : d.length ≤ LA) (o : Own) (H : Heap) : calls Tryz.prog cfgR 74 [.sl o (encAs d)] H = some (.ret (.sl .sh (encAs d)) H) := by
 refine calls_told (h := tClone) rfl ?_ H
 show tClone [.sl .sh (sanLL (encAs d))] = _
 rw [sanLL_encAs]
 unfold tClone
 simp only
 rw [if_pos ⟨List.all_eq_true.2 fun e he => by simpa using encAs_unif d e he, by rw [encAs_len]; exact hl⟩]
theorem iad_atm {t : TypeId} {b : Nat} {o : Own} {d : List (Int × Int)} {i : Nat} (h : i < d.length) : iad (some (t, 2, b)) (.sl o (encAs d)) (some i) = some (.ep (avA d[i])) := iad_some (encAs_get h) rfl
theorem drop_at {α : Type} {l : List α} {i : Nat} (h : i < l.length) : l.drop i = l[i] :: l.drop (i + 1) := List.drop_eq_getElem_cons h
theorem c_equal (a b : List (Int × Int)) (ha : a.length ≤ LA) (o o' : Own) (H : Heap) : calls Tryz.prog cfgR 112 [.sl o (encAs a), .sl o' (encAs b)] H = some (.ret (.lit (.bool (decide (a = b)))) H) := by
 refine calls_pure (fn := Tryz.f112) rfl rfl rfl rfl rfl ?_ H
 have rs : Tryz.f112.results.toList = [.tmp 4] := rfl
 by_cases hlen : a.length = b.length
 ·have e1 : decide ((a.length : Int) = (b.length : Int)) = true := dec_len hlen
  generalize hr : decide (a = b) = r
  simp only [go_sem, simprocAttr, rs, e1]
  refine W_loop_ind (fun k e H => ∃ i : Nat, k = a.length - i ∧ i ≤ a.length ∧ decide (a.drop i = b.drop i) = r ∧ gget .bad e 0 = .sl .sh (encAs a) ∧ gget .bad e 1 = .sl .sh (encAs b) ∧ gget .bad e 12 = .lit (.int .i64 (a.length : Nat)) ∧ gget .bad e 13 = .lit (.int .i64 (i : Nat)))
   a.length ⟨0, rfl, by omega, hr, by simp only [go_sem, simprocAttr], by simp only [go_sem, simprocAttr], by simp only [go_sem, simprocAttr], by simp only [go_sem, simprocAttr]⟩ ?_
  rintro k ih e H ⟨i, rfl, hle, hR, g0, g1, g12, g13⟩
  by_cases hlt : i < a.length
  ·have d1 : decide ((i : Int) < (a.length : Nat)) = true := by simp; omega
   have hw := wrap1 (show i + 1 ≤ 9223372036854775807 by unfold LA at ha; omega)
   have hA := iad_atm (t := 81) (b := 16) (o := .sh) hlt
   have hB := iad_atm (t := 81) (b := 16) (o := .sh) (d := b) (i := i) (by omega)
   rw [drop_at hlt, drop_at (show i < b.length by omega)] at hR
   simp only [go_sem, simprocAttr, g0, g1, g12, g13, d1]
   refine W_draw [(3, 7)] (by kernel_rfl) ?_
   by_cases hx : a[i] = b[i]
   ·have dx : decide (a[i] = b[i]) = true := by simpa using hx
    have hR' : decide (a.drop (i + 1) = b.drop (i + 1)) = r := by rw [← hR, dec_cons hx]
    simp only [go_sem, simprocAttr, g0, g1, g12, g13, hA, hB, dx, hw]
    exact ih (a.length - (i + 1)) (by omega) _ _ ⟨i + 1, rfl, by omega, hR', by simp only [go_sem, simprocAttr, g0], by simp only [go_sem, simprocAttr, g1], by simp only [go_sem, simprocAttr, g12], by simp only [go_sem, simprocAttr]⟩
   ·have dx : decide (a[i] = b[i]) = false := by simpa using hx
    have hR' : r = false := by rw [← hR, dec_cons_ne hx]
    subst hR'
    simp only [go_sem, simprocAttr, g0, g1, g12, g13, hA, hB, dx, hw, rs]
  ·have d1 : decide ((i : Int) < (a.length : Nat)) = false := by simp; omega
   rw [List.drop_of_length_le (by omega), List.drop_of_length_le (by omega)] at hR
   have hR' : r = true := by rw [← hR]; rfl
   subst hR'
   simp only [go_sem, simprocAttr, g0, g1, g12, g13, d1, rs]
 ·have e1 : decide ((a.length : Int) = (b.length : Int)) = false := dec_len_ne hlen
  have hr : decide (a = b) = false := by simp; exact fun h => hlen (by rw [h])
  rw [hr]
  simp only [go_sem, simprocAttr, rs, e1]
theorem c_same (a b : List (Int × Int)) (ha : a.length ≤ LA) (o o' : Own) (H : Heap) : calls Tryz.prog cfgR 18 [.sl o (encAs a), .sl o' (encAs b)] H = some (.ret (.lit (.bool (decide (a = b)))) H) := by
 refine calls_pure (fn := Tryz.f18) rfl rfl rfl rfl rfl ?_ H
 have rs : Tryz.f18.results.toList = [.tmp 4] := rfl
 by_cases hlen : a.length = b.length
 ·have e1 : decide ((a.length : Int) = (b.length : Int)) = true := dec_len hlen
  generalize hr : decide (a = b) = r
  simp only [go_sem, simprocAttr, rs, e1]
  refine W_loop_ind (fun k e H => ∃ i : Nat, k = a.length - i ∧ i ≤ a.length ∧ decide (a.drop i = b.drop i) = r ∧ gget .bad e 0 = .sl .sh (encAs a) ∧ gget .bad e 1 = .sl .sh (encAs b) ∧ gget .bad e 5 = .lit (.int .i64 (i : Nat)))
   a.length ⟨0, rfl, by omega, hr, by simp only [go_sem, simprocAttr], by simp only [go_sem, simprocAttr], by simp only [go_sem, simprocAttr]⟩ ?_
  rintro k ih e H ⟨i, rfl, hle, hR, g0, g1, g5⟩
  by_cases hlt : i < a.length
  ·have d1 : decide ((i : Int) < (a.length : Nat)) = true := by simp; omega
   have hw := wrap1 (show i + 1 ≤ 9223372036854775807 by unfold LA at ha; omega)
   have hA := iad_atm (t := 81) (b := 16) (o := .sh) hlt
   have hB := iad_atm (t := 81) (b := 16) (o := .sh) (d := b) (i := i) (by omega)
   rw [drop_at hlt, drop_at (show i < b.length by omega)] at hR
   simp only [go_sem, simprocAttr, g0, g1, g5, d1]
   refine W_draw [(3, 7)] (by kernel_rfl) ?_
   by_cases hx : a[i] = b[i]
   ·have dx : decide (a[i] = b[i]) = true := by simpa using hx
    have hR' : decide (a.drop (i + 1) = b.drop (i + 1)) = r := by rw [← hR, dec_cons hx]
    simp only [go_sem, simprocAttr, g0, g1, g5, hA, hB, dx, hw]
    exact ih (a.length - (i + 1)) (by omega) _ _ ⟨i + 1, rfl, by omega, hR', by simp only [go_sem, simprocAttr, g0], by simp only [go_sem, simprocAttr, g1], by simp only [go_sem, simprocAttr]⟩
   ·have dx : decide (a[i] = b[i]) = false := by simpa using hx
    have hR' : r = false := by rw [← hR, dec_cons_ne hx]
    subst hR'
    simp only [go_sem, simprocAttr, g0, g1, g5, hA, hB, dx, hw, rs]
  ·have d1 : decide ((i : Int) < (a.length : Nat)) = false := by simp; omega
   rw [List.drop_of_length_le (by omega), List.drop_of_length_le (by omega)] at hR
   have hR' : r = true := by rw [← hR]; rfl
   subst hR'
   simp only [go_sem, simprocAttr, g0, g1, g5, d1, rs]
 ·have e1 : decide ((a.length : Int) = (b.length : Int)) = false := dec_len_ne hlen
  have hr : decide (a = b) = false := by simp; exact fun h => hlen (by rw [h])
  rw [hr]
  simp only [go_sem, simprocAttr, rs, e1]
theorem c_may (d : List (Int × Int)) (hl : d.length ≤ LA) (o : Own) (H : Heap) : calls Tryz.prog cfgR 69 [.sl o (encAs d)] H = some (.ret (.lit (.bool (mayA d))) H) := by
 refine calls_pure (fn := Tryz.f69) rfl rfl rfl rfl rfl ?_ H
 have rs : Tryz.f69.results.toList = [.tmp 2] := rfl
 have hn : ∀ H, calls Tryz.prog cfgR 60 [.sl .sh (encAs d)] H = some (.ret (.sl .sh (encAs (normA d))) H) := rc_norm d hl .sh
 have he : ∀ H, calls Tryz.prog cfgR 112 [.sl .sh (encAs d), .sl .sh (encAs (normA d))] H = some (.ret (.lit (.bool (mayA d))) H) := c_equal d (normA d) hl .sh .sh
 simp only [go_sem, simprocAttr, rs, hn, he]
theorem c_has (d : List (Int × Int)) (x : Int × Int) (hl : d.length ≤ LA) (o : Own) (H : Heap) : calls Tryz.prog cfgR 67 [.sl o (encAs d), .agg (avA x)] H = some (.ret (.lit (.bool (decide (x ∈ d)))) H) := by
 refine calls_pure (fn := Tryz.f67) rfl rfl rfl rfl rfl ?_ H
 have rs : Tryz.f67.results.toList = [.tmp 4] := rfl
 generalize hr : decide (x ∈ d) = r
 have hsx : sanL (avA x) = avA x := rfl
 simp only [go_sem, simprocAttr, rs, hsx]
 refine W_loop_ind (fun k e H => ∃ i : Nat, k = d.length - i ∧ i ≤ d.length ∧ decide (x ∈ d.drop i) = r ∧ gget .bad e 0 = .sl .sh (encAs d) ∧ gget .bad e 3 = .ptr 0 0 ∧ gget .bad e 5 = .lit (.int .i64 (i : Nat)) ∧ H.get 0 = some (avA x))
  d.length ⟨0, rfl, by omega, by rw [List.drop_zero]; exact hr, by simp only [go_sem, simprocAttr], by simp only [go_sem, simprocAttr], by simp only [go_sem, simprocAttr], by simp only [go_sem, simprocAttr]⟩ ?_
 rintro k ih e H ⟨i, rfl, hle, hR, g0, g3, g5, hg⟩
 by_cases hlt : i < d.length
 ·have d1 : decide ((i : Int) < (d.length : Nat)) = true := by simp; omega
  have hw := wrap1 (show i + 1 ≤ 9223372036854775807 by unfold LA at hl; omega)
  have hA := iad_atm (t := 81) (b := 16) (o := .sh) hlt
  rw [drop_at hlt] at hR
  simp only [go_sem, simprocAttr, g0, g3, g5, d1]
  refine W_draw [(3, 4)] (by kernel_rfl) ?_
  by_cases hx : d[i] = x
  ·have dx : decide (d[i] = x) = true := by simpa using hx
   have hR' : r = true := by rw [← hR]; exact dec_mem hx
   subst hR'
   simp only [go_sem, simprocAttr, g0, g3, g5, hA, hg, dx, hw, rs, List.drop_zero]
  ·have dx : decide (d[i] = x) = false := by simpa using hx
   have hR' : decide (x ∈ d.drop (i + 1)) = r := by rw [← hR]; exact dec_mem_ne hx
   simp only [go_sem, simprocAttr, g0, g3, g5, hA, hg, dx, hw, List.drop_zero]
   exact ih (d.length - (i + 1)) (by omega) _ _ ⟨i + 1, rfl, by omega, hR', by simp only [go_sem, simprocAttr, g0], by simp only [go_sem, simprocAttr, g3], by simp only [go_sem, simprocAttr], by simp only [go_sem, simprocAttr, hg]⟩
 ·have d1 : decide ((i : Int) < (d.length : Nat)) = false := by simp; omega
  rw [List.drop_of_length_le (by omega)] at hR
  have hR' : r = false := by rw [← hR]; rfl
  subst hR'
  simp only [go_sem, simprocAttr, g0, g3, g5, d1, rs]
theorem c_less (x y : Int × Int) (H : Heap) : calls Tryz.prog cfgR 40 [.agg (avA x), .agg (avA y)] H = some (.ret (.lit (.bool (ltA x y))) H) := by
 refine calls_pure (fn := Tryz.f40) rfl rfl rfl rfl rfl ?_ H
 have rs : Tryz.f40.results.toList = [.tmp 4] := rfl
 obtain ⟨a, b⟩ := x
 obtain ⟨a', b'⟩ := y
 generalize hr : ltA (a, b) (a', b') = r
 unfold ltA at hr
 unfold avA
 by_cases h1 : a < a'
 ·have d1 : decide (a < a') = true := by simpa using h1
  have hr' : r = true := by rw [← hr]; simp [h1]
  subst hr'
  simp only [go_sem, simprocAttr, rs, d1]
 ·have d1 : decide (a < a') = false := by simpa using h1
  by_cases h2 : a = a'
  ·have d2 : decide (a = a') = true := by simpa using h2
   have hr' : decide (b < b') = r := by rw [← hr]; simp [h2]
   simp only [go_sem, simprocAttr, rs, d1, d2, hr']
  ·have d2 : decide (a = a') = false := by simpa using h2
   have hr' : r = false := by rw [← hr]; simp [h1, h2]
   subst hr'
   simp only [go_sem, simprocAttr, rs, d1, d2]
end Go.Proofs.YtnoahchdmkpleaaGreat.VA

/-! Ap1 -/
namespace Go.Proofs.YtnoahchdmkpleaaGreat.VA
open Go Go.RowKit
set_option linter.unusedSimpArgs false

/-- May one append: to what one owns, to nil, to a literal without elements. -/
def AppOk (H : Heap) (o : Own) (n : Nat) (e : TypeId) (sz : Nat) : Prop :=
 match o with
 | .ex => n = 0
 | o => OwnOk H o e sz
@[go_sem] theorem AppOk_up (H : Heap) (k : Nat) (o : Own) (n : Nat) (e : TypeId) (sz : Nat) : AppOk (H.up k) o n e sz = AppOk H o n e sz := by cases o <;> rfl
@[go_sem] theorem AppOk_put (H : Heap) (r : Nat) (cs : List AV) (o : Own) (n : Nat) (e : TypeId) (sz : Nat) : AppOk (H.put r cs) o n e sz = AppOk H o n e sz := by cases o <;> rfl
@[go_sem] theorem AppOk_ex (H : Heap) (n : Nat) (e : TypeId) (sz : Nat) : AppOk H .ex n e sz = (n = 0) := rfl
@[go_sem] theorem AppOk_nil (H : Heap) (n : Nat) (e : TypeId) (sz : Nat) : AppOk H .nil n e sz = True := rfl
@[go_sem] theorem AppOk_ownUs (H : Heap) (o : Own) (id : Nat) (n : Nat) (e : TypeId) (sz : Nat) : AppOk (appU H (ownUs o id)) (.own id e sz) n e sz = True := OwnOk_ownUs o e sz
theorem append_any {P : Program} {t : TypeId} {e : TypeId} {sz bs : Nat} {o o' : Own} {es xs : List (List AV)} {x : List AV} (ht : tElem P t = some (e, sz, bs)) (hz : zeroOk P e sz = true) (hs : 0 < sz)
  (hb : (es.length + (xs.length + 1)) * bs ≤ 140737488355328) (hl : es.length + (xs.length + 1) ≤ 140737488355328) (hx : x.length = sz) (H : Heap) (id : Nat) (ho : AppOk H o es.length e sz) (hmu : mutT e = false := by rfl) :
  aAppend P t (.sl o es) (.sl o' (x :: xs)) H id = some (.sl (.own id e sz) (es ++ sanLL (x :: xs)), ownUs o id, ownRs o) := by
 cases o with
 | ex =>
  have : es = [] := List.eq_nil_of_length_eq_zero ho
  subst this
  rw [append_ex ht hz hs hb hl hx H id]; rfl
 | nil => exact append_eq ht hz hs hb hl hx H id ho hmu
 | own k e' z => exact append_eq ht hz hs hb hl hx H id ho hmu
 | sh => exact ho.elim
end Go.Proofs.YtnoahchdmkpleaaGreat.VA

/-! Ra2 -/
namespace Go.Proofs.YtnoahchdmkpleaaGreat.VA
open Go Go.RowKit
attribute [local go_sem] Nat.add_eq_left Nat.left_eq_add true_and and_true ite_true if_false Int.cast_ofNat_Int eq_self Nat.add_assoc Option.some.injEq decide_true decide_false Bool.not_true Bool.not_false List.size_toArray List.length_cons List.length_nil
set_option linter.unusedSimpArgs false
set_option maxRecDepth 100000

@[go_sem] theorem bs0_atm : aBuildSlice Tryz.prog 50 0 [] = some (.sl .ex []) := build0 el_sAtm zr_atom rfl rfl
@[go_sem] theorem bs1_atm (x : Int × Int) : aBuildSlice Tryz.prog 50 1 [(0, .agg (avA x))] = some (.sl .ex [avA x]) := build1 el_sAtm (by decide) zr_atom rfl rfl _ rfl rfl
theorem app_atm (d : List (Int × Int)) (x : Int × Int) (o o' : Own) (hl : d.length + 1 ≤ LA) (H : Heap) (id : Nat) (ho : AppOk H o d.length 81 2) :
  aAppend Tryz.prog 50 (.sl o (encAs d)) (.sl o' [avA x]) H id = some (.sl (.own id 81 2) (encAs (d ++ [x])), ownUs o id, ownRs o) := by
 rw [append_any el_sAtm zo_sAtm (by decide) (by simp [encAs]; unfold LA at hl; omega) (by simp [encAs]; unfold LA at hl; omega) rfl H id (by rw [encAs_len]; exact ho)]
 simp [encAs, sanLL, sanL_avA]
theorem c_rRight (x : Int × Int) (H : Heap) : calls Tryz.prog cfgR 156 [.agg (avA x)] H = some (.ret (.lit (.bool (rightA x))) H) := by
 refine calls_pure (fn := Tryz.f156) rfl rfl rfl rfl rfl ?_ H
 have rs : Tryz.f156.results.toList = [.tmp 2] := rfl
 obtain ⟨k, n⟩ := x
 generalize hr : rightA (k, n) = r
 unfold rightA at hr
 simp only at hr
 unfold avA
 by_cases a1 : 3 ≤ k
 ·have d1 : decide (3 ≤ k) = true := by simpa using a1
  by_cases a2 : k ≤ 5
  ·have d2 : decide (k ≤ 5) = true := by simpa using a2
   rw [if_pos (by omega)] at hr
   simp only [go_sem, simprocAttr, rs, d1, d2, hr]
  ·have d2 : decide (k ≤ 5) = false := by simpa using a2
   have d3 : decide (0 ≤ k) = true := by simp; omega
   rw [if_neg (by omega)] at hr
   by_cases a3 : k ≤ 6
   ·have d4 : decide (k ≤ 6) = true := by simpa using a3
    rw [if_pos (by omega)] at hr
    simp only [go_sem, simprocAttr, rs, d1, d2, d3, d4, hr]
   ·have d4 : decide (k ≤ 6) = false := by simpa using a3
    rw [if_neg (by omega)] at hr
    subst hr
    simp only [go_sem, simprocAttr, rs, d1, d2, d3, d4]
 ·have d1 : decide (3 ≤ k) = false := by simpa using a1
  rw [if_neg (by omega)] at hr
  by_cases a3 : 0 ≤ k
  ·have d3 : decide (0 ≤ k) = true := by simpa using a3
   have d4 : decide (k ≤ 6) = true := by simp; omega
   rw [if_pos (by omega)] at hr
   simp only [go_sem, simprocAttr, rs, d1, d3, d4, hr]
  ·have d3 : decide (0 ≤ k) = false := by simpa using a3
   rw [if_neg (by omega)] at hr
   subst hr
   simp only [go_sem, simprocAttr, rs, d1, d3]
theorem c_add (l : List (Int × Int)) (x : Int × Int) (hl : l.length + 1 ≤ LA) (o : Own) (H : Heap) : calls Tryz.prog cfgR 111 [.sl o (encAs l), .agg (avA x)] H = some (.ret (.sl .sh (encAs (addR l x))) H) := by
 refine calls_pure (fn := Tryz.f111) rfl rfl rfl rfl rfl ?_ H
 have rs : Tryz.f111.results.toList = [.tmp 4] := rfl
 have hsx : sanL (avA x) = avA x := rfl
 have hh : ∀ H, calls Tryz.prog cfgR 67 [.sl .sh (encAs l), .agg (avA x)] H = some (.ret (.lit (.bool (decide (x ∈ l)))) H) := c_has l x (by omega) .sh
 by_cases hx : rightA x = true
 ·by_cases hm : x ∈ l
  ·have dm : decide (x ∈ l) = true := by simpa using hm
   have hR : addR l x = l := by unfold addR; rw [if_pos (.inr hm)]
   rw [hR]
   simp only [go_sem, simprocAttr, rs, hsx, c_rRight, hx, hh, dm]
  ·have dm : decide (x ∈ l) = false := by simpa using hm
   have hR : addR l x = layA x l := by unfold addR; rw [if_neg (by rw [hx]; simp [hm])]
   rw [hR]
   generalize hr : layA x l = r
   have hrl : ∀ m : List (Int × Int), (layA x m).length = m.length + 1 := by
    intro m
    induction m with
    | nil => rfl
    | cons y m ih => unfold layA; split <;> simp [ih]
   simp only [go_sem, simprocAttr, rs, hsx, c_rRight, hx, hh, dm]
   refine W_loop_ind (fun k e H => ∃ (i : Nat) (acc : List (Int × Int)) (b : Bool) (o : Own), k = l.length - i ∧ i ≤ l.length ∧ acc ++ (if b = true then l.drop i else layA x (l.drop i)) = r ∧ gget .bad e 0 = .sl .sh (encAs l) ∧ gget .bad e 3 = .ptr 0 0 ∧ gget .bad e 5 = .sl o (encAs acc) ∧
     gget .bad e 6 = .lit (.bool b) ∧ gget .bad e 7 = .lit (.int .i64 (i : Nat)) ∧ H.get 0 = some (avA x) ∧ AppOk H o acc.length 81 2)
    l.length ⟨0, [], false, .ex, rfl, by omega, hr, by simp only [go_sem, simprocAttr], by simp only [go_sem, simprocAttr], by simp only [go_sem, simprocAttr]; rfl, by simp only [go_sem, simprocAttr], by simp only [go_sem, simprocAttr], by simp only [go_sem, simprocAttr], by simp only [go_sem, simprocAttr]⟩ ?_
   rintro k ih e H ⟨i, acc, b, o, rfl, hle, hR, g0, g3, g5, g6, g7, hg, ho⟩
   have hlen : acc.length + (l.length - i) ≤ l.length + 1 ∧ (b = false → acc.length + (l.length - i) ≤ l.length) := by
    have h1 := congrArg List.length hR
    rw [← hr, hrl, List.length_append] at h1
    cases b with
    | true => simp at h1; exact ⟨by omega, fun h => by cases h⟩
    | false => rw [if_neg (by simp), hrl, List.length_drop] at h1; exact ⟨by omega, fun _ => by omega⟩
   by_cases hlt : i < l.length
   ·have d1 : decide ((i : Int) < (l.length : Nat)) = true := by simp; omega
    have hw := wrap1 (show i + 1 ≤ 9223372036854775807 by unfold LA at hl; omega)
    have hA := iad_atm (t := 81) (b := 16) (o := .sh) hlt
    rw [drop_at hlt] at hR
    simp only [go_sem, simprocAttr, g0, g3, g5, g6, g7, d1]
    refine W_draw [(3, 7)] (by kernel_rfl) ?_
    have ap1 : ∀ H' id, AppOk H' o acc.length 81 2 → aAppend Tryz.prog 50 (.sl o (encAs acc)) (.sl .ex [avA l[i]]) H' id = some (.sl (.own id 81 2) (encAs (acc ++ [l[i]])), ownUs o id, ownRs o) :=
     fun H' id h => app_atm acc l[i] o .ex (by omega) H' id h
    cases b with
    | true =>
     simp only [go_sem, simprocAttr, g0, g3, g5, g6, g7, hA, hg, hw, ap1, ho]
     exact ih (l.length - (i + 1)) (by omega) _ _ ⟨i + 1, acc ++ [l[i]], true, .own _ _ _, rfl, by omega, by rw [if_pos rfl] at hR ⊢; rw [List.append_assoc]; exact hR, by simp only [go_sem, simprocAttr, g0], by simp only [go_sem, simprocAttr, g3], by simp only [go_sem, simprocAttr]; exact rfl, by simp only [go_sem, simprocAttr, g6], by simp only [go_sem, simprocAttr], by simp only [go_sem, simprocAttr, hg], by simp only [go_sem, simprocAttr]⟩
    | false =>
     have hlf := hlen.2 rfl
     rw [if_neg (by simp)] at hR
     by_cases hx2 : ltA x l[i] = true
     ·have ap0 : ∀ H' id, AppOk H' o acc.length 81 2 → aAppend Tryz.prog 50 (.sl o (encAs acc)) (.sl .ex [avA x]) H' id = some (.sl (.own id 81 2) (encAs (acc ++ [x])), ownUs o id, ownRs o) :=
       fun H' id h => app_atm acc x o .ex (by omega) H' id h
      have ap2 : ∀ (k : Nat) (H' : Heap) (id : Nat), AppOk H' (.own k 81 2) (acc ++ [x]).length 81 2 → aAppend Tryz.prog 50 (.sl (.own k 81 2) (encAs (acc ++ [x]))) (.sl .ex [avA l[i]]) H' id =
        some (.sl (.own id 81 2) (encAs (acc ++ [x] ++ [l[i]])), ownUs (.own k 81 2) id, ownRs (.own k 81 2)) :=
       fun k H' id h => app_atm (acc ++ [x]) l[i] _ .ex (by simp; omega) H' id h
      simp only [go_sem, simprocAttr, g0, g3, g5, g6, g7, hA, hg, hw, ap0, ap2, ho, c_less, hx2, List.drop_zero]
      have hR' : acc ++ [x] ++ [l[i]] ++ l.drop (i + 1) = r := by rw [← hR]; unfold layA; rw [if_pos hx2]; simp only [List.append_assoc, List.cons_append, List.nil_append]
      exact ih (l.length - (i + 1)) (by omega) _ _ ⟨i + 1, acc ++ [x] ++ [l[i]], true, .own _ _ _, rfl, by omega, by rw [if_pos rfl]; exact hR', by simp only [go_sem, simprocAttr, g0], by simp only [go_sem, simprocAttr, g3], by simp only [go_sem, simprocAttr]; exact rfl, by simp only [go_sem, simprocAttr], by simp only [go_sem, simprocAttr], by simp only [go_sem, simprocAttr, hg], by simp only [go_sem, simprocAttr]⟩
     ·have hx3 : ltA x l[i] = false := by simpa using hx2
      simp only [go_sem, simprocAttr, g0, g3, g5, g6, g7, hA, hg, hw, ap1, ho, c_less, hx3, List.drop_zero]
      have hR' : acc ++ [l[i]] ++ layA x (l.drop (i + 1)) = r := by
       rw [← hR]
       show _ = acc ++ (if ltA x l[i] = true then x :: l[i] :: l.drop (i + 1) else l[i] :: layA x (l.drop (i + 1)))
       rw [if_neg hx2, List.append_assoc]; rfl
      exact ih (l.length - (i + 1)) (by omega) _ _ ⟨i + 1, acc ++ [l[i]], false, .own _ _ _, rfl, by omega, by rw [if_neg (by simp)]; exact hR', by simp only [go_sem, simprocAttr, g0], by simp only [go_sem, simprocAttr, g3], by simp only [go_sem, simprocAttr]; exact rfl, by simp only [go_sem, simprocAttr, g6], by simp only [go_sem, simprocAttr], by simp only [go_sem, simprocAttr, hg], by simp only [go_sem, simprocAttr]⟩
   ·have d1 : decide ((i : Int) < (l.length : Nat)) = false := by simp; omega
    rw [List.drop_of_length_le (by omega)] at hR
    cases b with
    | true =>
     rw [if_pos rfl, List.append_nil] at hR
     subst hR
     simp only [go_sem, simprocAttr, g0, g3, g5, g6, g7, d1, rs]
    | false =>
     have hlf := hlen.2 rfl
     rw [if_neg (by simp)] at hR
     have hR' : acc ++ [x] = r := hR
     have ap0 : ∀ H' id, AppOk H' o acc.length 81 2 → aAppend Tryz.prog 50 (.sl o (encAs acc)) (.sl .ex [avA x]) H' id = some (.sl (.own id 81 2) (encAs (acc ++ [x])), ownUs o id, ownRs o) :=
      fun H' id h => app_atm acc x o .ex (by omega) H' id h
     simp only [go_sem, simprocAttr, g0, g3, g5, g6, g7, d1, rs, hg, ap0, ho, List.drop_zero, hR']
 ·have hx' : rightA x = false := by simpa using hx
  have hR : addR l x = l := by unfold addR; rw [if_pos (.inl hx')]
  rw [hR]
  simp only [go_sem, simprocAttr, rs, hsx, c_rRight, hx', hh]
theorem addR_len (l : List (Int × Int)) (x : Int × Int) : (addR l x).length ≤ l.length + 1 := by
 have hrl : ∀ m : List (Int × Int), (layA x m).length = m.length + 1 := by
  intro m
  induction m with
  | nil => rfl
  | cons y m ih => unfold layA; split <;> simp [ih]
 unfold addR
 split
 ·omega
 ·rw [hrl]; exact Nat.le_refl _
theorem foldl_len : ∀ (d l : List (Int × Int)), (d.foldl addR l).length ≤ l.length + d.length
 | [], l => by simp
 | x :: d, l => by
  have := foldl_len d (addR l x)
  have := addR_len l x
  rw [List.foldl_cons, List.length_cons]; omega
theorem c_rNorm (d : List (Int × Int)) (hl : d.length + 1 ≤ LA) (o : Own) (H : Heap) : calls Tryz.prog cfgR 66 [.sl o (encAs d)] H = some (.ret (.sl .sh (encAs (normR d))) H) := by
 refine calls_pure (fn := Tryz.f66) rfl rfl rfl rfl rfl ?_ H
 have rs : Tryz.f66.results.toList = [.tmp 2] := rfl
 generalize hr : normR d = r
 unfold normR at hr
 simp only [go_sem, simprocAttr, rs]
 refine W_loop_ind (fun k e H => ∃ (i : Nat) (acc : List (Int × Int)) (o : Own), k = d.length - i ∧ i ≤ d.length ∧ (d.drop i).foldl addR acc = r ∧ acc.length ≤ i ∧ gget .bad e 0 = .sl .sh (encAs d) ∧ gget .bad e 3 = .sl o (encAs acc) ∧ gget .bad e 4 = .lit (.int .i64 (i : Nat)))
  d.length ⟨0, [], .ex, rfl, by omega, hr, by simp, by simp only [go_sem, simprocAttr], by simp only [go_sem, simprocAttr]; rfl, by simp only [go_sem, simprocAttr]⟩ ?_
 rintro k ih e H ⟨i, acc, o, rfl, hle, hR, hal, g0, g3, g4⟩
 by_cases hlt : i < d.length
 ·have d1 : decide ((i : Int) < (d.length : Nat)) = true := by simp; omega
  have hw := wrap1 (show i + 1 ≤ 9223372036854775807 by unfold LA at hl; omega)
  have hA := iad_atm (t := 81) (b := 16) (o := .sh) hlt
  rw [drop_at hlt, List.foldl_cons] at hR
  have hc : ∀ H, calls Tryz.prog cfgR 111 [.sl o (encAs acc), .agg (avA d[i])] H = some (.ret (.sl .sh (encAs (addR acc d[i]))) H) := c_add acc d[i] (by omega) o
  simp only [go_sem, simprocAttr, g0, g3, g4, d1, hA, hw, hc]
  have := addR_len acc d[i]
  exact ih (d.length - (i + 1)) (by omega) _ _ ⟨i + 1, addR acc d[i], .sh, rfl, by omega, hR, by omega, by simp only [go_sem, simprocAttr, g0], by simp only [go_sem, simprocAttr], by simp only [go_sem, simprocAttr]⟩
 ·have d1 : decide ((i : Int) < (d.length : Nat)) = false := by simp; omega
  rw [List.drop_of_length_le (by omega)] at hR
  have hR' : acc = r := hR
  subst hR'
  simp only [go_sem, simprocAttr, g0, g3, g4, d1, rs]
theorem c_rMay (d : List (Int × Int)) (hl : d.length + 1 ≤ LA) (o : Own) (H : Heap) : calls Tryz.prog cfgR 37 [.sl o (encAs d)] H = some (.ret (.lit (.bool (mayA d))) H) := by
 refine calls_pure (fn := Tryz.f37) rfl rfl rfl rfl rfl ?_ H
 have rs : Tryz.f37.results.toList = [.tmp 2] := rfl
 have hn : ∀ H, calls Tryz.prog cfgR 66 [.sl .sh (encAs d)] H = some (.ret (.sl .sh (encAs (normA d))) H) := by rw [← normR_eq]; exact c_rNorm d hl .sh
 have he : ∀ H, calls Tryz.prog cfgR 18 [.sl .sh (encAs d), .sl .sh (encAs (normA d))] H = some (.ret (.lit (.bool (mayA d))) H) := c_same d (normA d) (by omega) .sh .sh
 simp only [go_sem, simprocAttr, rs, hn, he]
end Go.Proofs.YtnoahchdmkpleaaGreat.VA

/-! Ra3 -/
namespace Go.Proofs.YtnoahchdmkpleaaGreat.VA
open Go Go.RowKit
attribute [local go_sem] Nat.add_eq_left Nat.left_eq_add true_and and_true ite_true if_false Int.cast_ofNat_Int eq_self Nat.add_assoc Option.some.injEq decide_true decide_false Bool.not_true Bool.not_false List.size_toArray List.length_cons List.length_nil
set_option linter.unusedSimpArgs false
set_option maxRecDepth 100000

/-! ### states -/
structure Bnd where
 nm : ByteArray
 vals : List (Int × Int)
structure Fd where
 nm : ByteArray
 sure : Bool
 vals : List (Int × Int)
structure Sh where
 fields : List Fd
 proto : List (Int × Int)
structure Lc where
 atom : Int × Int
 shape : Sh
structure Sta where
 dead : Bool
 vars : List Bnd
 locs : List Lc
def encB (b : Bnd) : List AV := [.lit (.string b.nm), .sl .sh (encAs b.vals)]
def encF (f : Fd) : List AV := [.lit (.string f.nm), .lit (.bool f.sure), .sl .sh (encAs f.vals)]
def encSh (s : Sh) : List AV := [.sl .sh (s.fields.map encF), .sl .sh (encAs s.proto)]
def encL (l : Lc) : List AV := [.lit (.int .i64 l.atom.1), .lit (.int .i64 l.atom.2), .sl .sh (l.shape.fields.map encF), .sl .sh (encAs l.shape.proto)]
def encSt (s : Sta) : List AV := [.lit (.bool s.dead), .sl .sh (s.vars.map encB), .sl .sh (s.locs.map encL)]
theorem sanL_encB (b : Bnd) : sanL (encB b) = encB b := by simp only [encB, sanL, san, sanLL_encAs]
theorem sanL_encF (f : Fd) : sanL (encF f) = encF f := by simp only [encF, sanL, san, sanLL_encAs]
@[go_sem] theorem sanLL_F (l : List Fd) : sanLL (l.map encF) = l.map encF := by rw [sanLL_map, List.map_map]; congr 1; funext f; exact sanL_encF f
@[go_sem] theorem sanLL_B (l : List Bnd) : sanLL (l.map encB) = l.map encB := by rw [sanLL_map, List.map_map]; congr 1; funext f; exact sanL_encB f
@[go_sem] theorem sanL_encSh (s : Sh) : sanL (encSh s) = encSh s := by simp only [encSh, sanL, san, sanLL_encAs, sanLL_F]
theorem sanL_encL (l : Lc) : sanL (encL l) = encL l := by simp only [encL, sanL, san, sanLL_encAs, sanLL_F]
@[go_sem] theorem sanLL_L (l : List Lc) : sanLL (l.map encL) = l.map encL := by rw [sanLL_map, List.map_map]; congr 1; funext f; exact sanL_encL f
@[go_sem] theorem sanL_encSt (s : Sta) : sanL (encSt s) = encSt s := by simp only [encSt, sanL, san, sanLL_B, sanLL_L]
def strLt (a b : ByteArray) : Bool := Op.bytesLess a.data.toList b.data.toList
@[go_sem] theorem aStr_geq (a b : ByteArray) : aStr .geq a b = some (.lit (.bool (!strLt a b))) := rfl
theorem iad_map {α : Type} {f : α → List AV} {t : TypeId} {n b : Nat} {o : Own} {l : List α} {i : Nat} (h : i < l.length) (hf : ∀ x, (f x).length = n) : iad (some (t, n, b)) (.sl o (l.map f)) (some i) = some (.ep (f l[i])) :=
 iad_some (by simp [h]) (hf _)
def upF : Option ByteArray → List Fd → Bool
 | _, [] => true
 | p, f :: l => mayA f.vals && ((match p with | none => true | some q => strLt q f.nm) && upF (some f.nm) l)
def prvF (l : List Fd) (i : Nat) : Option ByteArray := if i = 0 then none else (l[i - 1]?).map Fd.nm
theorem prvF_succ {l : List Fd} {i : Nat} (h : i < l.length) : prvF l (i + 1) = some l[i].nm := by simp [prvF, h]
def mayS (s : Sh) : Bool := upF none s.fields && mayA s.proto
def FOk (f : Fd) : Prop := f.vals.length + 1 ≤ LA
def ShOk (s : Sh) : Prop := (∀ f, f ∈ s.fields → FOk f) ∧ s.fields.length ≤ LA ∧ s.proto.length + 1 ≤ LA
theorem c_objMay (s : Sh) (hs : ShOk s) (H : Heap) : calls Tryz.prog cfgR 71 [.agg (encSh s)] H = some (.ret (.lit (.bool (mayS s))) H) := by
 refine calls_pure (fn := Tryz.f71) rfl rfl rfl rfl rfl ?_ H
 have rs : Tryz.f71.results.toList = [.tmp 2] := rfl
 obtain ⟨fs, pr⟩ := s
 obtain ⟨hf, hfl, hpl⟩ := hs
 simp only at hf hfl hpl
 generalize hr : mayS ⟨fs, pr⟩ = r
 unfold mayS at hr
 simp only at hr
 unfold encSh
 simp only [go_sem, simprocAttr, rs]
 refine W_loop_ind (fun k e H => ∃ i : Nat, k = fs.length - i ∧ i ≤ fs.length ∧ (upF (prvF fs i) (fs.drop i) && mayA pr) = r ∧ gget .bad e 1 = .ptr 0 0 ∧ gget .bad e 6 = .sl .sh (fs.map encF) ∧ gget .bad e 7 = .lit (.int .i64 (fs.length : Nat)) ∧ gget .bad e 8 = .lit (.int .i64 (i : Nat)) ∧
   H.get 0 = some [.sl .sh (fs.map encF), .sl .sh (encAs pr)] ∧ 1 ≤ H.next)
  fs.length ⟨0, rfl, by omega, hr, by simp only [go_sem, simprocAttr], by simp only [go_sem, simprocAttr], by simp only [go_sem, simprocAttr, List.length_map], by simp only [go_sem, simprocAttr], by simp only [go_sem, simprocAttr], by simp only [go_sem, simprocAttr]⟩ ?_
 rintro k ih e H ⟨i, rfl, hle, hR, g1, g6, g7, g8, hg, hnx⟩
 obtain ⟨m, hm⟩ : ∃ m, H.next = m + 1 := ⟨H.next - 1, by omega⟩
 by_cases hlt : i < fs.length
 ·have d1 : decide ((i : Int) < (fs.length : Nat)) = true := by simp; omega
  have hw := wrap1 (show i + 1 ≤ 9223372036854775807 by unfold LA at hfl; omega)
  have hA := iad_map (f := encF) (t := 85) (n := 3) (b := 48) (o := .sh) hlt (fun _ => rfl)
  rw [drop_at hlt] at hR
  have hfo := hf fs[i] (List.getElem_mem hlt)
  have hpi : prvF fs (i + 1) = some fs[i].nm := prvF_succ hlt
  generalize hx : fs[i] = x at hA hR hfo hpi
  have hc : ∀ H, calls Tryz.prog cfgR 69 [.sl .sh (encAs x.vals)] H = some (.ret (.lit (.bool (mayA x.vals))) H) := c_may x.vals (by unfold FOk at hfo; omega) .sh
  have hA' : iad (some (85, 3, 48)) (.sl .sh (fs.map encF)) (some i) = some (.ep [.lit (.string x.nm), .lit (.bool x.sure), .sl .sh (encAs x.vals)]) := hA
  clear hA
  simp only [go_sem, simprocAttr, g1, g6, g7, g8, hm, d1, hA']
  refine W_draw [(9, 16), (14, 16)] (by kernel_rfl) ?_
  cases hv : mayA x.vals with
  | false =>
   have hR' : r = false := by rw [← hR]; simp [upF, hv]
   subst hR'
   simp only [go_sem, simprocAttr, g1, g6, g7, g8, hm, hA', hc, hv, rs]
  | true =>
   by_cases hi0 : i = 0
   ·subst hi0
    have hR' : (upF (prvF fs (0 + 1)) (fs.drop (0 + 1)) && mayA pr) = r := by rw [← hR, hpi]; simp [upF, hv, prvF]
    have d2 : decide ((0 : Int) < 0) = false := rfl
    simp only [go_sem, simprocAttr, g1, g6, g7, g8, hm, hA', hc, hv, d2] at hw ⊢
    exact ih (fs.length - (0 + 1)) (by omega) _ _ ⟨0 + 1, rfl, by omega, hR', by simp only [go_sem, simprocAttr, g1], by simp only [go_sem, simprocAttr, g6], by simp only [go_sem, simprocAttr, g7], by simp only [go_sem, simprocAttr, hw] <;> rfl, by simp only [go_sem, simprocAttr, hm, hg], by simp only [go_sem, simprocAttr, hm] <;> omega⟩
   ·have d2 : decide ((0 : Int) < (i : Nat)) = true := by simp; omega
    have hv1 := wrapD (show 0 < i by omega) (by unfold LA at hfl; omega)
    have hi1 : i - 1 < fs.length := by omega
    have hB := iad_map (f := encF) (t := 85) (n := 3) (b := 48) (o := .sh) hi1 (fun _ => rfl)
    have hp0 : prvF fs i = some fs[i - 1].nm := by simp [prvF, hi0, hi1]
    generalize hy : fs[i - 1] = y at hB hp0
    have hB' : iad (some (85, 3, 48)) (.sl .sh (fs.map encF)) (some (i - 1)) = some (.ep [.lit (.string y.nm), .lit (.bool y.sure), .sl .sh (encAs y.vals)]) := hB
    clear hB
    cases hst : strLt y.nm x.nm with
    | false =>
     have hR' : r = false := by rw [← hR, hp0]; simp [upF, hv, hst]
     subst hR'
     simp only [go_sem, simprocAttr, g1, g6, g7, g8, hm, hg, hA', hB', hc, hv, hv1, d2, hst, rs]
    | true =>
     have hR' : (upF (prvF fs (i + 1)) (fs.drop (i + 1)) && mayA pr) = r := by rw [← hR, hp0, hpi]; simp [upF, hv, hst]
     simp only [go_sem, simprocAttr, g1, g6, g7, g8, hm, hg, hA', hB', hc, hv, hv1, d2, hst, hw]
     exact ih (fs.length - (i + 1)) (by omega) _ _ ⟨i + 1, rfl, by omega, hR', by simp only [go_sem, simprocAttr, g1], by simp only [go_sem, simprocAttr, g6], by simp only [go_sem, simprocAttr, g7], by simp only [go_sem, simprocAttr], by simp only [go_sem, simprocAttr, hm, hg], by simp only [go_sem, simprocAttr, hm] <;> omega⟩
 ·have d1 : decide ((i : Int) < (fs.length : Nat)) = false := by simp; omega
  rw [List.drop_of_length_le (by omega)] at hR
  have hR' : mayA pr = r := by rw [← hR]; simp [upF]
  have hc : ∀ H, calls Tryz.prog cfgR 69 [.sl .sh (encAs pr)] H = some (.ret (.lit (.bool (mayA pr))) H) := c_may pr (by omega) .sh
  simp only [go_sem, simprocAttr, g1, g6, g7, g8, hm, hg, d1, hc, rs, hR']
theorem c_rObjMay (s : Sh) (hs : ShOk s) (H : Heap) : calls Tryz.prog cfgR 39 [.agg (encSh s)] H = some (.ret (.lit (.bool (mayS s))) H) := by
 refine calls_pure (fn := Tryz.f39) rfl rfl rfl rfl rfl ?_ H
 have rs : Tryz.f39.results.toList = [.tmp 2] := rfl
 obtain ⟨fs, pr⟩ := s
 obtain ⟨hf, hfl, hpl⟩ := hs
 simp only at hf hfl hpl
 generalize hr : mayS ⟨fs, pr⟩ = r
 unfold mayS at hr
 simp only at hr
 unfold encSh
 simp only [go_sem, simprocAttr, rs]
 refine W_loop_ind (fun k e H => ∃ i : Nat, k = fs.length - i ∧ i ≤ fs.length ∧ (upF (prvF fs i) (fs.drop i) && mayA pr) = r ∧ gget .bad e 1 = .ptr 0 0 ∧ gget .bad e 3 = .lit (.int .i64 (i : Nat)) ∧
   H.get 0 = some [.sl .sh (fs.map encF), .sl .sh (encAs pr)] ∧ 1 ≤ H.next)
  fs.length ⟨0, rfl, by omega, hr, by simp only [go_sem, simprocAttr], by simp only [go_sem, simprocAttr], by simp only [go_sem, simprocAttr], by simp only [go_sem, simprocAttr]⟩ ?_
 rintro k ih e H ⟨i, rfl, hle, hR, g1, g3, hg, hnx⟩
 obtain ⟨m, hm⟩ : ∃ m, H.next = m + 1 := ⟨H.next - 1, by omega⟩
 by_cases hlt : i < fs.length
 ·have d1 : decide ((i : Int) < (fs.length : Nat)) = true := by simp; omega
  have hw := wrap1 (show i + 1 ≤ 9223372036854775807 by unfold LA at hfl; omega)
  have hA := iad_map (f := encF) (t := 85) (n := 3) (b := 48) (o := .sh) hlt (fun _ => rfl)
  rw [drop_at hlt] at hR
  have hfo := hf fs[i] (List.getElem_mem hlt)
  have hpi : prvF fs (i + 1) = some fs[i].nm := prvF_succ hlt
  generalize hx : fs[i] = x at hA hR hfo hpi
  have hc : ∀ H, calls Tryz.prog cfgR 37 [.sl .sh (encAs x.vals)] H = some (.ret (.lit (.bool (mayA x.vals))) H) := c_rMay x.vals hfo .sh
  have hA' : iad (some (85, 3, 48)) (.sl .sh (fs.map encF)) (some i) = some (.ep [.lit (.string x.nm), .lit (.bool x.sure), .sl .sh (encAs x.vals)]) := hA
  clear hA
  simp only [go_sem, simprocAttr, g1, g3, hm, hg, d1, List.length_map]
  refine W_draw [(13, 20), (18, 20), (13, 24), (18, 24)] (by kernel_rfl) ?_
  cases hv : mayA x.vals with
  | false =>
   have hR' : r = false := by rw [← hR]; simp [upF, hv]
   subst hR'
   simp only [go_sem, simprocAttr, g1, g3, hm, hg, hA', hc, hv, rs]
  | true =>
   by_cases hi0 : i = 0
   ·subst hi0
    have hR' : (upF (prvF fs (0 + 1)) (fs.drop (0 + 1)) && mayA pr) = r := by rw [← hR, hpi]; simp [upF, hv, prvF]
    have d2 : decide ((0 : Int) < 0) = false := rfl
    simp only [go_sem, simprocAttr, g1, g3, hm, hg, hA', hc, hv, d2] at hw ⊢
    exact ih (fs.length - (0 + 1)) (by omega) _ _ ⟨0 + 1, rfl, by omega, hR', by simp only [go_sem, simprocAttr, g1], by simp only [go_sem, simprocAttr, hw] <;> rfl, by simp only [go_sem, simprocAttr, hm, hg], by simp only [go_sem, simprocAttr, hm] <;> omega⟩
   ·have d2 : decide ((0 : Int) < (i : Nat)) = true := by simp; omega
    have hv1 := wrapD (show 0 < i by omega) (by unfold LA at hfl; omega)
    have hi1 : i - 1 < fs.length := by omega
    have hB := iad_map (f := encF) (t := 85) (n := 3) (b := 48) (o := .sh) hi1 (fun _ => rfl)
    have hp0 : prvF fs i = some fs[i - 1].nm := by simp [prvF, hi0, hi1]
    generalize hy : fs[i - 1] = y at hB hp0
    have hB' : iad (some (85, 3, 48)) (.sl .sh (fs.map encF)) (some (i - 1)) = some (.ep [.lit (.string y.nm), .lit (.bool y.sure), .sl .sh (encAs y.vals)]) := hB
    clear hB
    cases hst : strLt y.nm x.nm with
    | false =>
     have hR' : r = false := by rw [← hR, hp0]; simp [upF, hv, hst]
     subst hR'
     simp only [go_sem, simprocAttr, g1, g3, hm, hg, hA', hB', hc, hv, hv1, d2, hst, rs]
    | true =>
     have hR' : (upF (prvF fs (i + 1)) (fs.drop (i + 1)) && mayA pr) = r := by rw [← hR, hp0, hpi]; simp [upF, hv, hst]
     simp only [go_sem, simprocAttr, g1, g3, hm, hg, hA', hB', hc, hv, hv1, d2, hst, hw]
     exact ih (fs.length - (i + 1)) (by omega) _ _ ⟨i + 1, rfl, by omega, hR', by simp only [go_sem, simprocAttr, g1], by simp only [go_sem, simprocAttr], by simp only [go_sem, simprocAttr, hm, hg], by simp only [go_sem, simprocAttr, hm] <;> omega⟩
 ·have d1 : decide ((i : Int) < (fs.length : Nat)) = false := by simp; omega
  rw [List.drop_of_length_le (by omega)] at hR
  have hR' : mayA pr = r := by rw [← hR]; simp [upF]
  have hc : ∀ H, calls Tryz.prog cfgR 37 [.sl .sh (encAs pr)] H = some (.ret (.lit (.bool (mayA pr))) H) := c_rMay pr hpl .sh
  simp only [go_sem, simprocAttr, g1, g3, hm, hg, d1, hc, rs, hR', List.length_map]
end Go.Proofs.YtnoahchdmkpleaaGreat.VA

/-! Ra4 -/
namespace Go.Proofs.YtnoahchdmkpleaaGreat.VA
open Go Go.RowKit
attribute [local go_sem] Nat.add_eq_left Nat.left_eq_add true_and and_true ite_true if_false Int.cast_ofNat_Int eq_self Nat.add_assoc Option.some.injEq decide_true decide_false Bool.not_true Bool.not_false List.size_toArray List.length_cons List.length_nil
set_option linter.unusedSimpArgs false
set_option maxRecDepth 100000

def placeA (x : Int × Int) : Bool := (decide (x.1 = 4) || decide (x.1 = 5)) && decide (0 ≤ x.2)
theorem mayA_one (x : Int × Int) : mayA [x] = rightA x := by
 cases h : rightA x with
 | true => simp [mayA, normA_one h]
 | false =>
  have : normA [x] = [] := List.eq_nil_iff_forall_not_mem.2 fun y hy => by
   rw [mem_normA] at hy
   obtain ⟨h1, h2⟩ := hy
   simp at h1; subst h1
   rw [h] at h2; cases h2
  simp [mayA, this]
theorem c_place (x : Int × Int) (H : Heap) : calls Tryz.prog cfgR 70 [.agg (avA x)] H = some (.ret (.lit (.bool (placeA x))) H) := by
 refine calls_pure (fn := Tryz.f70) rfl rfl rfl rfl rfl ?_ H
 have rs : Tryz.f70.results.toList = [.tmp 2] := rfl
 obtain ⟨k, n⟩ := x
 have hc : ∀ H, calls Tryz.prog cfgR 69 [.sl .sh [[.lit (.int .i64 k), .lit (.int .i64 n)]]] H = some (.ret (.lit (.bool (rightA (k, n)))) H) := by
  rw [← mayA_one]; exact c_may [(k, n)] (show 1 ≤ LA by decide) .sh
 have hb : aBuildSlice Tryz.prog 50 1 [(0, .agg [.lit (.int .i64 k), .lit (.int .i64 n)])] = some (.sl .ex [[.lit (.int .i64 k), .lit (.int .i64 n)]]) := bs1_atm (k, n)
 have hc' : ∀ H, calls Tryz.prog cfgR 69 [.sl .ex [[.lit (.int .i64 k), .lit (.int .i64 n)]]] H = some (.ret (.lit (.bool (rightA (k, n)))) H) := by
  rw [← mayA_one]; exact c_may [(k, n)] (show 1 ≤ LA by decide) .ex
 generalize hr : placeA (k, n) = r
 unfold placeA at hr
 simp only at hr
 unfold avA
 by_cases h4 : k = 4
 ·subst h4
  have hR' : rightA ((4 : Int), n) = r := by rw [← hr]; simp [rightA]
  simp only [go_sem, simprocAttr, rs, hb, hc, hc', hR']
 ·have e4 : decide (k = 4) = false := by simpa using h4
  by_cases h5 : k = 5
  ·subst h5
   have hR' : rightA ((5 : Int), n) = r := by rw [← hr]; simp [rightA]
   simp only [go_sem, simprocAttr, rs, hb, hc, hc', hR', e4]
  ·have e5 : decide (k = 5) = false := by simpa using h5
   have hR' : r = false := by rw [← hr]; simp [h4, h5]
   subst hR'
   simp only [go_sem, simprocAttr, rs, e4, e5]
theorem c_rPlace (x : Int × Int) (H : Heap) : calls Tryz.prog cfgR 38 [.agg (avA x)] H = some (.ret (.lit (.bool (placeA x))) H) := by
 refine calls_pure (fn := Tryz.f38) rfl rfl rfl rfl rfl ?_ H
 have rs : Tryz.f38.results.toList = [.tmp 2] := rfl
 obtain ⟨k, n⟩ := x
 generalize hr : placeA (k, n) = r
 unfold placeA at hr
 simp only at hr
 unfold avA
 by_cases h4 : k = 4
 ·subst h4
  have hR' : decide (0 ≤ n) = r := by rw [← hr]; simp
  simp only [go_sem, simprocAttr, rs, hR']
 ·have e4 : decide (k = 4) = false := by simpa using h4
  by_cases h5 : k = 5
  ·subst h5
   have hR' : decide (0 ≤ n) = r := by rw [← hr]; simp
   simp only [go_sem, simprocAttr, rs, hR', e4]
  ·have e5 : decide (k = 5) = false := by simpa using h5
   have hR' : r = false := by rw [← hr]; simp [h4, h5]
   subst hR'
   simp only [go_sem, simprocAttr, rs, e4, e5]
def upB : Option ByteArray → List Bnd → Bool
 | _, [] => true
 | p, f :: l => mayA f.vals && ((match p with | none => true | some q => strLt q f.nm) && upB (some f.nm) l)
def upL : Option (Int × Int) → List Lc → Bool
 | _, [] => true
 | p, f :: l => placeA f.atom && (mayS f.shape && ((match p with | none => true | some q => ltA q f.atom) && upL (some f.atom) l))
def prvB (l : List Bnd) (i : Nat) : Option ByteArray := if i = 0 then none else (l[i - 1]?).map Bnd.nm
theorem prvB_succ {l : List Bnd} {i : Nat} (h : i < l.length) : prvB l (i + 1) = some l[i].nm := by simp [prvB, h]
def prvL (l : List Lc) (i : Nat) : Option (Int × Int) := if i = 0 then none else (l[i - 1]?).map Lc.atom
theorem prvL_succ {l : List Lc} {i : Nat} (h : i < l.length) : prvL l (i + 1) = some l[i].atom := by simp [prvL, h]
def BOk (b : Bnd) : Prop := b.vals.length + 1 ≤ LA
def StOk (s : Sta) : Prop := (∀ b, b ∈ s.vars → BOk b) ∧ s.vars.length ≤ LA ∧ (∀ l, l ∈ s.locs → ShOk l.shape) ∧ s.locs.length ≤ LA
def mayT (s : Sta) : Bool := upB none s.vars && (upL none s.locs && (!s.dead || decide (s.vars.length + s.locs.length = 0)))
theorem geq_cmp (x y : Int × Int) : decide (0 ≤ cmpA x y) = !ltA x y := by
 have h : ltA x y = decide (cmpA x y < 0) := by unfold ltA; rw [← cmpA_lt]; rfl
 rw [h, ← decide_not]
 exact decide_eq_decide.2 (by omega)
theorem c_staMay (s : Sta) (hs : StOk s) (H : Heap) : calls Tryz.prog cfgR 45 [.agg (encSt s)] H = some (.ret (.lit (.bool (mayT s))) H) := by
 refine calls_pure (fn := Tryz.f45) rfl rfl rfl rfl rfl ?_ H
 have rs : Tryz.f45.results.toList = [.tmp 2] := rfl
 obtain ⟨dd, vs, ls⟩ := s
 obtain ⟨hv, hvl, hL, hll⟩ := hs
 simp only at hv hvl hL hll
 generalize hr : mayT ⟨dd, vs, ls⟩ = r
 unfold mayT at hr
 simp only at hr
 unfold encSt
 simp only [go_sem, simprocAttr, rs, List.length_map]
 refine W_loop_ind (fun k e H => ∃ i : Nat, k = vs.length - i ∧ i ≤ vs.length ∧ (upB (prvB vs i) (vs.drop i) && (upL none ls && (!dd || decide (vs.length + ls.length = 0)))) = r ∧ gget .bad e 1 = .ptr 0 0 ∧ gget .bad e 8 = .sl .sh (vs.map encB) ∧ gget .bad e 9 = .lit (.int .i64 (vs.length : Nat)) ∧ gget .bad e 10 = .lit (.int .i64 (i : Nat)) ∧
   H.get 0 = some [.lit (.bool dd), .sl .sh (vs.map encB), .sl .sh (ls.map encL)] ∧ 1 ≤ H.next)
  vs.length ⟨0, rfl, by omega, hr, by simp only [go_sem, simprocAttr], by simp only [go_sem, simprocAttr], by simp only [go_sem, simprocAttr], by simp only [go_sem, simprocAttr], by simp only [go_sem, simprocAttr], by simp only [go_sem, simprocAttr]⟩ ?_
 rintro k ih e H ⟨i, rfl, hle, hR, g1, g8, g9, g10, hg, hnx⟩
 obtain ⟨m, hm⟩ : ∃ m, H.next = m + 1 := ⟨H.next - 1, by omega⟩
 by_cases hlt : i < vs.length
 ·have d1 : decide ((i : Int) < (vs.length : Nat)) = true := by simp; omega
  have hw := wrap1 (show i + 1 ≤ 9223372036854775807 by unfold LA at hvl; omega)
  have hA := iad_map (f := encB) (t := 76) (n := 2) (b := 40) (o := .sh) hlt (fun _ => rfl)
  rw [drop_at hlt] at hR
  have hfo := hv vs[i] (List.getElem_mem hlt)
  have hpi : prvB vs (i + 1) = some vs[i].nm := prvB_succ hlt
  generalize hx : vs[i] = x at hA hR hfo hpi
  have hc : ∀ H, calls Tryz.prog cfgR 69 [.sl .sh (encAs x.vals)] H = some (.ret (.lit (.bool (mayA x.vals))) H) := c_may x.vals (by unfold BOk at hfo; omega) .sh
  have hA' : iad (some (76, 2, 40)) (.sl .sh (vs.map encB)) (some i) = some (.ep [.lit (.string x.nm), .sl .sh (encAs x.vals)]) := hA
  clear hA
  simp only [go_sem, simprocAttr, g1, g8, g9, g10, hm, d1, hA']
  refine W_draw [(9, 16), (14, 16)] (by kernel_rfl) ?_
  cases hv : mayA x.vals with
  | false =>
   have hR' : r = false := by rw [← hR]; simp [upB, hv]
   subst hR'
   simp only [go_sem, simprocAttr, g1, g8, g9, g10, hm, hA', hc, hv, rs]
  | true =>
   by_cases hi0 : i = 0
   ·subst hi0
    have hR' : (upB (prvB vs (0 + 1)) (vs.drop (0 + 1)) && (upL none ls && (!dd || decide (vs.length + ls.length = 0)))) = r := by rw [← hR, hpi]; simp [upB, hv, prvB]
    have d2 : decide ((0 : Int) < 0) = false := rfl
    simp only [go_sem, simprocAttr, g1, g8, g9, g10, hm, hA', hc, hv, d2] at hw ⊢
    exact ih (vs.length - (0 + 1)) (by omega) _ _ ⟨0 + 1, rfl, by omega, hR', by simp only [go_sem, simprocAttr, g1], by simp only [go_sem, simprocAttr, g8], by simp only [go_sem, simprocAttr, g9], by simp only [go_sem, simprocAttr, hw] <;> rfl, by simp only [go_sem, simprocAttr, hm, hg], by simp only [go_sem, simprocAttr, hm] <;> omega⟩
   ·have d2 : decide ((0 : Int) < (i : Nat)) = true := by simp; omega
    have hv1 := wrapD (show 0 < i by omega) (by unfold LA at hvl; omega)
    have hi1 : i - 1 < vs.length := by omega
    have hB := iad_map (f := encB) (t := 76) (n := 2) (b := 40) (o := .sh) hi1 (fun _ => rfl)
    have hp0 : prvB vs i = some vs[i - 1].nm := by simp [prvB, hi0, hi1]
    generalize hy : vs[i - 1] = y at hB hp0
    have hB' : iad (some (76, 2, 40)) (.sl .sh (vs.map encB)) (some (i - 1)) = some (.ep [.lit (.string y.nm), .sl .sh (encAs y.vals)]) := hB
    clear hB
    cases hst : strLt y.nm x.nm with
    | false =>
     have hR' : r = false := by rw [← hR, hp0]; simp [upB, hv, hst]
     subst hR'
     simp only [go_sem, simprocAttr, g1, g8, g9, g10, hm, hg, hA', hB', hc, hv, hv1, d2, hst, rs]
    | true =>
     have hR' : (upB (prvB vs (i + 1)) (vs.drop (i + 1)) && (upL none ls && (!dd || decide (vs.length + ls.length = 0)))) = r := by rw [← hR, hp0, hpi]; simp [upB, hv, hst]
     simp only [go_sem, simprocAttr, g1, g8, g9, g10, hm, hg, hA', hB', hc, hv, hv1, d2, hst, hw]
     exact ih (vs.length - (i + 1)) (by omega) _ _ ⟨i + 1, rfl, by omega, hR', by simp only [go_sem, simprocAttr, g1], by simp only [go_sem, simprocAttr, g8], by simp only [go_sem, simprocAttr, g9], by simp only [go_sem, simprocAttr], by simp only [go_sem, simprocAttr, hm, hg], by simp only [go_sem, simprocAttr, hm] <;> omega⟩
 ·have d1 : decide ((i : Int) < (vs.length : Nat)) = false := by simp; omega
  rw [List.drop_of_length_le (by omega)] at hR
  have hR' : (upL none ls && (!dd || decide (vs.length + ls.length = 0))) = r := by rw [← hR]; simp [upB]
  clear hR ih
  simp only [go_sem, simprocAttr, g1, g8, g9, g10, hm, hg, d1, List.length_map]
  refine W_loop_ind (fun k e H => ∃ i : Nat, k = ls.length - i ∧ i ≤ ls.length ∧ (upL (prvL ls i) (ls.drop i) && (!dd || decide (vs.length + ls.length = 0))) = r ∧ gget .bad e 1 = .ptr 0 0 ∧ gget .bad e 37 = .sl .sh (ls.map encL) ∧ gget .bad e 38 = .lit (.int .i64 (ls.length : Nat)) ∧ gget .bad e 39 = .lit (.int .i64 (i : Nat)) ∧
    H.get 0 = some [.lit (.bool dd), .sl .sh (vs.map encB), .sl .sh (ls.map encL)] ∧ 1 ≤ H.next)
   ls.length ⟨0, rfl, by omega, hR', by simp only [go_sem, simprocAttr, g1], by simp only [go_sem, simprocAttr], by simp only [go_sem, simprocAttr], by simp only [go_sem, simprocAttr], by simp only [go_sem, simprocAttr, hm, hg], by simp only [go_sem, simprocAttr, hm] <;> omega⟩ ?_
  clear hg hm hnx g1 g8 g9 g10
  rintro k ih e H ⟨i, rfl, hle, hR, g1, g37, g38, g39, hg, hnx⟩
  obtain ⟨m, hm⟩ : ∃ m, H.next = m + 1 := ⟨H.next - 1, by omega⟩
  by_cases hlt : i < ls.length
  ·have d1 : decide ((i : Int) < (ls.length : Nat)) = true := by simp; omega
   have hw := wrap1 (show i + 1 ≤ 9223372036854775807 by unfold LA at hll; omega)
   have hA := iad_map (f := encL) (t := 83) (n := 4) (b := 64) (o := .sh) hlt (fun _ => rfl)
   rw [drop_at hlt] at hR
   have hfo := hL ls[i] (List.getElem_mem hlt)
   have hpi : prvL ls (i + 1) = some ls[i].atom := prvL_succ hlt
   generalize hx : ls[i] = x at hA hR hfo hpi
   have hA' : iad (some (83, 4, 64)) (.sl .sh (ls.map encL)) (some i) = some (.ep [.lit (.int .i64 x.atom.1), .lit (.int .i64 x.atom.2), .sl .sh (x.shape.fields.map encF), .sl .sh (encAs x.shape.proto)]) := hA
   clear hA
   have hc1 : ∀ H, calls Tryz.prog cfgR 70 [.agg [.lit (.int .i64 x.atom.1), .lit (.int .i64 x.atom.2)]] H = some (.ret (.lit (.bool (placeA x.atom))) H) := c_place x.atom
   have hc2 : ∀ H, calls Tryz.prog cfgR 71 [.agg [.sl .sh (x.shape.fields.map encF), .sl .sh (encAs x.shape.proto)]] H = some (.ret (.lit (.bool (mayS x.shape))) H) := c_objMay x.shape hfo
   simp only [go_sem, simprocAttr, g1, g37, g38, g39, hm, d1, hA']
   refine W_draw [(15, 22), (20, 22)] (by kernel_rfl) ?_
   cases hp : placeA x.atom with
   | false =>
    have hR' : r = false := by rw [← hR]; simp [upL, hp]
    subst hR'
    simp only [go_sem, simprocAttr, g1, g37, g38, g39, hm, hA', hc1, hc2, hp, rs]
   | true =>
    cases hv : mayS x.shape with
    | false =>
     have hR' : r = false := by rw [← hR]; simp [upL, hp, hv]
     subst hR'
     simp only [go_sem, simprocAttr, g1, g37, g38, g39, hm, hA', hc1, hc2, hp, hv, rs]
    | true =>
     by_cases hi0 : i = 0
     ·subst hi0
      have hR' : (upL (prvL ls (0 + 1)) (ls.drop (0 + 1)) && (!dd || decide (vs.length + ls.length = 0))) = r := by rw [← hR, hpi]; simp [upL, hp, hv, prvL]
      have d2 : decide ((0 : Int) < 0) = false := rfl
      simp only [go_sem, simprocAttr, g1, g37, g38, g39, hm, hA', hc1, hc2, hp, hv, d2] at hw ⊢
      exact ih (ls.length - (0 + 1)) (by omega) _ _ ⟨0 + 1, rfl, by omega, hR', by simp only [go_sem, simprocAttr, g1], by simp only [go_sem, simprocAttr, g37], by simp only [go_sem, simprocAttr, g38], by simp only [go_sem, simprocAttr, hw] <;> rfl, by simp only [go_sem, simprocAttr, hm, hg], by simp only [go_sem, simprocAttr, hm] <;> omega⟩
     ·have d2 : decide ((0 : Int) < (i : Nat)) = true := by simp; omega
      have hv1 := wrapD (show 0 < i by omega) (by unfold LA at hll; omega)
      have hi1 : i - 1 < ls.length := by omega
      have hB := iad_map (f := encL) (t := 83) (n := 4) (b := 64) (o := .sh) hi1 (fun _ => rfl)
      have hp0 : prvL ls i = some ls[i - 1].atom := by simp [prvL, hi0, hi1]
      generalize hy : ls[i - 1] = y at hB hp0
      have hB' : iad (some (83, 4, 64)) (.sl .sh (ls.map encL)) (some (i - 1)) = some (.ep [.lit (.int .i64 y.atom.1), .lit (.int .i64 y.atom.2), .sl .sh (y.shape.fields.map encF), .sl .sh (encAs y.shape.proto)]) := hB
      clear hB
      have hc3 : ∀ H, calls Tryz.prog cfgR 72 [.agg [.lit (.int .i64 y.atom.1), .lit (.int .i64 y.atom.2)], .agg [.lit (.int .i64 x.atom.1), .lit (.int .i64 x.atom.2)]] H = some (.ret (.lit (.int .i64 (cmpA y.atom x.atom))) H) := rc_compare y.atom x.atom
      cases hst : ltA y.atom x.atom with
      | false =>
       have hR' : r = false := by rw [← hR, hp0]; simp [upL, hp, hv, hst]
       subst hR'
       simp only [go_sem, simprocAttr, g1, g37, g38, g39, hm, hg, hA', hB', hc1, hc2, hc3, geq_cmp, hp, hv, hv1, d2, hst, rs]
      | true =>
       have hR' : (upL (prvL ls (i + 1)) (ls.drop (i + 1)) && (!dd || decide (vs.length + ls.length = 0))) = r := by rw [← hR, hp0, hpi]; simp [upL, hp, hv, hst]
       simp only [go_sem, simprocAttr, g1, g37, g38, g39, hm, hg, hA', hB', hc1, hc2, hc3, geq_cmp, hp, hv, hv1, d2, hst, hw]
       exact ih (ls.length - (i + 1)) (by omega) _ _ ⟨i + 1, rfl, by omega, hR', by simp only [go_sem, simprocAttr, g1], by simp only [go_sem, simprocAttr, g37], by simp only [go_sem, simprocAttr, g38], by simp only [go_sem, simprocAttr], by simp only [go_sem, simprocAttr, hm, hg], by simp only [go_sem, simprocAttr, hm] <;> omega⟩
  ·have d1 : decide ((i : Int) < (ls.length : Nat)) = false := by simp; omega
   rw [List.drop_of_length_le (by omega)] at hR
   have hR' : (!dd || decide (vs.length + ls.length = 0)) = r := by rw [← hR]; simp [upL]
   have hws : IntKind.i64.wrap ((vs.length : Int) + (ls.length : Nat)) = ((vs.length + ls.length : Nat) : Int) := by rw [wrapI (by unfold LA at hvl hll; omega)]; omega
   have hd3 : decide ((((vs.length + ls.length : Nat)) : Int) = 0) = decide (vs.length + ls.length = 0) := decide_eq_decide.2 (by omega)
   cases dd with
   | false =>
    have hR2 : r = true := by rw [← hR']; rfl
    subst hR2
    simp only [go_sem, simprocAttr, g1, g37, g38, g39, hm, hg, d1, rs]
   | true =>
    have hR2 : decide (vs.length + ls.length = 0) = r := by rw [← hR']; rfl
    simp only [go_sem, simprocAttr, g1, g37, g38, g39, hm, hg, d1, rs, List.length_map, hws, hd3, hR2]
end Go.Proofs.YtnoahchdmkpleaaGreat.VA

/-! Ar2 -/
namespace Go.Proofs.YtnoahchdmkpleaaGreat.VA
open Go Go.RowKit
set_option linter.unusedSimpArgs false

/-- A list that is nil, or an array behind a number. -/
def ArrOf (H : Heap) (lo : Nat) (A : AV) (sz : Nat) (es : List (List AV)) : Prop :=
 (A = .sl .nil [] ∧ es = []) ∨ ∃ r, A = .ar r 0 es.length sz ∧ es ≠ [] ∧ H.get r = some es.flatten ∧ lo ≤ r ∧ r < H.next
def arrUs (A : AV) (id : Nat) (cs : List AV) : List U :=
 match A with
 | .ar r _ _ _ => [.del r, .box id cs]
 | _ => [.box id cs]
def arrRs (A : AV) : List Nat :=
 match A with
 | .ar r _ _ _ => [r]
 | _ => []
def arrNo (A : AV) (k : Nat) : Prop :=
 match A with
 | .ar r _ _ _ => r ≠ k
 | _ => True
theorem arrUs_next (A : AV) (id : Nat) (cs : List AV) (H : Heap) : (appU H (arrUs A id cs)).next = H.next := by cases A <;> rfl
attribute [go_sem] arrUs_next
theorem arrUs_ho {A : AV} {id k : Nat} {cs : List AV} {H : Heap} (h1 : id ≠ k) (h2 : arrNo A k) : (appU H (arrUs A id cs)).ho k = H.ho k := by
 cases A with
 | ar r lo n sz =>
  have h2' : r ≠ k := h2
  simp [arrUs, appU, U.app, Heap.put, Heap.set, Heap.del, h1, h2']
 | _ => simp [arrUs, appU, U.app, Heap.put, Heap.set, h1]
theorem arrUs_get {A : AV} {id k : Nat} {cs : List AV} {H : Heap} (h1 : id ≠ k) (h2 : arrNo A k) : (appU H (arrUs A id cs)).get k = H.get k := by
 rw [Heap.get, Heap.get, arrUs_ho h1 h2]
theorem arrUs_new (A : AV) (id : Nat) (cs : List AV) (H : Heap) : (appU H (arrUs A id cs)).get id = some cs := by
 cases A <;> simp [arrUs, appU, U.app]
theorem ArrOf.no {H : Heap} {lo : Nat} {A : AV} {sz : Nat} {es : List (List AV)} (h : ArrOf H lo A sz es) {k : Nat} (hk : k < lo) : arrNo A k := by
 rcases h with ⟨rfl, _⟩ | ⟨r, rfl, _, _, h4, _⟩
 ·trivial
 ·show r ≠ k; omega
theorem ArrOf.no' {H : Heap} {lo : Nat} {A : AV} {sz : Nat} {es : List (List AV)} (h : ArrOf H lo A sz es) {k : Nat} (hk : H.next ≤ k) : arrNo A k := by
 rcases h with ⟨rfl, _⟩ | ⟨r, rfl, _, _, _, h5⟩
 ·trivial
 ·show r ≠ k; omega
theorem ArrOf.of {H H' : Heap} {lo : Nat} {A : AV} {sz : Nat} {es : List (List AV)} (h : ArrOf H lo A sz es) (hn : H.next ≤ H'.next) (hk : ∀ k, lo ≤ k → k < H.next → H'.get k = H.get k) : ArrOf H' lo A sz es := by
 rcases h with h | ⟨r, h1, h2, h3, h4, h5⟩
 ·exact .inl h
 ·exact .inr ⟨r, h1, h2, by rw [hk r h4 h5]; exact h3, h4, by omega⟩
theorem ArrOf.new {H : Heap} {lo id sz : Nat} {es : List (List AV)} (h0 : es ≠ []) (h1 : H.get id = some es.flatten) (h2 : lo ≤ id) (h3 : id < H.next) : ArrOf H lo (.ar id 0 es.length sz) sz es :=
 .inr ⟨id, rfl, h0, h1, h2, h3⟩
/-- What an array's number names. -/
def arrGet (A : AV) (H : Heap) : Option (List AV) :=
 match A with
 | .ar r _ _ _ => H.get r
 | _ => none
@[go_sem] theorem arrGet_up (A : AV) (H : Heap) (n : Nat) : arrGet A (H.up n) = arrGet A H := by cases A <;> rfl
@[go_sem] theorem arrGet_put {A : AV} {H : Heap} {b : Nat} {cs : List AV} (h : arrNo A b) : arrGet A (H.put b cs) = arrGet A H := by
 cases A with
 | ar r lo n sz =>
  have h' : r ≠ b := h
  simp only [arrGet, Heap.get_put]; rw [if_neg (fun e => h' e.symm)]
 | _ => rfl
theorem ArrOf.mono {H : Heap} {lo lo' : Nat} {A : AV} {sz : Nat} {es : List (List AV)} (h : ArrOf H lo A sz es) (hl : lo' ≤ lo) : ArrOf H lo' A sz es := by
 rcases h with h | ⟨r, h1, h2, h3, h4, h5⟩
 ·exact .inl h
 ·exact .inr ⟨r, h1, h2, h3, by omega, h5⟩
theorem ArrOf.one {H : Heap} {lo : Nat} {A : AV} {sz : Nat} {es : List (List AV)} (h : ArrOf H lo A sz es) : A.one = true := by
 rcases h with ⟨rfl, _⟩ | ⟨r, rfl, _⟩ <;> rfl
theorem frz_arr {H' : Heap} {lo : Nat} {A : AV} {sz : Nat} {es : List (List AV)} (h : ArrOf H' lo A sz es) (hu : Unif sz es) (h1 : es.flatten.all AV.one = true) : san (frz H' A) = .sl .sh (sanLL es) := by
 rcases h with ⟨rfl, rfl⟩ | ⟨r, rfl, h2, h3, h4, h5⟩
 ·rfl
 ·simp only [frz, h3]
  rw [if_pos ⟨by rw [flat_len hu, Nat.zero_add]; exact Nat.le_refl _, h1⟩, Nat.zero_mul, List.drop_zero, chunk_flat _ hu (Nat.le_refl _), List.take_of_length_le (Nat.le_refl _)]
  rfl
/-- Appending one element. -/
theorem app_arr {P : Program} {t e : TypeId} {sz b : Nat} {H H' : Heap} {lo : Nat} {A : AV} {es : List (List AV)} {x : List AV} {o : Own} (ht : tElem P t = some (e, sz, b)) (hm : mutT e = true) (hs : 0 < sz) (hz : zeroOk P e sz = true)
  (hb : (es.length + 1) * b ≤ 140737488355328) (hl : es.length + 1 ≤ 140737488355328) (hx : x.length = sz) (h1 : x.all AV.one = true) (hu : Unif sz es) (h : ArrOf H lo A sz es) (id : Nat) (hg : arrGet A H' = arrGet A H) :
  aAppend P t A (.sl o [x]) H' id = some (.ar id 0 (es.length + 1) sz, arrUs A id (es ++ [x]).flatten, arrRs A) := by
 rcases h with ⟨rfl, rfl⟩ | ⟨r, rfl, h2, h3, h4, h5⟩
 ·have := append_nilA (P := P) (H := H') (id := id) (o := o) (y := x) (xs := []) ht hm hs hz (by simpa using hb) (by simp) (fun y hy => by simp at hy; subst hy; exact hx)
  rw [this]; rfl
 ·have hn : newsA sz H' (.sl o [x]) = some (x, 1, []) := by
   have := news_sl (H := H') (o := o) (sz := sz) (xs := [x]) (fun e he => by simp at he; subst he; exact hx)
   rw [this]; simp
  have hg' : H'.get r = some es.flatten := by rw [← h3]; exact hg
  rw [append_arN (P := P) ht hg' hn (by omega) hs hz hb hl h1 (by rw [flat_len hu])]
  simp [arrUs, arrRs]
end Go.Proofs.YtnoahchdmkpleaaGreat.VA

/-! Co1 -/
namespace Go.Proofs.YtnoahchdmkpleaaGreat.VA
open Go Go.RowKit
attribute [local go_sem] Nat.add_eq_left Nat.left_eq_add true_and and_true ite_true if_false Int.cast_ofNat_Int eq_self Nat.add_assoc Option.some.injEq decide_true decide_false Bool.not_true Bool.not_false List.size_toArray List.length_cons List.length_nil
set_option linter.unusedSimpArgs false
set_option maxRecDepth 100000

/-- The table for object.Copy. -/
noncomputable def cfgO : Cfg := mkC Tryz.prog [75] [] [75] [(74, tClone)] []
theorem cfgO_ok : CfgOk Tryz.prog Cond.none cfgO := mkC_ok (by kernel_rfl) (by kernel_rfl) (by
 intro p hp
 simp only [List.mem_cons, List.not_mem_nil, or_false] at hp
 subst hp
 exact tClone_ok _) (by simp)
@[go_sem] theorem cfgO_imp (f : FuncId) : cfgO.imp f = false := rfl
theorem tClone_atm {c : Cfg} (ht : c.told 74 = some tClone) (d : List (Int × Int)) (hl : d.length ≤ LA) (o : Own) (H : Heap) :
  calls Tryz.prog c 74 [.sl o (encAs d)] H = some (.ret (.sl .sh (encAs d)) H) := by
 refine calls_told (h := tClone) ht ?_ H
 show tClone [.sl .sh (sanLL (encAs d))] = _
 rw [sanLL_encAs]
 unfold tClone
 simp only
 rw [if_pos ⟨List.all_eq_true.2 fun e he => by simpa using encAs_unif d e he, by rw [encAs_len]; exact hl⟩]
theorem F_unif (l : List Fd) : Unif 3 (l.map encF) := Unif.map (f := encF) (fun _ => rfl) l
theorem F_one (f : Fd) : (encF f).all AV.one = true := rfl
theorem F_ones (l : List Fd) : ((l.map encF).flatten).all AV.one = true := by
 induction l with
 | nil => rfl
 | cons x l ih => rw [List.map_cons, List.flatten_cons, List.all_append, ih]; rfl
theorem c_objCopy (s : Sh) (hs : ShOk s) (H : Heap) : calls Tryz.prog cfgO 75 [.agg (encSh s)] H = some (.ret (.agg (encSh s)) H) := by
 refine calls_frz (fn := Tryz.f75) rfl rfl rfl rfl rfl ?_ H
 have rs : Tryz.f75.results.toList = [.cell 2 79] := rfl
 obtain ⟨fs, pr⟩ := s
 obtain ⟨hf, hfl, hpl⟩ := hs
 simp only at hf hfl hpl
 have hcp : ∀ H, calls Tryz.prog cfgO 74 [.sl .sh (encAs pr)] H = some (.ret (.sl .sh (encAs pr)) H) := tClone_atm rfl pr (by omega) .sh
 unfold encSh
 simp only [go_sem, simprocAttr, rs, hcp, List.length_map]
 refine W_loop_ind (fun k e H => ∃ (i : Nat) (A : AV), k = fs.length - i ∧ i ≤ fs.length ∧ gget .bad e 2 = .ptr 1 0 ∧ gget .bad e 3 = .ptr 6 0 ∧ gget .bad e 11 = .sl .sh (fs.map encF) ∧ gget .bad e 12 = .lit (.int .i64 (fs.length : Nat)) ∧ gget .bad e 13 = .lit (.int .i64 (i : Nat)) ∧
   H.get 1 = some [.sl .nil [], .sl .nil []] ∧ H.get 6 = some [A, .sl .sh (encAs pr)] ∧ ArrOf H 8 A 3 ((fs.take i).map encF) ∧ 8 ≤ H.next)
  fs.length ⟨0, .sl .nil [], rfl, by omega, by simp only [go_sem, simprocAttr], by simp only [go_sem, simprocAttr], by simp only [go_sem, simprocAttr], by simp only [go_sem, simprocAttr], by simp only [go_sem, simprocAttr], by simp only [go_sem, simprocAttr], by simp only [go_sem, simprocAttr], .inl ⟨rfl, by simp⟩, by simp only [go_sem, simprocAttr] <;> omega⟩ ?_
 rintro k ih e H ⟨i, A, rfl, hle, g2, g3, g11, g12, g13, h1, h6, hA, hnx⟩
 obtain ⟨m, hm⟩ : ∃ m, H.next = m + 8 := ⟨H.next - 8, by omega⟩
 by_cases hlt : i < fs.length
 ·have d1 : decide ((i : Int) < (fs.length : Nat)) = true := by simp; omega
  have hw := wrap1 (show i + 1 ≤ 9223372036854775807 by unfold LA at hfl; omega)
  have hI := iad_map (f := encF) (t := 85) (n := 3) (b := 48) (o := .sh) hlt (fun _ => rfl)
  have hfo := hf fs[i] (List.getElem_mem hlt)
  have htk : (fs.take (i + 1)).map encF = (fs.take i).map encF ++ [encF fs[i]] := by rw [List.take_succ_eq_append_getElem hlt, List.map_append]; rfl
  generalize hx : fs[i] = x at hI hfo htk
  have hI' : iad (some (85, 3, 48)) (.sl .sh (fs.map encF)) (some i) = some (.ep [.lit (.string x.nm), .lit (.bool x.sure), .sl .sh (encAs x.vals)]) := hI
  clear hI
  have hc : ∀ H, calls Tryz.prog cfgO 74 [.sl .sh (encAs x.vals)] H = some (.ret (.sl .sh (encAs x.vals)) H) := tClone_atm rfl x.vals (by unfold FOk at hfo; omega) .sh
  have hb : aBuildSlice Tryz.prog 77 1 [(0, .agg [.lit (.string x.nm), .lit (.bool x.sure), .sl .sh (encAs x.vals)])] = some (.sl .ex [[.lit (.string x.nm), .lit (.bool x.sure), .sl .sh (encAs x.vals)]]) := build1 el_sFld (by decide) zr_fld rfl rfl _ rfl rfl
  have hlen : ((fs.take i).map encF).length = i := by rw [List.length_map, List.length_take]; omega
  have hap : ∀ H' id, arrGet A H' = arrGet A H → aAppend Tryz.prog 77 A (.sl .ex [[.lit (.string x.nm), .lit (.bool x.sure), .sl .sh (encAs x.vals)]]) H' id = some (.ar id 0 (i + 1) 3, arrUs A id ((fs.take (i + 1)).map encF).flatten, arrRs A) := by
   intro H' id hg
   have := app_arr (P := Tryz.prog) (x := encF x) (o := .ex) el_sFld rfl (by decide) zo_sFld (by rw [hlen]; unfold LA at hfl; omega) (by rw [hlen]; unfold LA at hfl; omega) rfl (F_one x) (F_unif _) hA id hg
   rw [hlen, ← htk] at this
   exact this
  have n11 : arrNo A (m + 11) := hA.no' (by omega)
  have hg6 : ∀ (H' : Heap) (cs : List AV), (appU H' (arrUs A (m + 22) cs)).get 6 = H'.get 6 := fun H' cs => arrUs_get (by omega) (hA.no (by decide))
  have hg1 : ∀ (H' : Heap) (cs : List AV), (appU H' (arrUs A (m + 22) cs)).get 1 = H'.get 1 := fun H' cs => arrUs_get (by omega) (hA.no (by decide))
  simp only [go_sem, simprocAttr, g2, g3, g11, g12, g13, h1, h6, hm, d1, hw, hI', hc, hb, hap, n11, hg6]
  exact ih (fs.length - (i + 1)) (by omega) _ _ ⟨i + 1, .ar (m + 22) 0 (i + 1) 3, rfl, by omega, by simp only [go_sem, simprocAttr, g2], by simp only [go_sem, simprocAttr, g3], by simp only [go_sem, simprocAttr, g11], by simp only [go_sem, simprocAttr, g12], by simp only [go_sem, simprocAttr], by simp only [go_sem, simprocAttr, hm, h1, hg1], by simp only [go_sem, simprocAttr],
   .inr ⟨m + 22, by rw [List.length_map, List.length_take, Nat.min_eq_left (by omega)], by rw [htk]; simp, by simp only [go_sem, simprocAttr, hm, arrUs_new], by omega, by simp only [go_sem, simprocAttr, hm] <;> omega⟩, by simp only [go_sem, simprocAttr, hm] <;> omega⟩
 ·have d1 : decide ((i : Int) < (fs.length : Nat)) = false := by simp; omega
  rw [List.take_of_length_le (by omega)] at hA
  have hA1 := hA.one
  simp only [go_sem, simprocAttr, g2, g3, g11, g12, g13, h1, h6, hm, d1, rs, hA1]
  refine ⟨_, rfl, ?_⟩
  have hfr := frz_arr (H' := ((H.up 1).up 2).put 1 [A, .sl .sh (encAs pr)]) (hA.of (H' := ((H.up 1).up 2).put 1 [A, .sl .sh (encAs pr)]) (by simp only [go_sem, simprocAttr] <;> omega) (fun k h1 h2 => by rw [Heap.get_put, if_neg (by omega)]; rfl)) (F_unif fs) (F_ones fs)
  rw [sanLL_F] at hfr
  have hsp : frz (((H.up 1).up 2).put 1 [A, .sl .sh (encAs pr)]) (.sl .sh (encAs pr)) = .sl .sh (encAs pr) := rfl
  simp only [oneOr, frz, frzL, san, sanL, hfr, hsp, sanLL_encAs]
end Go.Proofs.YtnoahchdmkpleaaGreat.VA

/-! Co2 -/
namespace Go.Proofs.YtnoahchdmkpleaaGreat.VA
open Go Go.RowKit
attribute [local go_sem] Nat.add_eq_left Nat.left_eq_add true_and and_true ite_true if_false Int.cast_ofNat_Int eq_self Nat.add_assoc Option.some.injEq decide_true decide_false Bool.not_true Bool.not_false List.size_toArray List.length_cons List.length_nil
set_option linter.unusedSimpArgs false
set_option maxRecDepth 100000

theorem Frm.arr {H H1 : Heap} (h : Frm H H1) {A : AV} {id : Nat} {cs : List AV} (h1 : H.next ≤ id) (h2 : ∀ k, k < H.next → arrNo A k) : Frm H (appU H1 (arrUs A id cs)) :=
 ⟨by rw [arrUs_next]; exact h.nx, fun k hk => by rw [arrUs_ho (by omega) (h2 k hk)]; exact h.ho k hk⟩
/-- Two lists that are not one array. -/
def ArrDis (A B : AV) : Prop :=
 match A with
 | .ar r _ _ _ => arrNo B r
 | _ => True
theorem B_unif (l : List Bnd) : Unif 2 (l.map encB) := Unif.map (f := encB) (fun _ => rfl) l
theorem B_ones (l : List Bnd) : ((l.map encB).flatten).all AV.one = true := by
 induction l with
 | nil => rfl
 | cons x l ih => rw [List.map_cons, List.flatten_cons, List.all_append, ih]; rfl
theorem L_unif (l : List Lc) : Unif 4 (l.map encL) := Unif.map (f := encL) (fun _ => rfl) l
theorem L_ones (l : List Lc) : ((l.map encL).flatten).all AV.one = true := by
 induction l with
 | nil => rfl
 | cons x l ih => rw [List.map_cons, List.flatten_cons, List.all_append, ih]; rfl
theorem t_objCopy {c : Cfg} (hoc : c.told 75 = some (toldBy Tryz.prog cfgO 75)) (s : Sh) (hs : ShOk s) (H : Heap) : calls Tryz.prog c 75 [.agg [.sl .sh (s.fields.map encF), .sl .sh (encAs s.proto)]] H = some (.ret (.agg [.sl .sh (s.fields.map encF), .sl .sh (encAs s.proto)]) H) :=
 calls_by hoc (fun H => by
  have e : sanL [AV.agg [.sl .sh (s.fields.map encF), .sl .sh (encAs s.proto)]] = [.agg (encSh s)] := by simp only [sanL, san, sanLL_F, sanLL_encAs]; rfl
  rw [e]; exact c_objCopy s hs H) (by simp only [san, sanL, sanLL_F, sanLL_encAs]) H
theorem copy_W {c : Cfg} (hcl : c.told 74 = some tClone) (hoc : c.told 75 = some (toldBy Tryz.prog cfgO 75))
  (hi1 : c.imp 74 = false) (hi2 : c.imp 75 = false) (s : Sta) (hs : StOk s) (H0 : Heap) {R : AV → Heap → Prop}
  (hR : ∀ A B H', Frm H0 H' → ArrOf H' H0.next A 2 (s.vars.map encB) → ArrOf H' H0.next B 4 (s.locs.map encL) → ArrDis A B → R (.agg [.lit (.bool s.dead), A, B]) H')
  {code : Code} (hb : Tryz.f48.body = some code) (hno : c.imp hoF = false := by rfl) : W Tryz.prog c code [] [.agg (encSt s)] H0 (RetAQ Tryz.prog Tryz.f48.results.toList R) := by
 obtain rfl := Option.some.inj hb
 have rs : Tryz.f48.results.toList = [.cell 2 26] := rfl
 obtain ⟨dd, vs, ls⟩ := s
 obtain ⟨hv, hvl, hL, hll⟩ := hs
 simp only at hv hvl hL hll hR
 generalize hN : H0.next = N at hR
 have z1 : ¬ N + 1 = N := by omega
 have z5 : ¬ N + 5 = N := by omega
 have z51 : ¬ N + 5 = N + 1 := by omega
 unfold encSt
 simp only [go_sem, simprocAttr, rs, hN, List.length_map, Nat.add_zero, z1, z5, z51]
 refine W_loop_ind (fun k e H => ∃ (i : Nat) (A : AV), k = vs.length - i ∧ i ≤ vs.length ∧ gget .bad e 1 = .ptr N 0 ∧ gget .bad e 2 = .ptr (N + 1) 0 ∧ gget .bad e 3 = .ptr (N + 5) 0 ∧ gget .bad e 12 = .sl .sh (vs.map encB) ∧ gget .bad e 13 = .lit (.int .i64 (vs.length : Nat)) ∧ gget .bad e 14 = .lit (.int .i64 (i : Nat)) ∧
   H.get N = some [.lit (.bool dd), .sl .sh (vs.map encB), .sl .sh (ls.map encL)] ∧ H.get (N + 1) = some [.lit (.bool false), .sl .nil [], .sl .nil []] ∧ H.get (N + 5) = some [.lit (.bool dd), A, .sl .nil []] ∧ ArrOf H (N + 7) A 2 ((vs.take i).map encB) ∧ N + 7 ≤ H.next ∧ Frm H0 H)
  vs.length ⟨0, .sl .nil [], rfl, by omega, by simp only [go_sem, simprocAttr], by simp only [go_sem, simprocAttr], by simp only [go_sem, simprocAttr], by simp only [go_sem, simprocAttr], by simp only [go_sem, simprocAttr], by simp only [go_sem, simprocAttr], by simp only [go_sem, simprocAttr, z1, z5, z51], by simp only [go_sem, simprocAttr, z1, z5, z51], by simp only [go_sem, simprocAttr, z1, z5, z51], .inl ⟨rfl, by simp⟩, by simp only [go_sem, simprocAttr, hN] <;> omega,
   by repeat (first | exact Frm.refl _ | refine Frm.up ?_ _ | refine Frm.put ?_ _ (by omega))⟩ ?_
 rintro k ih e H ⟨i, A, rfl, hle, g1, g2, g3, g12, g13, g14, h0, h1, h5, hA, hnx, hF⟩
 obtain ⟨m, hm⟩ : ∃ m, H.next = m := ⟨_, rfl⟩
 have n0 : ∀ j, ¬ m + j = N := fun j => by omega
 have n1 : ∀ j, ¬ m + j = N + 1 := fun j => by omega
 have n5 : ∀ j, ¬ m + j = N + 5 := fun j => by omega
 have q5 : ∀ j, ¬ N + 5 = m + j := fun j => by omega
 by_cases hlt : i < vs.length
 ·have d1 : decide ((i : Int) < (vs.length : Nat)) = true := by simp; omega
  have hw := wrap1 (show i + 1 ≤ 9223372036854775807 by unfold LA at hvl; omega)
  have hI := iad_map (f := encB) (t := 76) (n := 2) (b := 40) (o := .sh) hlt (fun _ => rfl)
  have hfo := hv vs[i] (List.getElem_mem hlt)
  have htk : (vs.take (i + 1)).map encB = (vs.take i).map encB ++ [encB vs[i]] := by rw [List.take_succ_eq_append_getElem hlt, List.map_append]; rfl
  generalize hx : vs[i] = x at hI hfo htk
  have hI' : iad (some (76, 2, 40)) (.sl .sh (vs.map encB)) (some i) = some (.ep [.lit (.string x.nm), .sl .sh (encAs x.vals)]) := hI
  clear hI
  have hc : ∀ H, calls Tryz.prog c 74 [.sl .sh (encAs x.vals)] H = some (.ret (.sl .sh (encAs x.vals)) H) := tClone_atm hcl x.vals (by unfold BOk at hfo; omega) .sh
  have hb : aBuildSlice Tryz.prog 23 1 [(0, .agg [.lit (.string x.nm), .sl .sh (encAs x.vals)])] = some (.sl .ex [[.lit (.string x.nm), .sl .sh (encAs x.vals)]]) := build1 el_sBnd (by decide) zr_bind rfl rfl _ rfl rfl
  have hlen : ((vs.take i).map encB).length = i := by rw [List.length_map, List.length_take]; omega
  have hap : ∀ H' id, arrGet A H' = arrGet A H → aAppend Tryz.prog 23 A (.sl .ex [[.lit (.string x.nm), .sl .sh (encAs x.vals)]]) H' id = some (.ar id 0 (i + 1) 2, arrUs A id ((vs.take (i + 1)).map encB).flatten, arrRs A) := by
   intro H' id hg
   have := app_arr (P := Tryz.prog) (x := encB x) (o := .ex) el_sBnd rfl (by decide) zo_sBnd (by rw [hlen]; unfold LA at hvl; omega) (by rw [hlen]; unfold LA at hvl; omega) rfl rfl (B_unif _) hA id hg
   rw [hlen, ← htk] at this
   exact this
  simp only [go_sem, simprocAttr, g1, g2, g3, g12, g13, g14, h0, h1, h5, hm, d1, hI']
  refine W_draw [(1, 3), (1, 5), (3, 5), (1, 6), (3, 6)] (by kernel_rfl) ?_ hno
  have hno : ∀ j, arrNo A (m + j) := fun j => hA.no' (by omega)
  have hgN : ∀ (H' : Heap) (j : Nat) (cs : List AV), (appU H' (arrUs A (m + j) cs)).get N = H'.get N := fun H' j cs => arrUs_get (by omega) (hA.no (by omega))
  have hg1 : ∀ (H' : Heap) (j : Nat) (cs : List AV), (appU H' (arrUs A (m + j) cs)).get (N + 1) = H'.get (N + 1) := fun H' j cs => arrUs_get (by omega) (hA.no (by omega))
  have hg5 : ∀ (H' : Heap) (j : Nat) (cs : List AV), (appU H' (arrUs A (m + j) cs)).get (N + 5) = H'.get (N + 5) := fun H' j cs => arrUs_get (by omega) (hA.no (by omega))
  simp only [go_sem, simprocAttr, g1, g2, g3, g12, g13, g14, h0, h1, h5, hm, hw, hI', hc, hb, hap, hno, hg5, hi1, n5, q5]
  have hap2 := fun (H' : Heap) (cs : List AV) => arrUs_new A (m + 14) cs H'
  refine ih (vs.length - (i + 1)) (by omega) _ _ ⟨i + 1, .ar (m + 14) 0 (i + 1) 2, rfl, by omega, by simp only [go_sem, simprocAttr, g1], by simp only [go_sem, simprocAttr, g2], by simp only [go_sem, simprocAttr, g3], by simp only [go_sem, simprocAttr, g12], by simp only [go_sem, simprocAttr, g13], by simp only [go_sem, simprocAttr], ?_, ?_, ?_, ?_, ?_, ?_⟩
  ·simp only [go_sem, simprocAttr, hgN, h0, n0, z5]
  ·simp only [go_sem, simprocAttr, hg1, h1, n1, z51]
  ·simp only [go_sem, simprocAttr]
  ·exact .inr ⟨m + 14, by rw [List.length_map, List.length_take, Nat.min_eq_left (by omega)], by rw [htk]; simp, by simp only [go_sem, simprocAttr, q5, hap2], by omega, by simp only [go_sem, simprocAttr, hm] <;> omega⟩
  ·simp only [go_sem, simprocAttr, hm] <;> omega
  ·repeat (first | exact hF | refine Frm.up ?_ _ | refine Frm.put ?_ _ (by omega) | refine Frm.arr ?_ (by omega) (fun k hk => hA.no (by omega)))
 ·have d1 : decide ((i : Int) < (vs.length : Nat)) = false := by simp; omega
  rw [List.take_of_length_le (by omega)] at hA
  simp only [go_sem, simprocAttr, g1, g2, g3, g12, g13, g14, h0, h1, h5, hm, d1, List.length_map]
  refine W_loop_ind (fun k e K => ∃ (i : Nat) (B : AV), k = ls.length - i ∧ i ≤ ls.length ∧ gget .bad e 2 = .ptr (N + 1) 0 ∧ gget .bad e 3 = .ptr (N + 5) 0 ∧ gget .bad e 31 = .sl .sh (ls.map encL) ∧ gget .bad e 32 = .lit (.int .i64 (ls.length : Nat)) ∧ gget .bad e 33 = .lit (.int .i64 (i : Nat)) ∧
    K.get (N + 1) = some [.lit (.bool false), .sl .nil [], .sl .nil []] ∧ K.get (N + 5) = some [.lit (.bool dd), A, B] ∧ ArrOf K m B 4 ((ls.take i).map encL) ∧ m ≤ K.next ∧ Frm H0 K ∧ ∀ k, N + 7 ≤ k → k < m → K.get k = H.get k)
   ls.length ⟨0, .sl .nil [], rfl, by omega, by simp only [go_sem, simprocAttr, g2], by simp only [go_sem, simprocAttr, g3], by simp only [go_sem, simprocAttr], by simp only [go_sem, simprocAttr], by simp only [go_sem, simprocAttr], by simp only [go_sem, simprocAttr, h1], by simp only [go_sem, simprocAttr, h5], .inl ⟨rfl, by simp⟩, by simp only [go_sem, simprocAttr, hm] <;> omega,
    by repeat (first | exact hF | refine Frm.up ?_ _), fun k _ _ => rfl⟩ ?_
  clear ih g1 g2 g3 g12 g13 g14 h0 h1 h5 hF n0 n1 n5 q5 d1 hlt
  rintro k ih e K ⟨i, B, rfl, hle, g2, g3, g31, g32, g33, h1, h5, hB, hmx, hF, hkp⟩
  obtain ⟨w, hw0⟩ : ∃ w, K.next = w := ⟨_, rfl⟩
  have n1 : ∀ j, ¬ w + j = N + 1 := fun j => by omega
  have n5 : ∀ j, ¬ w + j = N + 5 := fun j => by omega
  have q5 : ∀ j, ¬ N + 5 = w + j := fun j => by omega
  have hA1 := hA.one
  by_cases hlt : i < ls.length
  ·have d1 : decide ((i : Int) < (ls.length : Nat)) = true := by simp; omega
   have hw := wrap1 (show i + 1 ≤ 9223372036854775807 by unfold LA at hll; omega)
   have hI := iad_map (f := encL) (t := 83) (n := 4) (b := 64) (o := .sh) hlt (fun _ => rfl)
   have hfo := hL ls[i] (List.getElem_mem hlt)
   have htk : (ls.take (i + 1)).map encL = (ls.take i).map encL ++ [encL ls[i]] := by rw [List.take_succ_eq_append_getElem hlt, List.map_append]; rfl
   generalize hx : ls[i] = x at hI hfo htk
   have hI' : iad (some (83, 4, 64)) (.sl .sh (ls.map encL)) (some i) = some (.ep [.lit (.int .i64 x.atom.1), .lit (.int .i64 x.atom.2), .sl .sh (x.shape.fields.map encF), .sl .sh (encAs x.shape.proto)]) := hI
   clear hI
   have hc := t_objCopy hoc x.shape hfo
   have hb : aBuildSlice Tryz.prog 24 1 [(0, .agg [.lit (.int .i64 x.atom.1), .lit (.int .i64 x.atom.2), .sl .sh (x.shape.fields.map encF), .sl .sh (encAs x.shape.proto)])] =
     some (.sl .ex [[.lit (.int .i64 x.atom.1), .lit (.int .i64 x.atom.2), .sl .sh (x.shape.fields.map encF), .sl .sh (encAs x.shape.proto)]]) := build1 el_sLoc (by decide) zr_loc rfl rfl _ rfl rfl
   have hlen : ((ls.take i).map encL).length = i := by rw [List.length_map, List.length_take]; omega
   have hap : ∀ H' id, arrGet B H' = arrGet B K → aAppend Tryz.prog 24 B (.sl .ex [[.lit (.int .i64 x.atom.1), .lit (.int .i64 x.atom.2), .sl .sh (x.shape.fields.map encF), .sl .sh (encAs x.shape.proto)]]) H' id =
     some (.ar id 0 (i + 1) 4, arrUs B id ((ls.take (i + 1)).map encL).flatten, arrRs B) := by
    intro H' id hg
    have := app_arr (P := Tryz.prog) (x := encL x) (o := .ex) el_sLoc rfl (by decide) zo_sLoc (by rw [hlen]; unfold LA at hll; omega) (by rw [hlen]; unfold LA at hll; omega) rfl rfl (L_unif _) hB id hg
    rw [hlen, ← htk] at this
    exact this
   simp only [go_sem, simprocAttr, g2, g3, g31, g32, g33, h1, h5, hw0, d1, hI']
   refine W_draw [(1, 3), (1, 5), (3, 5), (1, 6), (3, 6)] (by kernel_rfl) ?_ hno
   have hno : ∀ j, arrNo B (w + j) := fun j => hB.no' (by omega)
   have hg1 : ∀ (H' : Heap) (j : Nat) (cs : List AV), (appU H' (arrUs B (w + j) cs)).get (N + 1) = H'.get (N + 1) := fun H' j cs => arrUs_get (by omega) (hB.no (by omega))
   have hg5 : ∀ (H' : Heap) (j : Nat) (cs : List AV), (appU H' (arrUs B (w + j) cs)).get (N + 5) = H'.get (N + 5) := fun H' j cs => arrUs_get (by omega) (hB.no (by omega))
   simp only [go_sem, simprocAttr, g2, g3, g31, g32, g33, h1, h5, hw0, hw, hI', hc, hb, hap, hno, hg5, hi2, n5, q5, hA1]
   have hap2 := fun (H' : Heap) (cs : List AV) => arrUs_new B (w + 14) cs H'
   refine ih (ls.length - (i + 1)) (by omega) _ _ ⟨i + 1, .ar (w + 14) 0 (i + 1) 4, rfl, by omega, by simp only [go_sem, simprocAttr, g2], by simp only [go_sem, simprocAttr, g3], by simp only [go_sem, simprocAttr, g31], by simp only [go_sem, simprocAttr, g32], by simp only [go_sem, simprocAttr], ?_, ?_, ?_, ?_, ?_, ?_⟩
   ·simp only [go_sem, simprocAttr, hg1, h1, n1, z51]
   ·simp only [go_sem, simprocAttr]
   ·exact .inr ⟨w + 14, by rw [List.length_map, List.length_take, Nat.min_eq_left (by omega)], by rw [htk]; simp, by simp only [go_sem, simprocAttr, q5, hap2], by omega, by simp only [go_sem, simprocAttr, hw0] <;> omega⟩
   ·simp only [go_sem, simprocAttr, hw0] <;> omega
   ·repeat (first | exact hF | refine Frm.up ?_ _ | refine Frm.put ?_ _ (by omega) | refine Frm.arr ?_ (by omega) (fun k hk => hB.no (by omega)))
   ·intro k hk1 hk2
    have e1 : ¬ N + 5 = k := by omega
    have e2 : ∀ j, ¬ w + j = k := fun j => by omega
    have e3 : ∀ (H' : Heap) (j : Nat) (cs : List AV), (appU H' (arrUs B (w + j) cs)).get k = H'.get k := fun H' j cs => arrUs_get (by omega) (hB.no hk2)
    simp only [go_sem, simprocAttr, e1, e2, e3, hkp k hk1 hk2]
  ·have d1 : decide ((i : Int) < (ls.length : Nat)) = false := by simp; omega
   rw [List.take_of_length_le (by omega)] at hB
   have hB1 := hB.one
   simp only [go_sem, simprocAttr, g2, g3, g31, g32, g33, h1, h5, hw0, d1, rs, hA1, hB1]
   refine ⟨_, rfl, hR A B _ ?_ ?_ ?_ ?_⟩
   ·repeat (first | exact hF | refine Frm.up ?_ _ | refine Frm.put ?_ _ (by omega))
   ·refine ((hA.of (H' := ((K.up 1).up 2).put (N + 1) [.lit (.bool dd), A, B]) (by simp only [go_sem, simprocAttr] <;> omega) (fun k h1 h2 => ?_))).mono (by omega)
    rw [Heap.get_put, if_neg (by omega)]
    exact hkp k h1 (by omega)
   ·refine ((hB.of (H' := ((K.up 1).up 2).put (N + 1) [.lit (.bool dd), A, B]) (by simp only [go_sem, simprocAttr] <;> omega) (fun k h1 h2 => ?_))).mono (by omega)
    rw [Heap.get_put, if_neg (by omega)]
    rfl
   ·rcases hA with ⟨rfl, _⟩ | ⟨r, rfl, _, _, _, h5⟩
    ·trivial
    ·exact hB.no (by omega)
end Go.Proofs.YtnoahchdmkpleaaGreat.VA

/-! Vr1 -/
namespace Go.Proofs.YtnoahchdmkpleaaGreat.VA
open Go Go.RowKit
set_option linter.unusedSimpArgs false
set_option maxRecDepth 100000

/-- The table for state.Copy as it is handed out. -/
noncomputable def cfgS : Cfg := mkC Tryz.prog [48] [] [48] [(74, tClone), (75, toldBy Tryz.prog cfgO 75)] []
theorem cfgS_ok : CfgOk Tryz.prog Cond.none cfgS := mkC_ok (by kernel_rfl) (by kernel_rfl) (by
 intro p hp
 simp only [List.mem_cons, List.not_mem_nil, or_false] at hp
 rcases hp with rfl | rfl
 ·exact tClone_ok _
 ·exact toldBy_ok cfgO_ok (fn := Tryz.f75) (by kernel_rfl) (by kernel_rfl) rfl) (by simp)
theorem c_copyS (s : Sta) (hs : StOk s) (H : Heap) : calls Tryz.prog cfgS 48 [.agg (encSt s)] H = some (.ret (.agg (encSt s)) H) := by
 refine calls_frz (fn := Tryz.f48) rfl rfl rfl rfl rfl ?_ H
 have e0 : sanL [AV.agg (encSt s)] = [.agg (encSt s)] := by simp only [sanL, san, sanL_encSt]
 rw [e0]
 refine copy_W (c := cfgS) rfl rfl rfl rfl s hs Heap.empty (fun A B H' h1 h2 h3 h4 => ?_) rfl
 have e1 : san (frz H' A) = .sl .sh (s.vars.map encB) := by rw [frz_arr h2 (B_unif _) (B_ones _), sanLL_B]
 have e2 : san (frz H' B) = .sl .sh (s.locs.map encL) := by rw [frz_arr h3 (L_unif _) (L_ones _), sanLL_L]
 simp only [frz, frzL, san, sanL, e1, e2]
 rfl
end Go.Proofs.YtnoahchdmkpleaaGreat.VA

/-! Ra5 -/
namespace Go.Proofs.YtnoahchdmkpleaaGreat.VA
open Go Go.RowKit
attribute [local go_sem] Nat.add_eq_left Nat.left_eq_add true_and and_true ite_true if_false Int.cast_ofNat_Int eq_self Nat.add_assoc Option.some.injEq decide_true decide_false Bool.not_true Bool.not_false List.size_toArray List.length_cons List.length_nil
set_option linter.unusedSimpArgs false
set_option maxRecDepth 100000

theorem c_rStaMay (s : Sta) (hs : StOk s) (H : Heap) : calls Tryz.prog cfgR 11 [.agg (encSt s)] H = some (.ret (.lit (.bool (mayT s))) H) := by
 refine calls_pure (fn := Tryz.f11) rfl rfl rfl rfl rfl ?_ H
 have rs : Tryz.f11.results.toList = [.tmp 2] := rfl
 obtain ⟨dd, vs, ls⟩ := s
 obtain ⟨hv, hvl, hL, hll⟩ := hs
 simp only at hv hvl hL hll
 generalize hr : mayT ⟨dd, vs, ls⟩ = r
 unfold mayT at hr
 simp only at hr
 unfold encSt
 simp only [go_sem, simprocAttr, rs, List.length_map]
 refine W_loop_ind (fun k e H => ∃ i : Nat, k = vs.length - i ∧ i ≤ vs.length ∧ (upB (prvB vs i) (vs.drop i) && (upL none ls && (!dd || decide (vs.length + ls.length = 0)))) = r ∧ gget .bad e 1 = .ptr 0 0 ∧ gget .bad e 3 = .lit (.int .i64 (i : Nat)) ∧
   H.get 0 = some [.lit (.bool dd), .sl .sh (vs.map encB), .sl .sh (ls.map encL)] ∧ 1 ≤ H.next)
  vs.length ⟨0, rfl, by omega, hr, by simp only [go_sem, simprocAttr], by simp only [go_sem, simprocAttr], by simp only [go_sem, simprocAttr], by simp only [go_sem, simprocAttr]⟩ ?_
 rintro k ih e H ⟨i, rfl, hle, hR, g1, g3, hg, hnx⟩
 obtain ⟨m, hm⟩ : ∃ m, H.next = m + 1 := ⟨H.next - 1, by omega⟩
 by_cases hlt : i < vs.length
 ·have d1 : decide ((i : Int) < (vs.length : Nat)) = true := by simp; omega
  have hw := wrap1 (show i + 1 ≤ 9223372036854775807 by unfold LA at hvl; omega)
  have hA := iad_map (f := encB) (t := 76) (n := 2) (b := 40) (o := .sh) hlt (fun _ => rfl)
  rw [drop_at hlt] at hR
  have hfo := hv vs[i] (List.getElem_mem hlt)
  have hpi : prvB vs (i + 1) = some vs[i].nm := prvB_succ hlt
  generalize hx : vs[i] = x at hA hR hfo hpi
  have hc : ∀ H, calls Tryz.prog cfgR 37 [.sl .sh (encAs x.vals)] H = some (.ret (.lit (.bool (mayA x.vals))) H) := c_rMay x.vals hfo .sh
  have hA' : iad (some (76, 2, 40)) (.sl .sh (vs.map encB)) (some i) = some (.ep [.lit (.string x.nm), .sl .sh (encAs x.vals)]) := hA
  clear hA
  simp only [go_sem, simprocAttr, g1, g3, hm, hg, d1, List.length_map]
  refine W_draw [(13, 20), (18, 20), (13, 24), (18, 24)] (by kernel_rfl) ?_
  cases hv : mayA x.vals with
  | false =>
   have hR' : r = false := by rw [← hR]; simp [upB, hv]
   subst hR'
   simp only [go_sem, simprocAttr, g1, g3, hm, hg, hA', hc, hv, rs]
  | true =>
   by_cases hi0 : i = 0
   ·subst hi0
    have hR' : (upB (prvB vs (0 + 1)) (vs.drop (0 + 1)) && (upL none ls && (!dd || decide (vs.length + ls.length = 0)))) = r := by rw [← hR, hpi]; simp [upB, hv, prvB]
    have d2 : decide ((0 : Int) < 0) = false := rfl
    simp only [go_sem, simprocAttr, g1, g3, hm, hg, hA', hc, hv, d2] at hw ⊢
    exact ih (vs.length - (0 + 1)) (by omega) _ _ ⟨0 + 1, rfl, by omega, hR', by simp only [go_sem, simprocAttr, g1], by simp only [go_sem, simprocAttr, hw] <;> rfl, by simp only [go_sem, simprocAttr, hm, hg], by simp only [go_sem, simprocAttr, hm] <;> omega⟩
   ·have d2 : decide ((0 : Int) < (i : Nat)) = true := by simp; omega
    have hv1 := wrapD (show 0 < i by omega) (by unfold LA at hvl; omega)
    have hi1 : i - 1 < vs.length := by omega
    have hB := iad_map (f := encB) (t := 76) (n := 2) (b := 40) (o := .sh) hi1 (fun _ => rfl)
    have hp0 : prvB vs i = some vs[i - 1].nm := by simp [prvB, hi0, hi1]
    generalize hy : vs[i - 1] = y at hB hp0
    have hB' : iad (some (76, 2, 40)) (.sl .sh (vs.map encB)) (some (i - 1)) = some (.ep [.lit (.string y.nm), .sl .sh (encAs y.vals)]) := hB
    clear hB
    cases hst : strLt y.nm x.nm with
    | false =>
     have hR' : r = false := by rw [← hR, hp0]; simp [upB, hv, hst]
     subst hR'
     simp only [go_sem, simprocAttr, g1, g3, hm, hg, hA', hB', hc, hv, hv1, d2, hst, rs]
    | true =>
     have hR' : (upB (prvB vs (i + 1)) (vs.drop (i + 1)) && (upL none ls && (!dd || decide (vs.length + ls.length = 0)))) = r := by rw [← hR, hp0, hpi]; simp [upB, hv, hst]
     simp only [go_sem, simprocAttr, g1, g3, hm, hg, hA', hB', hc, hv, hv1, d2, hst, hw]
     exact ih (vs.length - (i + 1)) (by omega) _ _ ⟨i + 1, rfl, by omega, hR', by simp only [go_sem, simprocAttr, g1], by simp only [go_sem, simprocAttr], by simp only [go_sem, simprocAttr, hm, hg], by simp only [go_sem, simprocAttr, hm] <;> omega⟩
 ·have d1 : decide ((i : Int) < (vs.length : Nat)) = false := by simp; omega
  rw [List.drop_of_length_le (by omega)] at hR
  have hR' : (upL none ls && (!dd || decide (vs.length + ls.length = 0))) = r := by rw [← hR]; simp [upB]
  clear hR ih
  simp only [go_sem, simprocAttr, g1, g3, hm, hg, d1, List.length_map]
  refine W_loop_ind (fun k e H => ∃ i : Nat, k = ls.length - i ∧ i ≤ ls.length ∧ (upL (prvL ls i) (ls.drop i) && (!dd || decide (vs.length + ls.length = 0))) = r ∧ gget .bad e 1 = .ptr 0 0 ∧ gget .bad e 4 = .lit (.int .i64 (i : Nat)) ∧
    H.get 0 = some [.lit (.bool dd), .sl .sh (vs.map encB), .sl .sh (ls.map encL)] ∧ 1 ≤ H.next)
   ls.length ⟨0, rfl, by omega, hR', by simp only [go_sem, simprocAttr, g1], by simp only [go_sem, simprocAttr], by simp only [go_sem, simprocAttr, hm, hg], by simp only [go_sem, simprocAttr, hm] <;> omega⟩ ?_
  clear hg hm hnx g1 g3
  rintro k ih e H ⟨i, rfl, hle, hR, g1, g4, hg, hnx⟩
  obtain ⟨m, hm⟩ : ∃ m, H.next = m + 1 := ⟨H.next - 1, by omega⟩
  by_cases hlt : i < ls.length
  ·have d1 : decide ((i : Int) < (ls.length : Nat)) = true := by simp; omega
   have hw := wrap1 (show i + 1 ≤ 9223372036854775807 by unfold LA at hll; omega)
   have hA := iad_map (f := encL) (t := 83) (n := 4) (b := 64) (o := .sh) hlt (fun _ => rfl)
   rw [drop_at hlt] at hR
   have hfo := hL ls[i] (List.getElem_mem hlt)
   have hpi : prvL ls (i + 1) = some ls[i].atom := prvL_succ hlt
   generalize hx : ls[i] = x at hA hR hfo hpi
   have hA' : iad (some (83, 4, 64)) (.sl .sh (ls.map encL)) (some i) = some (.ep [.lit (.int .i64 x.atom.1), .lit (.int .i64 x.atom.2), .sl .sh (x.shape.fields.map encF), .sl .sh (encAs x.shape.proto)]) := hA
   clear hA
   have hc1 : ∀ H, calls Tryz.prog cfgR 38 [.agg [.lit (.int .i64 x.atom.1), .lit (.int .i64 x.atom.2)]] H = some (.ret (.lit (.bool (placeA x.atom))) H) := c_rPlace x.atom
   have hc2 : ∀ H, calls Tryz.prog cfgR 39 [.agg [.sl .sh (x.shape.fields.map encF), .sl .sh (encAs x.shape.proto)]] H = some (.ret (.lit (.bool (mayS x.shape))) H) := c_rObjMay x.shape hfo
   simp only [go_sem, simprocAttr, g1, g4, hm, hg, d1, List.length_map]
   refine W_draw [(23, 30), (28, 30), (23, 34), (28, 34)] (by kernel_rfl) ?_
   cases hp : placeA x.atom with
   | false =>
    have hR' : r = false := by rw [← hR]; simp [upL, hp]
    subst hR'
    simp only [go_sem, simprocAttr, g1, g4, hm, hg, hA', hc1, hc2, hp, rs]
   | true =>
    cases hv : mayS x.shape with
    | false =>
     have hR' : r = false := by rw [← hR]; simp [upL, hp, hv]
     subst hR'
     simp only [go_sem, simprocAttr, g1, g4, hm, hg, hA', hc1, hc2, hp, hv, rs]
    | true =>
     by_cases hi0 : i = 0
     ·subst hi0
      have hR' : (upL (prvL ls (0 + 1)) (ls.drop (0 + 1)) && (!dd || decide (vs.length + ls.length = 0))) = r := by rw [← hR, hpi]; simp [upL, hp, hv, prvL]
      have d2 : decide ((0 : Int) < 0) = false := rfl
      simp only [go_sem, simprocAttr, g1, g4, hm, hg, hA', hc1, hc2, hp, hv, d2] at hw ⊢
      exact ih (ls.length - (0 + 1)) (by omega) _ _ ⟨0 + 1, rfl, by omega, hR', by simp only [go_sem, simprocAttr, g1], by simp only [go_sem, simprocAttr, hw] <;> rfl, by simp only [go_sem, simprocAttr, hm, hg], by simp only [go_sem, simprocAttr, hm] <;> omega⟩
     ·have d2 : decide ((0 : Int) < (i : Nat)) = true := by simp; omega
      have hv1 := wrapD (show 0 < i by omega) (by unfold LA at hll; omega)
      have hi1 : i - 1 < ls.length := by omega
      have hB := iad_map (f := encL) (t := 83) (n := 4) (b := 64) (o := .sh) hi1 (fun _ => rfl)
      have hp0 : prvL ls i = some ls[i - 1].atom := by simp [prvL, hi0, hi1]
      generalize hy : ls[i - 1] = y at hB hp0
      have hB' : iad (some (83, 4, 64)) (.sl .sh (ls.map encL)) (some (i - 1)) = some (.ep [.lit (.int .i64 y.atom.1), .lit (.int .i64 y.atom.2), .sl .sh (y.shape.fields.map encF), .sl .sh (encAs y.shape.proto)]) := hB
      clear hB
      have hc3 : ∀ H, calls Tryz.prog cfgR 40 [.agg [.lit (.int .i64 y.atom.1), .lit (.int .i64 y.atom.2)], .agg [.lit (.int .i64 x.atom.1), .lit (.int .i64 x.atom.2)]] H = some (.ret (.lit (.bool (ltA y.atom x.atom))) H) := c_less y.atom x.atom
      cases hst : ltA y.atom x.atom with
      | false =>
       have hR' : r = false := by rw [← hR, hp0]; simp [upL, hp, hv, hst]
       subst hR'
       simp only [go_sem, simprocAttr, g1, g4, hm, hg, hA', hB', hc1, hc2, hc3, hp, hv, hv1, d2, hst, rs]
      | true =>
       have hR' : (upL (prvL ls (i + 1)) (ls.drop (i + 1)) && (!dd || decide (vs.length + ls.length = 0))) = r := by rw [← hR, hp0, hpi]; simp [upL, hp, hv, hst]
       simp only [go_sem, simprocAttr, g1, g4, hm, hg, hA', hB', hc1, hc2, hc3, hp, hv, hv1, d2, hst, hw]
       exact ih (ls.length - (i + 1)) (by omega) _ _ ⟨i + 1, rfl, by omega, hR', by simp only [go_sem, simprocAttr, g1], by simp only [go_sem, simprocAttr], by simp only [go_sem, simprocAttr, hm, hg], by simp only [go_sem, simprocAttr, hm] <;> omega⟩
  ·have d1 : decide ((i : Int) < (ls.length : Nat)) = false := by simp; omega
   rw [List.drop_of_length_le (by omega)] at hR
   have hR' : (!dd || decide (vs.length + ls.length = 0)) = r := by rw [← hR]; simp [upL]
   have hd3 : decide ((vs.length : Int) = 0) = decide (vs.length = 0) := decide_eq_decide.2 (by omega)
   have hd4 : decide ((ls.length : Int) = 0) = decide (ls.length = 0) := decide_eq_decide.2 (by omega)
   cases dd with
   | false =>
    have hR2 : r = true := by rw [← hR']; rfl
    subst hR2
    simp only [go_sem, simprocAttr, g1, g4, hm, hg, d1, rs, List.length_map]
   | true =>
    have hR2 : decide (vs.length + ls.length = 0) = r := by rw [← hR']; rfl
    by_cases hv0 : vs.length = 0
    ·have e1 : decide (vs.length = 0) = true := by simpa using hv0
     have e2 : decide (ls.length = 0) = r := by rw [← hR2]; exact decide_eq_decide.2 (by omega)
     simp only [go_sem, simprocAttr, g1, g4, hm, hg, d1, rs, List.length_map, hd3, hd4, e1, e2]
    ·have e1 : decide (vs.length = 0) = false := decide_eq_false hv0
     have e2 : r = false := by rw [← hR2]; exact decide_eq_false (by omega)
     subst e2
     simp only [go_sem, simprocAttr, g1, g4, hm, hg, d1, rs, List.length_map, hd3, hd4, e1]
end Go.Proofs.YtnoahchdmkpleaaGreat.VA

/-! Vr2 -/
namespace Go.Proofs.YtnoahchdmkpleaaGreat.VA
open Go Go.RowKit
attribute [local go_sem] Nat.add_eq_left Nat.left_eq_add true_and and_true ite_true if_false Int.cast_ofNat_Int eq_self Nat.add_assoc Option.some.injEq decide_true decide_false Bool.not_true Bool.not_false List.size_toArray List.length_cons List.length_nil
set_option linter.unusedSimpArgs false
set_option maxRecDepth 100000

/-- The table for state.Var. -/
noncomputable def cfgV : Cfg := mkC Tryz.prog [110, 65] [154, 155] [] [(74, tClone)] []
theorem cfgV_ok : CfgOk Tryz.prog Cond.none cfgV := mkC_ok (by kernel_rfl) (by kernel_rfl) (by
 intro p hp
 simp only [List.mem_cons, List.not_mem_nil, or_false] at hp
 subst hp
 exact tClone_ok _) (by simp)
def varA (q : ByteArray) (vs : List Bnd) : List (Int × Int) := match vs.find? (fun b => decide (b.nm = q)) with | some b => b.vals | none => [(0, 0)]
theorem varA_none {q : ByteArray} {vs : List Bnd} (h : vs.all (fun b => !decide (b.nm = q)) = true) : varA q vs = [(0, 0)] := by
 unfold varA
 rw [List.find?_eq_none.2 (fun b hb => by have := List.all_eq_true.1 h b hb; simpa using this)]
theorem varA_some {q : ByteArray} {vs : List Bnd} {i : Nat} (hi : i < vs.length) (h : (vs.take i).all (fun b => !decide (b.nm = q)) = true) (hx : vs[i].nm = q) : varA q vs = vs[i].vals := by
 unfold varA
 have e : vs = vs.take i ++ vs[i] :: vs.drop (i + 1) := by rw [← List.drop_eq_getElem_cons hi, List.take_append_drop]
 have hn : (vs.take i).find? (fun b => decide (b.nm = q)) = none := List.find?_eq_none.2 (fun b hb => by have := List.all_eq_true.1 h b hb; simpa using this)
 have hf : vs.find? (fun b => decide (b.nm = q)) = some vs[i] := by
  conv => lhs; rw [e]
  rw [List.find?_append, hn, Option.none_or, List.find?_cons_of_pos (by simp [hx])]
 rw [hf]
theorem c_var1 (x : Bnd) (q : ByteArray) (p : Nat) (H : Heap) (hp : H.get p = some [.lit (.string q)]) (hlt : p < H.next) : ∃ v H', calls Tryz.prog cfgV 155 [.agg (encB x), .ptr p 0] H = some (.ret v H') ∧
  (v = .lit (.bool (decide (x.nm = q))) ∧ Frm H H') := by
 refine calls_imp (fn := Tryz.f155) rfl rfl rfl rfl rfl ?_
 have rs : Tryz.f155.results.toList = [.tmp 3] := rfl
 obtain ⟨m, hm⟩ : ∃ m, H.next = m := ⟨_, rfl⟩
 have n0 : ∀ j, ¬ m + j = p := fun j => by omega
 unfold encB
 simp only [go_sem, simprocAttr, rs, hp, hm, n0]
 exact ⟨_, rfl, rfl, by repeat (first | exact Frm.refl _ | refine Frm.up ?_ _ | refine Frm.put ?_ _ (by omega))⟩
theorem c_idxV (vs : List Bnd) (q : ByteArray) (p : Nat) (H0 : Heap) (hp : H0.get p = some [.lit (.string q)]) (hlt : p < H0.next) (hvl : vs.length ≤ LA) :
  ∃ v H', calls Tryz.prog cfgV 154 [.sl .sh (vs.map encB), .fn 155 [.ptr p 0]] H0 = some (.ret v H') ∧
   ((v = .lit (.int .i64 (-1)) ∧ vs.all (fun b => !decide (b.nm = q)) = true) ∨ ∃ (i : Nat) (h : i < vs.length), v = .lit (.int .i64 (i : Nat)) ∧ (vs.take i).all (fun b => !decide (b.nm = q)) = true ∧ vs[i].nm = q) := by
 refine calls_imp (fn := Tryz.f154) rfl rfl rfl rfl rfl ?_
 have rs : Tryz.f154.results.toList = [.tmp 4] := rfl
 simp only [go_sem, simprocAttr, rs, List.length_map]
 refine W_loop_ind (fun k e H => ∃ i : Nat, k = vs.length - i ∧ i ≤ vs.length ∧ (vs.take i).all (fun b => !decide (b.nm = q)) = true ∧ Frm H0 H ∧ gget .bad e 0 = .sl .sh (vs.map encB) ∧ gget .bad e 1 = .fn 155 [.ptr p 0] ∧ gget .bad e 7 = .lit (.int .i64 (vs.length : Nat)) ∧ gget .bad e 8 = .lit (.int .i64 (i : Nat)))
  vs.length ⟨0, rfl, by omega, rfl, by repeat (first | exact Frm.refl _ | refine Frm.up ?_ _), by simp only [go_sem, simprocAttr], by simp only [go_sem, simprocAttr], by simp only [go_sem, simprocAttr], by simp only [go_sem, simprocAttr]⟩ ?_
 rintro k ih e H ⟨i, rfl, hle, hR, hF, g0, g1, g7, g8⟩
 by_cases hl : i < vs.length
 ·have d1 : decide ((i : Int) < (vs.length : Nat)) = true := by simp; omega
  have ha := iad_map (f := encB) (t := 76) (n := 2) (b := 40) (o := .sh) hl (fun _ => rfl)
  have hw1 := wrap1 (show i + 1 ≤ 9223372036854775807 by unfold LA at hvl; omega)
  have hgp : H.get p = some [.lit (.string q)] := by rw [hF.get hlt]; exact hp
  have hnx := hF.nx
  have hb2 : (encB vs[i]).length = 2 := rfl
  have hb3 : (encB vs[i]).take 2 = encB vs[i] := rfl
  simp only [go_sem, simprocAttr, g0, g1, g7, g8, d1, ha, hb2, hb3]
  refine goC_ex (c_var1 vs[i] q p _ (by simp only [go_sem, simprocAttr, hgp]) (by simp only [go_sem, simprocAttr]; omega)) ?_
  rintro v H1 ⟨rfl, hF1⟩
  have hF2 : Frm H0 H1 := (by repeat (first | exact hF | refine Frm.up ?_ _) : Frm H0 _).trans hF1
  by_cases hx : vs[i].nm = q
  ·have dx : decide (vs[i].nm = q) = true := by simpa using hx
   simp only [go_sem, simprocAttr, g0, g1, g7, g8, rs, dx]
   exact ⟨_, rfl, .inr ⟨i, hl, rfl, hR, hx⟩⟩
  ·have dx : decide (vs[i].nm = q) = false := by simpa using hx
   simp only [go_sem, simprocAttr, g0, g1, g7, g8, hw1, dx]
   exact ih (vs.length - (i + 1)) (by omega) _ _ ⟨i + 1, rfl, by omega, by rw [List.take_succ_eq_append_getElem hl, List.all_append, hR]; simp [hx], by repeat (first | exact hF2 | refine Frm.up ?_ _), by simp only [go_sem, simprocAttr, g0], by simp only [go_sem, simprocAttr, g1], by simp only [go_sem, simprocAttr, g7], by simp only [go_sem, simprocAttr]⟩
 ·have d1 : decide ((i : Int) < (vs.length : Nat)) = false := by simp; omega
  rw [List.take_of_length_le (by omega)] at hR
  simp only [go_sem, simprocAttr, g0, g1, g7, g8, d1, rs]
  exact ⟨_, rfl, .inl ⟨rfl, hR⟩⟩
theorem c_variable (s : Sta) (hs : StOk s) (q : ByteArray) (H : Heap) : (calls Tryz.prog cfgV 110 [.agg (encSt s), .lit (.string q)] H = some (.ret (.lit (.int .i64 (-1))) H) ∧ s.vars.all (fun b => !decide (b.nm = q)) = true) ∨
  ∃ (i : Nat) (h : i < s.vars.length), calls Tryz.prog cfgV 110 [.agg (encSt s), .lit (.string q)] H = some (.ret (.lit (.int .i64 (i : Nat))) H) ∧ (s.vars.take i).all (fun b => !decide (b.nm = q)) = true ∧ s.vars[i].nm = q := by
 have rs : Tryz.f110.results.toList = [.tmp 4] := rfl
 have hso : (encSt s).all AV.one = true := rfl
 have hs1 : (encSt s)[1]? = some (.sl .sh (s.vars.map encB)) := rfl
 obtain ⟨v, H', hc, hv⟩ := c_idxV s.vars q 1 ((((Heap.empty.up 3).put 0 (encSt s)).put 1 [.lit (.string q)]).up 5) (by simp only [go_sem, simprocAttr]) (by simp only [go_sem, simprocAttr] <;> omega) hs.2.1
 rcases hv with ⟨rfl, hall⟩ | ⟨i, hi, rfl, hall, hx⟩
 ·refine .inl ⟨calls_pure (fn := Tryz.f110) rfl rfl rfl rfl rfl ?_ H, hall⟩
  simp only [go_sem, simprocAttr, rs, hso, hs1, hc]
 ·refine .inr ⟨i, hi, calls_pure (fn := Tryz.f110) rfl rfl rfl rfl rfl ?_ H, hall, hx⟩
  simp only [go_sem, simprocAttr, rs, hso, hs1, hc]
@[go_sem] theorem bs1_atm0 : aBuildSlice Tryz.prog 50 1 [(0, .agg [.lit (.int .i64 0), .lit (.int .i64 0)])] = some (.sl .ex [[.lit (.int .i64 0), .lit (.int .i64 0)]]) := bs1_atm (0, 0)
theorem c_Var (s : Sta) (hs : StOk s) (q : ByteArray) (H : Heap) : calls Tryz.prog cfgV 65 [.agg (encSt s), .lit (.string q)] H = some (.ret (.sl .sh (encAs (varA q s.vars))) H) := by
 refine calls_pure (fn := Tryz.f65) rfl rfl rfl rfl rfl ?_ H
 have rs : Tryz.f65.results.toList = [.tmp 4] := rfl
 have hso : (encSt s).all AV.one = true := rfl
 have hs1 : (encSt s)[1]? = some (.sl .sh (s.vars.map encB)) := rfl
 have hs3 : (encSt s).length = 3 := rfl
 have hst : (encSt s).take 3 = encSt s := rfl
 rcases c_variable s hs q Heap.empty with ⟨_, hall⟩ | ⟨i, hi, _, hall, hx⟩
 ·have hc : ∀ H, calls Tryz.prog cfgV 110 [.agg (encSt s), .lit (.string q)] H = some (.ret (.lit (.int .i64 (-1))) H) := fun H => by
   rcases c_variable s hs q H with ⟨h, _⟩ | ⟨i, hi, _, _, hx⟩
   ·exact h
   ·have := List.all_eq_true.1 hall s.vars[i] (List.getElem_mem hi); simp [hx] at this
  have d1 : decide ((0 : Int) ≤ -1) = false := rfl
  rw [varA_none hall]
  simp only [go_sem, simprocAttr, rs, hso, hs1, hs3, hst, hc, d1]
  rfl
 ·have hc : ∀ H, calls Tryz.prog cfgV 110 [.agg (encSt s), .lit (.string q)] H = some (.ret (.lit (.int .i64 (i : Nat))) H) := fun H => by
   rcases c_variable s hs q H with ⟨_, h⟩ | ⟨j, hj, h, hall2, hx2⟩
   ·have := List.all_eq_true.1 h s.vars[i] (List.getElem_mem hi); simp [hx] at this
   ·rcases Nat.lt_trichotomy i j with hij | hij | hij
    ·have := List.all_eq_true.1 hall2 s.vars[i] (List.mem_take_iff_getElem.2 ⟨i, by omega, rfl⟩); simp [hx] at this
    ·subst hij; exact h
    ·have := List.all_eq_true.1 hall s.vars[j] (List.mem_take_iff_getElem.2 ⟨j, by omega, rfl⟩); simp [hx2] at this
  have d1 : decide ((0 : Int) ≤ (i : Nat)) = true := by simp
  have hA := iad_map (f := encB) (t := 76) (n := 2) (b := 40) (o := .sh) hi (fun _ => rfl)
  have hA' : iad (some (76, 2, 40)) (.sl .sh (s.vars.map encB)) (some i) = some (.ep [.lit (.string s.vars[i].nm), .sl .sh (encAs s.vars[i].vals)]) := hA
  have hbo := hs.1 s.vars[i] (List.getElem_mem hi)
  have hcl : ∀ H, calls Tryz.prog cfgV 74 [.sl .sh (encAs s.vars[i].vals)] H = some (.ret (.sl .sh (encAs s.vars[i].vals)) H) := tClone_atm rfl _ (by unfold BOk at hbo; omega) .sh
  rw [varA_some hi hall hx]
  simp only [go_sem, simprocAttr, rs, hso, hs1, hs3, hst, hc, d1, hA', hcl]
end Go.Proofs.YtnoahchdmkpleaaGreat.VA

/-! Cm1 -/
namespace Go.Proofs.YtnoahchdmkpleaaGreat.VA
open Go Go.RowKit
set_option linter.unusedSimpArgs false
set_option linter.unusedVariables false
set_option maxRecDepth 100000

theorem bl_self : ∀ l : List UInt8, Op.bytesLess l l = false
 | [] => rfl
 | x :: l => by
  have := bl_self l
  simp [Op.bytesLess, this]
theorem bl_trans : ∀ a b c : List UInt8, Op.bytesLess a b = true → Op.bytesLess b c = true → Op.bytesLess a c = true
 | _, _, [], _, h => by simp [Op.bytesLess] at h
 | _, [], _ :: _, h, _ => by simp [Op.bytesLess] at h
 | [], _ :: _, _ :: _, _, _ => rfl
 | x :: a, y :: b, z :: c, h1, h2 => by
  simp only [Op.bytesLess, Bool.or_eq_true, Bool.and_eq_true, decide_eq_true_eq, beq_iff_eq] at h1 h2 ⊢
  rcases h1 with h1 | ⟨rfl, h1⟩
  ·rcases h2 with h2 | ⟨rfl, h2⟩
   ·exact .inl (UInt8.lt_trans h1 h2)
   ·exact .inl h1
  ·rcases h2 with h2 | ⟨rfl, h2⟩
   ·exact .inl h2
   ·exact .inr ⟨rfl, bl_trans a b c h1 h2⟩
theorem bl_total : ∀ a b : List UInt8, Op.bytesLess a b = false → a = b ∨ Op.bytesLess b a = true
 | [], [], _ => .inl rfl
 | [], _ :: _, h => by simp [Op.bytesLess] at h
 | _ :: _, [], _ => .inr rfl
 | x :: a, y :: b, h => by
  simp only [Op.bytesLess, Bool.or_eq_false_iff, decide_eq_false_iff_not, Bool.and_eq_false_iff, beq_eq_false_iff_ne] at h
  obtain ⟨h1, h2⟩ := h
  by_cases hxy : x = y
  ·subst hxy
   rcases h2 with h2 | h2
   ·exact absurd rfl h2
   ·rcases bl_total a b h2 with rfl | h3
    ·exact .inl rfl
    ·exact .inr (by simp [Op.bytesLess, h3])
  ·have : y < x := UInt8.lt_of_le_of_ne (UInt8.not_lt.1 h1) (Ne.symm hxy)
   exact .inr (by simp [Op.bytesLess, this])
theorem sl_self (a : ByteArray) : strLt a a = false := bl_self _
theorem sl_trans {a b c : ByteArray} (h : strLt a b = true) (k : strLt b c = true) : strLt a c = true := bl_trans _ _ _ h k
theorem ba_inj {a b : ByteArray} (h : a.data.toList = b.data.toList) : a = b := by
 obtain ⟨⟨a⟩⟩ := a
 obtain ⟨⟨b⟩⟩ := b
 simp only at h
 subst h
 rfl
theorem sl_total {a b : ByteArray} (h : strLt a b = false) : a = b ∨ strLt b a = true := by
 rcases bl_total _ _ h with h | h
 ·exact .inl (ba_inj h)
 ·exact .inr h
theorem sl_asym {a b : ByteArray} (h : strLt a b = true) : strLt b a = false := by
 cases hb : strLt b a with
 | false => rfl
 | true => have := sl_trans h hb; rw [sl_self] at this; cases this
theorem sl_ne {a b : ByteArray} (h : strLt a b = true) : a ≠ b := fun e => by subst e; rw [sl_self] at h; cases h
/-- How two names stand. -/
def cmpB (a b : ByteArray) : Int := Lib.compareBytes a.data.toList b.data.toList
theorem cb_lt : ∀ a b : List UInt8, decide (Lib.compareBytes a b < 0) = Op.bytesLess a b
 | [], [] => rfl
 | [], _ :: _ => rfl
 | _ :: _, [] => rfl
 | x :: a, y :: b => by
  have ih := cb_lt a b
  unfold Lib.compareBytes Op.bytesLess
  by_cases h1 : x < y
  ·simp [h1]
  ·by_cases h2 : y < x
   ·have h3 : ¬ x = y := fun e => by subst e; exact h1 h2
    simp [h1, h2, h3]
   ·have h3 : x = y := UInt8.le_antisymm (UInt8.not_lt.1 h2) (UInt8.not_lt.1 h1)
    subst h3
    simp only [if_neg h1, ih]
    simp [h1]
theorem cb_eq : ∀ a b : List UInt8, Lib.compareBytes a b = 0 ↔ a = b
 | [], [] => by simp [Lib.compareBytes]
 | [], _ :: _ => by simp [Lib.compareBytes]
 | _ :: _, [] => by simp [Lib.compareBytes]
 | x :: a, y :: b => by
  have ih := cb_eq a b
  unfold Lib.compareBytes
  by_cases h1 : x < y
  ·have h3 : ¬ x = y := fun e => by subst e; exact absurd h1 (UInt8.lt_irrefl _)
   simp [h1, h3]
  ·by_cases h2 : y < x
   ·have h3 : ¬ x = y := fun e => by subst e; exact h1 h2
    simp [h1, h2, h3]
   ·have h3 : x = y := UInt8.le_antisymm (UInt8.not_lt.1 h2) (UInt8.not_lt.1 h1)
    subst h3
    simp [h1, ih]
theorem cmpB_lt (a b : ByteArray) : decide (cmpB a b < 0) = strLt a b := cb_lt _ _
theorem cmpB_eq (a b : ByteArray) : decide (cmpB a b = 0) = decide (a = b) := by
 have h : cmpB a b = 0 ↔ a = b := ⟨fun h => ba_inj ((cb_eq _ _).1 h), fun h => by subst h; exact (cb_eq _ _).2 rfl⟩
 simp [h]
def tCmp (args : List AV) : Option AV :=
 match args with
 | [.lit (.string a), .lit (.string b)] => some (.lit (.int .i64 (cmpB a b)))
 | _ => none
theorem walk_cmp1 (a b : ByteArray) (w : World) : Calls Tryz.prog 209 #[.string a, .string b] w fun e w' => e = .returned (.int .i64 (cmpB a b)) ∧ w' = w := by
 have hcv : ∀ w, (callFunc 231 #[.string a, .string b]).run Tryz.prog w = .ok (.value (.int .i64 (cmpB a b))) w := fun w => by
  rw [run_callFunc_extern (fn := Tryz.f231) (by kernel_rfl) (by kernel_rfl) (by kernel_rfl) (by kernel_rfl) (e := Extern.BytealgCompare.compare) (by kernel_rfl), Lib.run_compareString]
  rfl
 go_enter Tryz.func209, Tryz.ntmps209
 go_wp2_with (simp only [hcv])
 go_ret
 exact ⟨rfl, rfl⟩
theorem walk_cmp (a b : ByteArray) (w : World) : Calls Tryz.prog 178 #[.string a, .string b] w fun e w' => e = .returned (.int .i64 (cmpB a b)) ∧ w' = w := by
 have e1 : ∀ args w, (callFunc 209 args).run Tryz.prog w = .ok (.enter 209 args) w := enters_of Tryz.func209 (by kernel_rfl) rfl
 go_enter Tryz.func178, Tryz.ntmps178
 go_wp2_with (go_at_fn 209; refine (walk_cmp1 _ _ _).mono ?_; rintro e w' ⟨rfl, rfl⟩)
 go_ret
 exact ⟨rfl, rfl⟩
theorem told_cmp {C : Cond} : ToldOk Tryz.prog C 178 tCmp := by
 refine ⟨fun vs w => callFunc_enter (fn := Tryz.f178) (by kernel_rfl) (by kernel_rfl) rfl vs w, ?_⟩
 intro args v h g H w vs hC hi hr
 unfold tCmp at h
 split at h
 ·rename_i a b
  simp only [Option.some.injEq] at h
  subst h
  obtain ⟨v0, v1, hvs⟩ : ∃ v0 v1, vs = #[v0, v1] := by
   have hl := hr.1
   simp at hl
   refine ⟨vs[0], vs[1], ?_⟩
   apply Array.ext <;> simp <;> try omega
   intro i h1 h2
   match i, h2 with
   | 0, _ => rfl
   | 1, _ => rfl
  subst hvs
  have h0 := hr.head.lit_inv
  have h1 := hr.tail.head.lit_inv
  subst h0; subst h1
  refine (walk_cmp a b w).mono ?_
  rintro en w' ⟨rfl, rfl⟩
  exact ⟨_, g, rfl, Ext.refl g _, hi, rfl, rfl, .lit _⟩
 ·cases h
end Go.Proofs.YtnoahchdmkpleaaGreat.VA

/-! Sp1 -/
namespace Go.Proofs.YtnoahchdmkpleaaGreat.VA
open Go Go.RowKit
set_option linter.unusedSimpArgs false
set_option linter.unusedVariables false

/-- A strict order of keys. -/
structure Ord {κ : Type} (lt : κ → κ → Bool) : Prop where
 self : ∀ a, lt a a = false
 trans : ∀ {a b c}, lt a b = true → lt b c = true → lt a c = true
 total : ∀ {a b}, lt a b = false → a = b ∨ lt b a = true
section
variable {α κ : Type} [DecidableEq κ] (key : α → κ) (lt : κ → κ → Bool)
/-- Put at its place, in the place of what has its key. -/
def putG (x : α) : List α → List α
 | [] => [x]
 | y :: l => if lt (key y) (key x) = true then y :: putG x l else if key y = key x then x :: l else x :: y :: l
def getG (q : κ) (l : List α) : Option α := l.find? fun x => decide (key x = q)
/-- Keys that rise. -/
def Up (l : List α) : Prop := l.Pairwise fun x y => lt (key x) (key y) = true
/-- As the reference puts it. -/
def withG (x : α) : Bool → List α → List α
 | laid, [] => if laid = true then [] else [x]
 | laid, y :: l =>
  let here := !laid && !lt (key y) (key x)
  (if here = true then [x] else []) ++ ((if key y = key x then [] else [y]) ++ withG x (laid || here) l)
variable {key lt}
theorem putG_mem {x : α} : ∀ {l : List α} {y : α}, y ∈ putG key lt x l → y = x ∨ y ∈ l
 | [], y, h => .inl (by simpa [putG] using h)
 | z :: l, y, h => by
  unfold putG at h
  split at h
  ·rcases List.mem_cons.1 h with rfl | h
   ·exact .inr (List.mem_cons_self ..)
   ·rcases putG_mem h with h | h
    ·exact .inl h
    ·exact .inr (List.mem_cons_of_mem _ h)
  ·split at h
   ·rcases List.mem_cons.1 h with rfl | h
    ·exact .inl rfl
    ·exact .inr (List.mem_cons_of_mem _ h)
   ·rcases List.mem_cons.1 h with rfl | h
    ·exact .inl rfl
    ·exact .inr h
theorem Up.put (o : Ord lt) {x : α} : ∀ {l : List α}, Up key lt l → Up key lt (putG key lt x l)
 | [], _ => by simp [putG, Up]
 | y :: l, h => by
  have h' := List.pairwise_cons.1 h
  unfold putG
  split
  ·rename_i hyx
   refine List.pairwise_cons.2 ⟨fun z hz => ?_, Up.put o h'.2⟩
   rcases putG_mem hz with rfl | hz
   ·exact hyx
   ·exact h'.1 z hz
  ·rename_i hyx
   split
   ·rename_i he
    refine List.pairwise_cons.2 ⟨fun z hz => ?_, h'.2⟩
    rw [← he]; exact h'.1 z hz
   ·rename_i he
    have hxy : lt (key x) (key y) = true := (o.total (by simpa using hyx)).resolve_left he
    refine List.pairwise_cons.2 ⟨fun z hz => ?_, h⟩
    rcases List.mem_cons.1 hz with rfl | hz
    ·exact hxy
    ·exact o.trans hxy (h'.1 z hz)
theorem getG_cons (q : κ) (y : α) (l : List α) : getG key q (y :: l) = if key y = q then some y else getG key q l := by
 unfold getG
 rw [List.find?_cons]
 by_cases h : key y = q <;> simp [h]
theorem getG_put (o : Ord lt) {x : α} {q : κ} : ∀ {l : List α}, Up key lt l → getG key q (putG key lt x l) = if q = key x then some x else getG key q l
 | [], _ => by
  simp only [putG, getG_cons, eq_comm]
 | y :: l, h => by
  have h' := List.pairwise_cons.1 h
  unfold putG
  split
  ·rename_i hyx
   rw [getG_cons, getG_cons, getG_put o h'.2]
   by_cases hq : key y = q
   ·have : ¬ q = key x := fun e => by subst e; rw [← hq, o.self] at hyx; cases hyx
    simp [hq, this]
   ·simp [hq]
  ·rename_i hyx
   split
   ·rename_i he
    rw [getG_cons, getG_cons, he]
    by_cases hq : key x = q
    ·simp [hq]
    ·have : ¬ q = key x := fun e => hq e.symm
     simp [hq, this]
   ·rename_i he
    rw [getG_cons]
    by_cases hq : key x = q
    ·simp [hq]
    ·have : ¬ q = key x := fun e => hq e.symm
     simp [hq, this]
theorem getG_lt (o : Ord lt) {x : α} {q : κ} {l : List α} (h : Up key lt (x :: l)) (hq : lt q (key x) = true ∨ q = key x) : getG key q l = none := by
 unfold getG
 rw [List.find?_eq_none]
 intro y hy
 have h1 := (List.pairwise_cons.1 h).1 y hy
 have : ¬ key y = q := fun e => by
  subst e
  rcases hq with hq | hq
  ·have := o.trans h1 hq; rw [o.self] at this; cases this
  ·rw [hq, o.self] at h1; cases h1
 simp [this]
/-- Lists that rise, and have the same at each key, are the same. -/
theorem Up.ext (o : Ord lt) : ∀ {l m : List α}, Up key lt l → Up key lt m → (∀ q, getG key q l = getG key q m) → l = m
 | [], [], _, _, _ => rfl
 | [], y :: m, _, _, h => by have := h (key y); simp [getG] at this
 | x :: l, [], _, _, h => by have := h (key x); simp [getG] at this
 | x :: l, y :: m, hl, hm, h => by
  have hx := h (key x)
  have hy := h (key y)
  rw [getG_cons, getG_cons] at hx hy
  simp only [if_true] at hx hy
  have hxy : key y = key x := by
   apply Classical.byContradiction
   intro hne
   rw [if_neg hne] at hx
   rw [if_neg (fun e => hne e.symm)] at hy
   cases hlt : lt (key x) (key y) with
   | true =>
    rw [getG_lt o hm (.inl hlt)] at hx; cases hx
   | false =>
    have := (o.total hlt).resolve_left (fun e => hne e.symm)
    rw [getG_lt o hl (.inl this)] at hy; cases hy
  rw [if_pos hxy] at hx
  have hxe : x = y := by simpa using hx
  subst hxe
  congr 1
  refine Up.ext o (List.pairwise_cons.1 hl).2 (List.pairwise_cons.1 hm).2 (fun q => ?_)
  by_cases hq : q = key x
  ·rw [getG_lt o hl (.inr hq), getG_lt o hm (.inr hq)]
  ·have := h q
   rw [getG_cons, getG_cons, if_neg (fun e => hq e.symm), if_neg (fun e => hq e.symm)] at this
   exact this
theorem withG_laid (o : Ord lt) {x : α} : ∀ {l : List α}, (∀ y, y ∈ l → lt (key x) (key y) = true) → withG key lt x true l = l
 | [], _ => rfl
 | y :: l, h => by
  have h1 := h y (List.mem_cons_self ..)
  have hne : ¬ key y = key x := fun e => by rw [e, o.self] at h1; cases h1
  unfold withG
  simp only [Bool.not_true, Bool.false_and, Bool.false_eq_true, if_false, List.nil_append, if_neg hne, Bool.true_or, List.singleton_append]
  rw [withG_laid o fun y hy => h y (List.mem_cons_of_mem _ hy)]
theorem withG_put (o : Ord lt) {x : α} : ∀ {l : List α}, Up key lt l → withG key lt x false l = putG key lt x l
 | [], _ => rfl
 | y :: l, h => by
  have h' := List.pairwise_cons.1 h
  unfold withG putG
  by_cases hyx : lt (key y) (key x) = true
  ·have hne : ¬ key y = key x := fun e => by rw [e, o.self] at hyx; cases hyx
   simp only [hyx, Bool.not_false, Bool.not_true, Bool.and_false, Bool.false_eq_true, if_false, if_true, List.nil_append, if_neg hne, Bool.or_false, List.singleton_append]
   rw [withG_put o h'.2]
  ·have hyf : lt (key y) (key x) = false := by simpa using hyx
   simp only [hyf, Bool.not_false, Bool.and_true, Bool.false_eq_true, if_false, if_true, Bool.or_true, List.singleton_append]
   by_cases he : key y = key x
   ·rw [if_pos he, if_pos he, List.nil_append, withG_laid o (fun z hz => by rw [← he]; exact h'.1 z hz)]
   ·rw [if_neg he, if_neg he, List.singleton_append]
    have hxy : lt (key x) (key y) = true := (o.total hyf).resolve_left he
    rw [withG_laid o (fun z hz => o.trans hxy (h'.1 z hz))]
/-- Put where the search says. -/
theorem putG_at {x : α} : ∀ {l : List α} {k : Nat}, k ≤ l.length → (l.take k).all (fun y => lt (key y) (key x)) = true → (∀ h : k < l.length, lt (key l[k]) (key x) = false) →
  putG key lt x l = l.take k ++ [x] ++ (match l[k]? with | some y => if key y = key x then l.drop (k + 1) else l.drop k | none => [])
 | [], k, hk, _, _ => by simp at hk; subst hk; rfl
 | y :: l, 0, _, _, h => by
  have h0 := h (by simp)
  simp only [List.getElem_cons_zero] at h0
  unfold putG
  rw [if_neg (by rw [h0]; simp)]
  simp only [List.take_zero, List.nil_append, List.getElem?_cons_zero, List.drop_succ_cons, List.drop_zero, List.singleton_append]
  split <;> rfl
 | y :: l, k + 1, hk, ha, h => by
  rw [List.take_succ_cons, List.all_cons, Bool.and_eq_true] at ha
  unfold putG
  rw [if_pos ha.1, putG_at (k := k) (by simpa using hk) ha.2 (fun hh => h (Nat.succ_lt_succ hh))]
  simp
end
theorem ordB : Ord strLt := ⟨sl_self, sl_trans, sl_total⟩
theorem ordA : Ord ltA := by
 refine ⟨fun a => ?_, fun {a b c} h k => ?_, fun {a b} h => ?_⟩
 ·simp [ltA]
 ·simp [ltA] at h k ⊢; omega
 ·simp [ltA] at h ⊢
  obtain ⟨a1, a2⟩ := a
  obtain ⟨b1, b2⟩ := b
  simp only [Prod.mk.injEq] at h ⊢
  omega
end Go.Proofs.YtnoahchdmkpleaaGreat.VA

/-! Sp2 -/
namespace Go.Proofs.YtnoahchdmkpleaaGreat.VA
open Go Go.RowKit
set_option linter.unusedSimpArgs false
set_option linter.unusedVariables false

abbrev putF (f : Fd) (l : List Fd) : List Fd := putG Fd.nm strLt f l
abbrev getF (q : ByteArray) (l : List Fd) : Option Fd := getG Fd.nm q l
abbrev UpF (l : List Fd) : Prop := Up Fd.nm strLt l
def fdZ : Fd := ⟨⟨#[]⟩, false, []⟩
/-- A field joined to what there is. -/
def updF (g : Fd) (o : Option Fd) : Fd := ⟨g.nm, (o.isSome && (o.getD fdZ).sure) && g.sure, normA ((o.getD fdZ).vals ++ g.vals)⟩
def stpF (out : List Fd) (g : Fd) : List Fd := putF (updF g (getF g.nm out)) out
def dimF (b : List Fd) (f : Fd) : Fd := ⟨f.nm, f.sure && (getF f.nm b).isSome, f.vals⟩
/-- As the program joins. -/
def joinP (a b : List Fd) : List Fd := b.foldl stpF (a.map (dimF b))
/-- The reference's field of a name. -/
def fldR (a b : List Fd) (n : ByteArray) : Fd :=
 ⟨n, ((getF n a).isSome && (getF n b).isSome) && (((getF n a).getD fdZ).sure && ((getF n b).getD fdZ).sure), normA (((getF n a).getD fdZ).vals ++ ((getF n b).getD fdZ).vals)⟩
def joinR (a b : List Fd) : List Fd := ((a ++ b).map Fd.nm).foldl (fun out n => putF (fldR a b n) out) []
theorem getF_nm {q : ByteArray} {l : List Fd} {f : Fd} (h : getF q l = some f) : f.nm = q ∧ f ∈ l := by
 unfold getF getG at h
 have h1 := List.find?_some h
 exact ⟨by simpa using h1, List.mem_of_find?_eq_some h⟩
theorem getF_isSome {q : ByteArray} {l : List Fd} : (getF q l).isSome = true ↔ q ∈ l.map Fd.nm := by
 constructor
 ·intro h
  obtain ⟨f, hf⟩ := Option.isSome_iff_exists.1 h
  obtain ⟨h1, h2⟩ := getF_nm hf
  exact List.mem_map.2 ⟨f, h2, h1⟩
 ·intro h
  obtain ⟨f, h1, h2⟩ := List.mem_map.1 h
  unfold getF getG
  rw [List.find?_isSome]
  exact ⟨f, h1, by simp [h2]⟩
theorem fold_stp : ∀ (l out : List Fd), UpF l → UpF out → UpF (l.foldl stpF out) ∧ ∀ q, getF q (l.foldl stpF out) = match getF q l with | none => getF q out | some g => some (updF g (getF q out))
 | [], out, _, ho => ⟨ho, fun q => rfl⟩
 | g :: l, out, hl, ho => by
  have h' := List.pairwise_cons.1 hl
  have h1 : UpF (stpF out g) := Up.put ordB ho
  obtain ⟨k1, k2⟩ := fold_stp l (stpF out g) h'.2 h1
  refine ⟨k1, fun q => ?_⟩
  rw [List.foldl_cons, k2]
  have hs : getF q (stpF out g) = if q = g.nm then some (updF g (getF g.nm out)) else getF q out := getG_put ordB ho
  rw [hs]
  have hc : getF q (g :: l) = if g.nm = q then some g else getF q l := getG_cons ..
  rw [hc]
  by_cases hq : q = g.nm
  ·have hn : getF q l = none := getG_lt ordB hl (.inr hq)
   simp only [hn, if_pos hq, if_pos hq.symm]
   rw [hq]
  ·simp only [if_neg hq, if_neg (fun e => hq (Eq.symm e))]
open Classical in
theorem fold_put (F : ByteArray → Fd) (hF : ∀ n, (F n).nm = n) : ∀ (ns : List ByteArray) (out : List Fd), UpF out → UpF (ns.foldl (fun out n => putF (F n) out) out) ∧ ∀ q, getF q (ns.foldl (fun out n => putF (F n) out) out) = if q ∈ ns then some (F q) else getF q out
 | [], out, ho => ⟨ho, fun q => by simp⟩
 | n :: ns, out, ho => by
  have h1 : UpF (putF (F n) out) := Up.put ordB ho
  obtain ⟨k1, k2⟩ := fold_put F hF ns _ h1
  refine ⟨k1, fun q => ?_⟩
  rw [List.foldl_cons, k2]
  have hs : getF q (putF (F n) out) = if q = (F n).nm then some (F n) else getF q out := getG_put ordB ho
  rw [hs, hF]
  by_cases hq : q = n
  ·subst hq; simp
  ·by_cases hm : q ∈ ns <;> simp [hq, hm]
theorem getF_dim (b : List Fd) (q : ByteArray) : ∀ a : List Fd, getF q (a.map (dimF b)) = (getF q a).map (dimF b)
 | [] => rfl
 | f :: a => by
  have h1 : getF q (dimF b f :: a.map (dimF b)) = if f.nm = q then some (dimF b f) else getF q (a.map (dimF b)) := getG_cons ..
  have h2 : getF q (f :: a) = if f.nm = q then some f else getF q a := getG_cons ..
  rw [List.map_cons, h1, h2, getF_dim b q a]
  by_cases h : f.nm = q <;> simp [h]
theorem joinP_up {a b : List Fd} (ha : UpF a) (hb : UpF b) : UpF (joinP a b) ∧ UpF (a.map (dimF b)) := by
 have h : UpF (a.map (dimF b)) := by
  unfold UpF Up
  rw [List.pairwise_map]
  exact ha
 exact ⟨(fold_stp b _ hb h).1, h⟩
theorem join_eq {a b : List Fd} (ha : UpF a) (hb : UpF b) (na : ∀ f, f ∈ a → normA f.vals = f.vals) : joinP a b = joinR a b := by
 obtain ⟨hp, hd⟩ := joinP_up ha hb
 have hR := fold_put (fldR a b) (fun _ => rfl) ((a ++ b).map Fd.nm) [] List.Pairwise.nil
 refine Up.ext ordB hp hR.1 (fun q => ?_)
 have h1 : getF q (joinP a b) = _ := (fold_stp b _ hb hd).2 q
 have h2 : getF q (joinR a b) = _ := hR.2 q
 show getF q (joinP a b) = getF q (joinR a b)
 rw [h1, h2, getF_dim]
 have hm : (q ∈ (a ++ b).map Fd.nm) ↔ (getF q a).isSome = true ∨ (getF q b).isSome = true := by
  rw [List.map_append, List.mem_append, getF_isSome, getF_isSome]
 cases hqa : getF q a with
 | none =>
  cases hqb : getF q b with
  | none => rw [if_neg (by rw [hm, hqa, hqb]; simp)]; rfl
  | some g =>
   rw [if_pos (by rw [hm, hqa, hqb]; simp)]
   simp only [updF, fldR, hqa, hqb, Option.map_none, Option.isSome_none, Option.isSome_some, Bool.false_and, Option.getD_none, Option.getD_some, fdZ]
   rw [(getF_nm hqb).1]
 | some f =>
  have hf := getF_nm hqa
  cases hqb : getF q b with
  | none =>
   rw [if_pos (by rw [hm, hqa, hqb]; simp)]
   simp only [fldR, dimF, hqa, hqb, hf.1, Option.map_some, Option.isSome_none, Option.isSome_some, Bool.and_false, Bool.false_and, Option.getD_none, Option.getD_some, fdZ, List.append_nil, na f hf.2, getF]
  | some g =>
   rw [if_pos (by rw [hm, hqa, hqb]; simp)]
   have h3 : (getG Fd.nm q b).isSome = true := by rw [show getG Fd.nm q b = some g from hqb]; rfl
   simp only [updF, fldR, dimF, hqa, hqb, hf.1, (getF_nm hqb).1, Option.map_some, Option.isSome_some, Bool.and_true, Bool.true_and, Option.getD_some, h3, getF]
theorem upF_may : ∀ {p : Option ByteArray} {l : List Fd}, upF p l = true → (∀ f, f ∈ l → mayA f.vals = true) ∧ UpF l ∧ ∀ q, p = some q → ∀ f, f ∈ l → strLt q f.nm = true
 | p, [], _ => ⟨fun f h => (by cases h), List.Pairwise.nil, fun q _ f h => by cases h⟩
 | p, f :: l, h => by
  unfold upF at h
  rw [Bool.and_eq_true, Bool.and_eq_true] at h
  obtain ⟨h1, h2, h3⟩ := h
  obtain ⟨k1, k2, k3⟩ := upF_may h3
  refine ⟨fun g hg => ?_, List.pairwise_cons.2 ⟨fun g hg => k3 _ rfl g hg, k2⟩, fun q hq g hg => ?_⟩
  ·rcases List.mem_cons.1 hg with rfl | hg
   ·exact h1
   ·exact k1 g hg
  ·subst hq
   rcases List.mem_cons.1 hg with rfl | hg
   ·exact h2
   ·exact sl_trans h2 (k3 _ rfl g hg)
theorem may_upF : ∀ {p : Option ByteArray} {l : List Fd}, (∀ f, f ∈ l → mayA f.vals = true) → UpF l → (∀ q, p = some q → ∀ f, f ∈ l → strLt q f.nm = true) → upF p l = true
 | p, [], _, _, _ => rfl
 | p, f :: l, h1, h2, h3 => by
  unfold upF
  have h' := List.pairwise_cons.1 h2
  rw [h1 f (List.mem_cons_self ..), may_upF (fun g hg => h1 g (List.mem_cons_of_mem _ hg)) h'.2 (fun q hq g hg => by cases hq; exact h'.1 g hg)]
  cases p with
  | none => rfl
  | some q => simp [h3 q rfl f (List.mem_cons_self ..)]
/-- Two shapes joined. -/
def joinSh (a b : Sh) : Sh := if mayS a = true ∧ mayS b = true then ⟨joinP a.fields b.fields, normA (a.proto ++ b.proto)⟩ else ⟨[], []⟩
theorem joinP_may {a b : List Fd} (ha : UpF a) (hb : UpF b) (na : ∀ f, f ∈ a → mayA f.vals = true) : ∀ f, f ∈ joinP a b → mayA f.vals = true := by
 have key : ∀ (l out : List Fd), (∀ f, f ∈ out → mayA f.vals = true) → ∀ f, f ∈ l.foldl stpF out → mayA f.vals = true := by
  intro l
  induction l with
  | nil => exact fun out h => h
  | cons g l ih =>
   intro out h
   refine ih _ (fun f hf => ?_)
   rcases putG_mem hf with rfl | hf
   ·exact mayA_norm _
   ·exact h f hf
 refine key b _ (fun f hf => ?_)
 obtain ⟨g, hg, rfl⟩ := List.mem_map.1 hf
 exact na g hg
theorem joinSh_may (a b : Sh) : mayS (joinSh a b) = true := by
 unfold joinSh
 split
 ·rename_i h
  obtain ⟨h1, h2⟩ := h
  unfold mayS at h1 h2 ⊢
  rw [Bool.and_eq_true] at h1 h2 ⊢
  obtain ⟨k1, k2, _⟩ := upF_may h1.1
  obtain ⟨m1, m2, _⟩ := upF_may h2.1
  exact ⟨may_upF (joinP_may k2 m2 k1) (joinP_up k2 m2).1 (fun q hq => by cases hq), mayA_norm _⟩
 ·unfold mayS
  simp [upF, mayA, normA_nil]
end Go.Proofs.YtnoahchdmkpleaaGreat.VA

/-! Gr1 -/
namespace Go.Proofs.YtnoahchdmkpleaaGreat.VA
open Go Go.Shelf Go.RowKit
set_option linter.unusedVariables false
set_option linter.unusedSimpArgs false
/-- slices.Grow of the nil slice. -/
def grwN (e : TypeId) (sz : Nat) (args : List AV) (H : Heap) : Option (AV × List U) :=
 match args with
 | [.sl .nil [], .lit (.int .i64 n)] => if n = 0 then some (.sl .nil [], []) else if 0 < n ∧ n ≤ 1000000000000 then some (.sl (.own H.next e sz) [], [.live H.next true]) else none
 | _ => none
theorem relL2' {g : Gh} {w : World} {x y : AV} {vs : Array Value} (h : RelL g w [x, y] vs.toList) : ∃ a b, vs = #[a, b] ∧ Rel g w x a ∧ Rel g w y b := by
 obtain ⟨h1, h2⟩ := h
 match hv : vs.toList, h1 with
 | [a, b], _ => exact ⟨a, b, by rw [← Array.toArray_toList (xs := vs), hv], h2 0 x a rfl (by rw [hv]; rfl), h2 1 y b rfl (by rw [hv]; rfl)⟩
theorem grw_own {g : Gh} {H : Heap} {w : World} (hi : Inv g H w) (ht : Top g H.next) {e : TypeId} {sz G : Nat} {vs : Array Value} (hG : G ≤ maxLen) (hvs : vs.size = G * sz) :
  ∃ g', Past H.next g w g' (appU { H with next := H.next + 1 } [.live H.next true]) (w.drew.alloc (.cells vs e)) ∧ Rel g' (w.drew.alloc (.cells vs e)) (.sl (.own H.next e sz) []) (.slice (some ⟨w.heap.size, 0, none⟩) 0 G) := by
 obtain ⟨hd1, hd2⟩ := hi.drew
 obtain ⟨he, hinv⟩ := inv_ownNew (H1 := H.setLive H.next true) (n := 0) (cap := G) (sz := sz) (vs := vs) (e := e) hd2 (fresh_next hi ht) (Nat.zero_le _) hG hvs (fun _ => rfl)
  (fun k hk => by rw [Heap.isLive_setLive] at hk; split at hk <;> simp_all)
 have he2 := hd1.trans he
 refine ⟨_, tolH_past (us := [.live H.next true]) ht he2 hinv (fun r hr => ⟨rfl, by simp only [Gh.addOwn]; rw [if_neg hr]⟩), ?_⟩
 refine .sl _ [] _ 0 G sz (fun _ => undef) (by simp) rfl (Nat.zero_le _) (by simp) ?_ (by simp) (by simp) (fun h => absurd rfl h) (by simp)
 intro s e' z hs
 cases hs
 exact ⟨rfl, _, rfl, by simp [Gh.addOwn]⟩
set_option maxHeartbeats 4000000 in
set_option maxRecDepth 100000 in
theorem growBind_zero (w : World) : Calls Tryz.prog 129 #[.slice none 0 0, .int .i64 0] w fun e w' => e = .returned (.slice none 0 0) ∧ w' = w := by
 go_enter Tryz.func129, Tryz.ntmps129
 go_wp2
 go_ret
 exact ⟨rfl, rfl⟩
set_option maxHeartbeats 4000000 in
set_option maxRecDepth 100000 in
theorem growBind_pos (n : Nat) (w : World) (h0 : 0 < n) (hn : n ≤ 1000000000000) : ∃ (G : Nat) (vs : Array Value), G ≤ maxLen ∧ vs.size = G * 2 ∧
  Calls Tryz.prog 129 #[.slice none 0 0, .int .i64 n] w fun e w' => e = .returned (.slice (some ⟨w.heap.size, 0, none⟩) 0 G) ∧ w' = w.drew.alloc (.cells vs 76) := by
 have ht : Tryz.prog.underlying 23 = some (.slice 76) := by kernel_rfl
 have htn : Tryz.prog.underlying 3 = some (.int .i64) := by kernel_rfl
 have hel : tElem Tryz.prog 23 = some (76, 2, 40) := by kernel_rfl
 obtain ⟨hu, i0, hi0, hsz, hby⟩ := tElem_spec hel
 have hzo : zeroOk Tryz.prog 76 2 = true := by kernel_rfl
 obtain ⟨i', z, hi', hz0, hzsz⟩ := zeroOk_spec hzo
 rw [hi0] at hi'
 simp only [Option.some.injEq] at hi'
 subst hi'
 have hold : (Builtin.firstCells i0.size 0 (.slice none 0 0)).run Tryz.prog w.drew = .ok #[] w.drew := run_firstCells_none w.drew i0.size 0 0 0
 have hb40 : (0 + n) * i0.bytes ≤ 140737488355328 := by rw [hby]; omega
 have h := Lib.run_append_grow_zeros w 23 3 23 76 i0 z .i64 .i64 ht htn hi0 hz0 none 0 0 [] hold n (by omega) (by omega) (by omega) (by omega)
  (by rw [hby]; omega) (growslice_fits (by omega) hb40)
 have hG1 := grownCap_ge w (0 + n) 0 76
 have hG2 := grownCap_le_maxLen w (0 + n) 0 76 (by unfold maxLen; omega)
 refine ⟨grownCap w (0 + n) 0 76, (([] : List Value).toArray ++ Builtin.zeroCells z.cells n ++ Builtin.zeroCells z.cells (grownCap w (0 + n) 0 76 - (0 + n))), hG2, ?_, ?_⟩
 rotate_left
 ·obtain ⟨G, hG⟩ : ∃ G, G = grownCap w (0 + n) 0 76 := ⟨_, rfl⟩
  rw [← hG] at h hG1 hG2 ⊢
  simp only [Nat.zero_add] at h hG1
  have hG63 : G ≤ 9223372036854775807 := hG2
  have hn1 : ¬ ((n : Int) < 0) := by omega
  have hn2 : wrap64 (n : Int) = n := by unfold wrap64; omega
  have hn3 : (n : Int) > 0 := by omega
  clear hold hG hb40
  go_enter Tryz.func129, Tryz.ntmps129
  go_wp2_with (at_builtin; refine Lib.wpList_append_run _ rfl _ _ _ _ rfl _ _ rfl rfl _ _ h ?_)
  all_goals (go_ret; exact ⟨rfl, rfl⟩)
 ·simp only [Array.size_append, size_zeroCells, hzsz, List.size_toArray, List.length_nil, Nat.zero_add] at hG1 ⊢
  rw [← Nat.add_mul, Nat.add_sub_cancel' hG1]
theorem growBind_ok (C : Cond) : TolHOk Tryz.prog C 129 (grwN 76 2) := by
 refine ⟨fun vs w => callFunc_enter (fn := Tryz.f129) (by kernel_rfl) (by kernel_rfl) rfl vs w, fun args H v us h g w vs hC hi ht hr => ?_⟩
 unfold grwN at h
 split at h
 ·rename_i n
  obtain ⟨a, b, rfl, ha, hb⟩ := relL2' hr
  have hb' := hb.lit_inv
  subst hb'
  have ha' : a = .slice none 0 0 := by cases ha with
   | nil => rfl
   | sl o es a n cap sz f ho => exact absurd rfl ho
  subst ha'
  split at h
  ·rename_i hn
   subst hn
   simp only [Option.some.injEq, Prod.mk.injEq] at h
   obtain ⟨rfl, rfl⟩ := h
   refine (growBind_zero w).mono fun en w' hp => ?_
   obtain ⟨rfl, rfl⟩ := hp
   exact ⟨_, g, rfl, tolH_past (us := []) ht (Ext.refl g _) hi (fun _ _ => ⟨rfl, rfl⟩), .nil⟩
  ·split at h
   ·rename_i hn
    simp only [Option.some.injEq, Prod.mk.injEq] at h
    obtain ⟨rfl, rfl⟩ := h
    obtain ⟨m, rfl⟩ : ∃ m : Nat, n = (m : Int) := ⟨n.toNat, by omega⟩
    obtain ⟨G, vs, h1, h2, h3⟩ := growBind_pos m w (by omega) (by omega)
    refine h3.mono fun en w' hp => ?_
    obtain ⟨rfl, rfl⟩ := hp
    obtain ⟨g', p1, p2⟩ := grw_own (e := 76) hi ht h1 h2
    exact ⟨_, g', rfl, p1, p2⟩
   ·cases h
 ·cases h
set_option maxHeartbeats 4000000 in
set_option maxRecDepth 100000 in
theorem growAtom_zero (w : World) : Calls Tryz.prog 173 #[.slice none 0 0, .int .i64 0] w fun e w' => e = .returned (.slice none 0 0) ∧ w' = w := by
 go_enter Tryz.func173, Tryz.ntmps173
 go_wp2
 go_ret
 exact ⟨rfl, rfl⟩
set_option maxHeartbeats 4000000 in
set_option maxRecDepth 100000 in
theorem growAtom_pos (n : Nat) (w : World) (h0 : 0 < n) (hn : n ≤ 1000000000000) : ∃ (G : Nat) (vs : Array Value), G ≤ maxLen ∧ vs.size = G * 2 ∧
  Calls Tryz.prog 173 #[.slice none 0 0, .int .i64 n] w fun e w' => e = .returned (.slice (some ⟨w.heap.size, 0, none⟩) 0 G) ∧ w' = w.drew.alloc (.cells vs 81) := by
 have ht : Tryz.prog.underlying 50 = some (.slice 81) := by kernel_rfl
 have htn : Tryz.prog.underlying 3 = some (.int .i64) := by kernel_rfl
 have hel : tElem Tryz.prog 50 = some (81, 2, 16) := by kernel_rfl
 obtain ⟨hu, i0, hi0, hsz, hby⟩ := tElem_spec hel
 have hzo : zeroOk Tryz.prog 81 2 = true := by kernel_rfl
 obtain ⟨i', z, hi', hz0, hzsz⟩ := zeroOk_spec hzo
 rw [hi0] at hi'
 simp only [Option.some.injEq] at hi'
 subst hi'
 have hold : (Builtin.firstCells i0.size 0 (.slice none 0 0)).run Tryz.prog w.drew = .ok #[] w.drew := run_firstCells_none w.drew i0.size 0 0 0
 have hb16 : (0 + n) * i0.bytes ≤ 140737488355328 := by rw [hby]; omega
 have h := Lib.run_append_grow_zeros w 50 3 50 81 i0 z .i64 .i64 ht htn hi0 hz0 none 0 0 [] hold n (by omega) (by omega) (by omega) (by omega)
  (by rw [hby]; omega) (growslice_fits (by omega) hb16)
 have hG1 := grownCap_ge w (0 + n) 0 81
 have hG2 := grownCap_le_maxLen w (0 + n) 0 81 (by unfold maxLen; omega)
 refine ⟨grownCap w (0 + n) 0 81, (([] : List Value).toArray ++ Builtin.zeroCells z.cells n ++ Builtin.zeroCells z.cells (grownCap w (0 + n) 0 81 - (0 + n))), hG2, ?_, ?_⟩
 rotate_left
 ·obtain ⟨G, hG⟩ : ∃ G, G = grownCap w (0 + n) 0 81 := ⟨_, rfl⟩
  rw [← hG] at h hG1 hG2 ⊢
  simp only [Nat.zero_add] at h hG1
  have hG63 : G ≤ 9223372036854775807 := hG2
  have hn1 : ¬ ((n : Int) < 0) := by omega
  have hn2 : wrap64 (n : Int) = n := by unfold wrap64; omega
  have hn3 : (n : Int) > 0 := by omega
  clear hold hG hb16
  go_enter Tryz.func173, Tryz.ntmps173
  go_wp2_with (at_builtin; refine Lib.wpList_append_run _ rfl _ _ _ _ rfl _ _ rfl rfl _ _ h ?_)
  all_goals (go_ret; exact ⟨rfl, rfl⟩)
 ·simp only [Array.size_append, size_zeroCells, hzsz, List.size_toArray, List.length_nil, Nat.zero_add] at hG1 ⊢
  rw [← Nat.add_mul, Nat.add_sub_cancel' hG1]
theorem growAtom_ok (C : Cond) : TolHOk Tryz.prog C 173 (grwN 81 2) := by
 refine ⟨fun vs w => callFunc_enter (fn := Tryz.f173) (by kernel_rfl) (by kernel_rfl) rfl vs w, fun args H v us h g w vs hC hi ht hr => ?_⟩
 unfold grwN at h
 split at h
 ·rename_i n
  obtain ⟨a, b, rfl, ha, hb⟩ := relL2' hr
  have hb' := hb.lit_inv
  subst hb'
  have ha' : a = .slice none 0 0 := by cases ha with
   | nil => rfl
   | sl o es a n cap sz f ho => exact absurd rfl ho
  subst ha'
  split at h
  ·rename_i hn
   subst hn
   simp only [Option.some.injEq, Prod.mk.injEq] at h
   obtain ⟨rfl, rfl⟩ := h
   refine (growAtom_zero w).mono fun en w' hp => ?_
   obtain ⟨rfl, rfl⟩ := hp
   exact ⟨_, g, rfl, tolH_past (us := []) ht (Ext.refl g _) hi (fun _ _ => ⟨rfl, rfl⟩), .nil⟩
  ·split at h
   ·rename_i hn
    simp only [Option.some.injEq, Prod.mk.injEq] at h
    obtain ⟨rfl, rfl⟩ := h
    obtain ⟨m, rfl⟩ : ∃ m : Nat, n = (m : Int) := ⟨n.toNat, by omega⟩
    obtain ⟨G, vs, h1, h2, h3⟩ := growAtom_pos m w (by omega) (by omega)
    refine h3.mono fun en w' hp => ?_
    obtain ⟨rfl, rfl⟩ := hp
    obtain ⟨g', p1, p2⟩ := grw_own (e := 81) hi ht h1 h2
    exact ⟨_, g', rfl, p1, p2⟩
   ·cases h
 ·cases h
end Go.Proofs.YtnoahchdmkpleaaGreat.VA

/-! Ra6 -/
namespace Go.Proofs.YtnoahchdmkpleaaGreat.VA
open Go Go.RowKit
attribute [local go_sem] Nat.add_eq_left Nat.left_eq_add true_and and_true ite_true if_false Int.cast_ofNat_Int eq_self Nat.add_assoc Option.some.injEq decide_true decide_false Bool.not_true Bool.not_false List.size_toArray List.length_cons List.length_nil
set_option linter.unusedSimpArgs false
set_option maxRecDepth 100000

theorem bs1_num : aBuildSlice Tryz.prog 50 1 [(0, .agg [.lit (.int .i64 2), .lit (.int .i64 0)])] = some (.sl .ex [[.lit (.int .i64 2), .lit (.int .i64 0)]]) := bs1_atm (2, 0)
theorem bs1_dyn : aBuildSlice Tryz.prog 50 1 [(0, .agg [.lit (.int .i64 6), .lit (.int .i64 0)])] = some (.sl .ex [[.lit (.int .i64 6), .lit (.int .i64 0)]]) := bs1_atm (6, 0)
theorem c_rNull (H : Heap) : calls Tryz.prog cfgR 33 [] H = some (.ret (.sl .sh (encAs [(0, 0)])) H) := by
 refine calls_pure (fn := Tryz.f33) rfl rfl rfl rfl rfl ?_ H
 have rs : Tryz.f33.results.toList = [.tmp 0] := rfl
 simp only [go_sem, simprocAttr, rs]
 rfl
theorem c_rNum (H : Heap) : calls Tryz.prog cfgR 31 [] H = some (.ret (.sl .sh (encAs [(2, 0)])) H) := by
 refine calls_pure (fn := Tryz.f31) rfl rfl rfl rfl rfl ?_ H
 have rs : Tryz.f31.results.toList = [.tmp 0] := rfl
 simp only [go_sem, simprocAttr, rs, bs1_num]
 rfl
theorem c_rDyn (H : Heap) : calls Tryz.prog cfgR 20 [] H = some (.ret (.sl .sh (encAs [(6, 0)])) H) := by
 refine calls_pure (fn := Tryz.f20) rfl rfl rfl rfl rfl ?_ H
 have rs : Tryz.f20.results.toList = [.tmp 0] := rfl
 simp only [go_sem, simprocAttr, rs, bs1_dyn]
 rfl
theorem c_rVar (s : Sta) (hvl : s.vars.length ≤ LA) (q : ByteArray) (H : Heap) : calls Tryz.prog cfgR 19 [.agg (encSt s), .lit (.string q)] H = some (.ret (.sl .sh (encAs (varA q s.vars))) H) := by
 refine calls_pure (fn := Tryz.f19) rfl rfl rfl rfl rfl ?_ H
 have rs : Tryz.f19.results.toList = [.tmp 4] := rfl
 obtain ⟨dd, vs, ls⟩ := s
 simp only at hvl
 generalize hr : varA q vs = r
 unfold encSt
 simp only [go_sem, simprocAttr, rs]
 refine W_loop_ind (fun k e H => ∃ i : Nat, k = vs.length - i ∧ i ≤ vs.length ∧ (vs.take i).all (fun b => !decide (b.nm = q)) = true ∧ gget .bad e 1 = .lit (.string q) ∧ gget .bad e 2 = .ptr 0 0 ∧ gget .bad e 5 = .lit (.int .i64 (i : Nat)) ∧ H.get 0 = some [.lit (.bool dd), .sl .sh (vs.map encB), .sl .sh (ls.map encL)])
  vs.length ⟨0, rfl, by omega, rfl, by simp only [go_sem, simprocAttr], by simp only [go_sem, simprocAttr], by simp only [go_sem, simprocAttr], by simp only [go_sem, simprocAttr]⟩ ?_
 rintro k ih e H ⟨i, rfl, hle, hR, g1, g2, g5, hg⟩
 by_cases hl : i < vs.length
 ·have d1 : decide ((i : Int) < (vs.length : Nat)) = true := by simp; omega
  have hw1 := wrap1 (show i + 1 ≤ 9223372036854775807 by unfold LA at hvl; omega)
  have hA : iad (some (76, 2, 40)) (.sl .sh (vs.map encB)) (some i) = some (.ep [.lit (.string vs[i].nm), .sl .sh (encAs vs[i].vals)]) := iad_map (f := encB) hl (fun _ => rfl)
  by_cases hx : vs[i].nm = q
  ·have dx : decide (vs[i].nm = q) = true := by simpa using hx
   have hr' : vs[i].vals = r := by rw [← hr]; exact (varA_some hl hR hx).symm
   simp only [go_sem, simprocAttr, g1, g2, g5, hg, d1, hA, dx, rs, List.length_map, hr']
  ·have dx : decide (vs[i].nm = q) = false := by simpa using hx
   simp only [go_sem, simprocAttr, g1, g2, g5, hg, d1, hA, dx, hw1, List.length_map]
   exact ih (vs.length - (i + 1)) (by omega) _ _ ⟨i + 1, rfl, by omega, by rw [List.take_succ_eq_append_getElem hl, List.all_append, hR]; simp [hx], by simp only [go_sem, simprocAttr, g1], by simp only [go_sem, simprocAttr, g2], by simp only [go_sem, simprocAttr], by simp only [go_sem, simprocAttr, hg]⟩
 ·have d1 : decide ((i : Int) < (vs.length : Nat)) = false := by simp; omega
  rw [List.take_of_length_le (by omega)] at hR
  have hr' : r = [(0, 0)] := by rw [← hr]; exact varA_none hR
  subst hr'
  simp only [go_sem, simprocAttr, g1, g2, g5, hg, d1, rs, List.length_map, c_rNull]
def smB (b : Bnd) : Bool := decide (b.vals.length ≤ 40)
def smF (f : Fd) : Bool := decide (f.vals.length ≤ 40)
def smL (l : Lc) : Bool := decide (l.shape.fields.length ≤ 40) && (decide (l.shape.proto.length ≤ 40) && l.shape.fields.all smF)
def smT (s : Sta) : Bool := decide (s.vars.length ≤ 40) && (decide (s.locs.length ≤ 40) && (s.vars.all smB && s.locs.all smL))
theorem gt_le (n : Nat) : decide ((40 : Int) < (n : Nat)) = !decide (n ≤ 40) := by rw [← decide_not]; exact decide_eq_decide.2 (by omega)
theorem c_small (s : Sta) (H : Heap) : calls Tryz.prog cfgR 10 [.agg (encSt s)] H = some (.ret (.lit (.bool (smT s))) H) := by
 refine calls_pure (fn := Tryz.f10) rfl rfl rfl rfl rfl ?_ H
 have rs : Tryz.f10.results.toList = [.tmp 2] := rfl
 obtain ⟨dd, vs, ls⟩ := s
 generalize hr : smT ⟨dd, vs, ls⟩ = r
 unfold smT at hr
 simp only at hr
 unfold encSt
 by_cases hv : vs.length ≤ 40
 ·by_cases hl : ls.length ≤ 40
  ·have dv : decide (vs.length ≤ 40) = true := by simpa using hv
   have dl : decide (ls.length ≤ 40) = true := by simpa using hl
   rw [dv, dl, Bool.true_and, Bool.true_and] at hr
   simp only [go_sem, simprocAttr, rs, List.length_map, gt_le, dv, dl]
   refine W_loop_ind (fun k e H => ∃ i : Nat, k = vs.length - i ∧ i ≤ vs.length ∧ ((vs.drop i).all smB && ls.all smL) = r ∧ gget .bad e 1 = .ptr 0 0 ∧ gget .bad e 3 = .lit (.int .i64 (i : Nat)) ∧ H.get 0 = some [.lit (.bool dd), .sl .sh (vs.map encB), .sl .sh (ls.map encL)])
    vs.length ⟨0, rfl, by omega, hr, by simp only [go_sem, simprocAttr], by simp only [go_sem, simprocAttr], by simp only [go_sem, simprocAttr]⟩ ?_
   rintro k ih e H ⟨i, rfl, hle, hR, g1, g3, hg⟩
   by_cases hlt : i < vs.length
   ·have d1 : decide ((i : Int) < (vs.length : Nat)) = true := by simp; omega
    have hw1 := wrap1 (show i + 1 ≤ 9223372036854775807 by omega)
    have hA : iad (some (76, 2, 40)) (.sl .sh (vs.map encB)) (some i) = some (.ep [.lit (.string vs[i].nm), .sl .sh (encAs vs[i].vals)]) := iad_map (f := encB) hlt (fun _ => rfl)
    rw [drop_at hlt, List.all_cons] at hR
    cases hx : smB vs[i] with
    | true =>
     have hx' : decide (vs[i].vals.length ≤ 40) = true := hx
     rw [hx, Bool.true_and] at hR
     simp only [go_sem, simprocAttr, g1, g3, hg, d1, hA, hw1, List.length_map, gt_le, hx']
     exact ih (vs.length - (i + 1)) (by omega) _ _ ⟨i + 1, rfl, by omega, hR, by simp only [go_sem, simprocAttr, g1], by simp only [go_sem, simprocAttr], by simp only [go_sem, simprocAttr, hg]⟩
    | false =>
     have hx' : decide (vs[i].vals.length ≤ 40) = false := hx
     rw [hx, Bool.false_and, Bool.false_and] at hR
     subst hR
     simp only [go_sem, simprocAttr, g1, g3, hg, d1, hA, hw1, List.length_map, gt_le, hx', rs]
   ·have d1 : decide ((i : Int) < (vs.length : Nat)) = false := by simp; omega
    rw [List.drop_of_length_le (by omega), List.all_nil, Bool.true_and] at hR
    clear ih
    simp only [go_sem, simprocAttr, g1, g3, hg, d1, List.length_map]
    refine W_loop_ind (fun k e H => ∃ i : Nat, k = ls.length - i ∧ i ≤ ls.length ∧ (ls.drop i).all smL = r ∧ gget .bad e 1 = .ptr 0 0 ∧ gget .bad e 4 = .lit (.int .i64 (i : Nat)) ∧ H.get 0 = some [.lit (.bool dd), .sl .sh (vs.map encB), .sl .sh (ls.map encL)])
     ls.length ⟨0, rfl, by omega, hR, by simp only [go_sem, simprocAttr, g1], by simp only [go_sem, simprocAttr], by simp only [go_sem, simprocAttr, hg]⟩ ?_
    clear hg g1 g3 hR
    rintro k ih e H ⟨i, rfl, hle, hR, g1, g4, hg⟩
    by_cases hlt : i < ls.length
    ·have d1 : decide ((i : Int) < (ls.length : Nat)) = true := by simp; omega
     have hw1 := wrap1 (show i + 1 ≤ 9223372036854775807 by omega)
     have hA : iad (some (83, 4, 64)) (.sl .sh (ls.map encL)) (some i) = some (.ep [.lit (.int .i64 ls[i].atom.1), .lit (.int .i64 ls[i].atom.2), .sl .sh (ls[i].shape.fields.map encF), .sl .sh (encAs ls[i].shape.proto)]) := iad_map (f := encL) hlt (fun _ => rfl)
     rw [drop_at hlt, List.all_cons] at hR
     generalize ls[i] = x at hA hR
     by_cases hf : x.shape.fields.length ≤ 40
     ·have df : decide (x.shape.fields.length ≤ 40) = true := by simpa using hf
      by_cases hp : x.shape.proto.length ≤ 40
      ·have dp : decide (x.shape.proto.length ≤ 40) = true := by simpa using hp
       have hR2 : (x.shape.fields.all smF && (ls.drop (i + 1)).all smL) = r := by rw [← hR]; simp [smL, hf, hp]
       simp only [go_sem, simprocAttr, g1, g4, hg, d1, hA, List.length_map, gt_le, df, dp]
       refine W_loop_ind (fun k e H => ∃ j : Nat, k = x.shape.fields.length - j ∧ j ≤ x.shape.fields.length ∧ ((x.shape.fields.drop j).all smF && (ls.drop (i + 1)).all smL) = r ∧ gget .bad e 1 = .ptr 0 0 ∧ gget .bad e 4 = .lit (.int .i64 (i : Nat)) ∧ gget .bad e 5 = .lit (.int .i64 (j : Nat)) ∧ H.get 0 = some [.lit (.bool dd), .sl .sh (vs.map encB), .sl .sh (ls.map encL)])
        x.shape.fields.length ⟨0, rfl, by omega, hR2, by simp only [go_sem, simprocAttr, g1], by simp only [go_sem, simprocAttr, g4], by simp only [go_sem, simprocAttr], by simp only [go_sem, simprocAttr, hg]⟩ ?_
       clear hg g1 g4 hR
       rintro k ih2 e H ⟨j, rfl, hlj, hR, g1, g4, g5, hg⟩
       by_cases hlt2 : j < x.shape.fields.length
       ·have d2 : decide ((j : Int) < (x.shape.fields.length : Nat)) = true := by simp; omega
        have hw2 := wrap1 (show j + 1 ≤ 9223372036854775807 by omega)
        have hB : iad (some (85, 3, 48)) (.sl .sh (x.shape.fields.map encF)) (some j) = some (.ep [.lit (.string x.shape.fields[j].nm), .lit (.bool x.shape.fields[j].sure), .sl .sh (encAs x.shape.fields[j].vals)]) := iad_map (f := encF) hlt2 (fun _ => rfl)
        rw [drop_at hlt2, List.all_cons] at hR
        cases hx : smF x.shape.fields[j] with
        | true =>
         have hx' : decide (x.shape.fields[j].vals.length ≤ 40) = true := hx
         rw [hx, Bool.true_and] at hR
         simp only [go_sem, simprocAttr, g1, g4, g5, hg, d2, hA, hB, hw2, List.length_map, gt_le, hx']
         exact ih2 (x.shape.fields.length - (j + 1)) (by omega) _ _ ⟨j + 1, rfl, by omega, hR, by simp only [go_sem, simprocAttr, g1], by simp only [go_sem, simprocAttr, g4], by simp only [go_sem, simprocAttr], by simp only [go_sem, simprocAttr, hg]⟩
        | false =>
         have hx' : decide (x.shape.fields[j].vals.length ≤ 40) = false := hx
         rw [hx, Bool.false_and, Bool.false_and] at hR
         subst hR
         simp only [go_sem, simprocAttr, g1, g4, g5, hg, d2, hA, hB, hw2, List.length_map, gt_le, hx', rs]
       ·have d2 : decide ((j : Int) < (x.shape.fields.length : Nat)) = false := by simp; omega
        rw [List.drop_of_length_le (by omega), List.all_nil, Bool.true_and] at hR
        simp only [go_sem, simprocAttr, g1, g4, g5, hg, d2, hA, hw1, List.length_map]
        exact ih (ls.length - (i + 1)) (by omega) _ _ ⟨i + 1, rfl, by omega, hR, by simp only [go_sem, simprocAttr, g1], by simp only [go_sem, simprocAttr], by simp only [go_sem, simprocAttr, hg]⟩
      ·have dp : decide (x.shape.proto.length ≤ 40) = false := by simpa using hp
       have hR2 : r = false := by rw [← hR]; simp [smL, hp]
       subst hR2
       simp only [go_sem, simprocAttr, g1, g4, hg, d1, hA, List.length_map, gt_le, df, dp, rs]
     ·have df : decide (x.shape.fields.length ≤ 40) = false := by simpa using hf
      have hR2 : r = false := by rw [← hR]; simp [smL, hf]
      subst hR2
      simp only [go_sem, simprocAttr, g1, g4, hg, d1, hA, List.length_map, gt_le, df, rs]
    ·have d1 : decide ((i : Int) < (ls.length : Nat)) = false := by simp; omega
     rw [List.drop_of_length_le (by omega), List.all_nil] at hR
     subst hR
     simp only [go_sem, simprocAttr, g1, g4, hg, d1, List.length_map, rs]
  ·have dv : decide (vs.length ≤ 40) = true := by simpa using hv
   have dl : decide (ls.length ≤ 40) = false := by simpa using hl
   rw [dl, Bool.false_and, Bool.and_false] at hr
   subst hr
   simp only [go_sem, simprocAttr, rs, List.length_map, gt_le, dv, dl]
 ·have dv : decide (vs.length ≤ 40) = false := by simpa using hv
  rw [dv, Bool.false_and] at hr
  subst hr
  simp only [go_sem, simprocAttr, rs, List.length_map, gt_le, dv]
theorem smT_ok {s : Sta} (h : smT s = true) : StOk s ∧ s.vars.length + 1 ≤ LA := by
 unfold smT at h
 simp only [Bool.and_eq_true, decide_eq_true_eq] at h
 obtain ⟨h1, h2, h3, h4⟩ := h
 refine ⟨⟨fun b hb => ?_, by unfold LA; omega, fun l hl => ?_, by unfold LA; omega⟩, by unfold LA; omega⟩
 ·have := List.all_eq_true.1 h3 b hb
  simp only [smB, decide_eq_true_eq] at this
  unfold BOk LA; omega
 ·have := List.all_eq_true.1 h4 l hl
  simp only [smL, Bool.and_eq_true, decide_eq_true_eq] at this
  obtain ⟨q1, q2, q3⟩ := this
  refine ⟨fun f hf => ?_, by unfold LA; omega, by unfold LA; omega⟩
  have := List.all_eq_true.1 q3 f hf
  simp only [smF, decide_eq_true_eq] at this
  unfold FOk LA; omega
end Go.Proofs.YtnoahchdmkpleaaGreat.VA
