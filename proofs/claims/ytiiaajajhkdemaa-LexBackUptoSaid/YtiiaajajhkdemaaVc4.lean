/- What is proved: memory, appending and slices in the abstract interpreter (VA), as equations to rewrite with. No condition. -/
import Derived.Test.YtiiaajajhkdemaaVc3
namespace Go.Proofs.Ytiiaajajhkdemaa.VA
open Go Go.RowKit
set_option linter.unusedSimpArgs false

attribute [go_sem] Heap.get_put Heap.isLive_put Heap.next_put Heap.isLive_setLive Heap.get_setLive Heap.next_setLive Heap.get_empty Heap.isLive_empty Heap.next_empty
section
variable {P : Program} {H : Heap} {id : Nat}
def laid1 (o : Option (List AV)) : Option (List AV) := o
@[go_sem] theorem lay_some (off size : Nat) (v cells : List AV) :
    lay (some (off, size)) v cells = if v.length = size ∧ off + size ≤ cells.length ∧ v.all AV.one = true then some (cells.take off ++ (v ++ cells.drop (off + size))) else none := rfl
attribute [go_sem] List.all_cons List.all_nil List.take_zero List.take_nil List.drop_nil List.drop_zero List.take_succ_cons List.drop_succ_cons Bool.and_true Bool.true_and and_self if_true
def stoK (n : Option Nat) (cs : Option (List AV)) (r off : Nat) (v : List AV) : Option (List U) :=
  match n, cs with
  | some n, some cs => (lay (some (off, n)) v cs).map fun cs => [.box r cs]
  | _, _ => none
@[go_sem] theorem store_eq (t : TypeId) (r off : Nat) (v : AV) : aStore P t (.ptr r off) v H = stoK (tSize P t) (H.get r) r off v.cells := by
  simp only [aStore, stoK]
  cases tSize P t with
  | none => rfl
  | some n =>
    cases hg : H.get r with
    | none => simp only [hg]
    | some cs =>
      simp only [hg, lay]
      split <;> rfl
@[go_sem] theorem stoK_some (n : Nat) (cs : List AV) (r off : Nat) (v : List AV) : stoK (some n) (some cs) r off v = (lay (some (off, n)) v cs).map fun cs => [.box r cs] := rfl
def ldK (b : Option Bool) (n : Option Nat) (cs : Option (List AV)) (r off : Nat) : Option (AV × List Nat) :=
  match b, n, cs with
  | some true, some n, some cs => if off + n ≤ cs.length then some (.agg ((cs.drop off).take n), [r]) else none
  | some false, _, some cs => (cs[off]?).map fun v => (v, [r])
  | _, _, _ => none
@[go_sem] theorem load_eq (t : TypeId) (r off : Nat) : aLoad P t (.ptr r off) H = ldK (tAgg P t) (tSize P t) (H.get r) r off := by
  simp only [aLoad, ldK]
  cases tAgg P t with
  | none => rfl
  | some b =>
    cases b with
    | true =>
      cases tSize P t with
      | none => rfl
      | some n => cases hg : H.get r <;> simp only [hg]
    | false =>
      cases hg : H.get r with
      | none => cases tSize P t <;> rfl
      | some cs =>
        simp only
        cases cs[off]? <;> cases tSize P t <;> rfl
@[go_sem] theorem ldK_true (n : Nat) (cs : List AV) (r off : Nat) : ldK (some true) (some n) (some cs) r off = if off + n ≤ cs.length then some (.agg ((cs.drop off).take n), [r]) else none := rfl
@[go_sem] theorem ldK_false (n : Option Nat) (cs : List AV) (r off : Nat) : ldK (some false) n (some cs) r off = (cs[off]?).map fun v => (v, [r]) := by cases n <;> rfl
def leK (b : Option Bool) (n : Option Nat) (cs : List AV) : Option (AV × List Nat) :=
  match b, n with
  | some true, some n => if n ≤ cs.length then some (.agg (cs.take n), []) else none
  | some false, _ => (cs[0]?).map fun v => (v, [])
  | _, _ => none
@[go_sem] theorem load_ep_eq (t : TypeId) (cs : List AV) : aLoad P t (.ep cs) H = leK (tAgg P t) (tSize P t) cs := by
  simp only [aLoad, leK]
  cases tAgg P t with
  | none => rfl
  | some b =>
    cases b with
    | true => cases tSize P t <;> rfl
    | false => cases tSize P t <;> cases cs <;> rfl
@[go_sem] theorem leK_true (n : Nat) (cs : List AV) : leK (some true) (some n) cs = if n ≤ cs.length then some (.agg (cs.take n), []) else none := rfl
@[go_sem] theorem leK_false (n : Option Nat) (cs : List AV) : leK (some false) n cs = (cs[0]?).map fun v => (v, []) := by cases n <;> rfl

/-! ### appending -/
def ownUs (o : Own) (id : Nat) : List U :=
  match o with
  | .own k _ _ => [.live k false, .live id true]
  | _ => [.live id true]
def ownRs (o : Own) : List Nat :=
  match o with
  | .own k _ _ => [k]
  | _ => []
theorem append_eq {t : TypeId} {e : TypeId} {sz bs : Nat} {o o' : Own} {es xs : List (List AV)} {x : List AV} (ht : tElem P t = some (e, sz, bs)) (hz : zeroOk P e sz = true) (hs : 0 < sz)
    (hb : (es.length + (xs.length + 1)) * bs ≤ 140737488355328) (hl : es.length + (xs.length + 1) ≤ 140737488355328) (hx : x.length = sz) (H : Heap) (id : Nat) (ho : OwnOk H o e sz) :
    aAppend P t (.sl o es) (.sl o' (x :: xs)) H id = some (.sl (.own id e sz) (es ++ sanLL (x :: xs)), ownUs o id, ownRs o) := by
  cases o with
  | nil => simp only [aAppend, ht]; rw [if_pos ⟨hx, hs, hz, hb, hl⟩]; rfl
  | own k e' z =>
    obtain ⟨rfl, rfl, h3⟩ := ho
    simp only [aAppend, ht]; rw [if_pos ⟨hx, hs, hz, hb, hl⟩, if_pos (by simp [h3])]; rfl
  | sh => exact ho.elim
  | ex => exact ho.elim
@[go_sem] theorem ownUs_get (o : Own) (r : Nat) : (appU H (ownUs o id)).get r = H.get r := by cases o <;> rfl
@[go_sem] theorem ownUs_next (o : Own) : (appU H (ownUs o id)).next = H.next := by cases o <;> rfl
@[go_sem] theorem OwnOk_ownUs (o : Own) (e : TypeId) (sz : Nat) : OwnOk (appU H (ownUs o id)) (.own id e sz) e sz = True := by
  apply eq_true
  cases o <;> simp [ownUs, appU, U.app, OwnOk]
@[go_sem] theorem OwnOk_up (n : Nat) (o : Own) (e : TypeId) (sz : Nat) : OwnOk (H.up n) o e sz = OwnOk H o e sz := by cases o <;> rfl
@[go_sem] theorem OwnOk_put (r : Nat) (cs : List AV) (o : Own) (e : TypeId) (sz : Nat) : OwnOk (H.put r cs) o e sz = OwnOk H o e sz := by cases o <;> rfl
@[go_sem] theorem OwnOk_nil (e : TypeId) (sz : Nat) : OwnOk H .nil e sz = True := rfl
/-- A literal of one element. -/
theorem build1 {t : TypeId} {e : TypeId} {sz bs : Nat} (ht : tElem P t = some (e, sz, bs)) (hs : sz ≤ 16777216) {z : List AV} (hz : tZero P e = some z) (hz1 : z.length = sz) (hz2 : z.all AV.one = true) (v : AV)
    (h1 : v.cells.length = sz) (h2 : v.cells.all AV.one = true) : aBuildSlice P t 1 [(0, v)] = some (.sl .ex [v.cells]) := by
  simp only [aBuildSlice, ht, hz]
  rw [if_pos (by omega), if_pos ⟨hz1, hz2⟩]
  simp only [aFill]
  have : (List.replicate 1 z).flatten = z := by simp
  rw [this, if_pos ⟨h1, by omega, h2⟩]
  simp only [Nat.zero_mul, Nat.zero_add, List.take_zero, List.nil_append]
  rw [List.drop_of_length_le (by omega), List.append_nil]
  simp only [chunk]
  rw [List.take_of_length_le (by omega)]
/-- An empty literal. -/
theorem build0 {t : TypeId} {e : TypeId} {sz bs : Nat} (ht : tElem P t = some (e, sz, bs)) {z : List AV} (hz : tZero P e = some z) (hz1 : z.length = sz) (hz2 : z.all AV.one = true) : aBuildSlice P t 0 [] = some (.sl .ex []) := by
  simp only [aBuildSlice, ht, hz]
  rw [if_pos (by omega), if_pos ⟨hz1, hz2⟩]
  rfl
/-- Appending to a literal without elements. -/
theorem append_ex {t : TypeId} {e : TypeId} {sz bs : Nat} {o' : Own} {xs : List (List AV)} {x : List AV} (ht : tElem P t = some (e, sz, bs)) (hz : zeroOk P e sz = true) (hs : 0 < sz)
    (hb : (0 + (xs.length + 1)) * bs ≤ 140737488355328) (hl : 0 + (xs.length + 1) ≤ 140737488355328) (hx : x.length = sz) (H : Heap) (id : Nat) :
    aAppend P t (.sl .ex []) (.sl o' (x :: xs)) H id = some (.sl (.own id e sz) (sanLL (x :: xs)), [.live id true], []) := by
  simp only [aAppend, ht]; rw [if_pos ⟨hx, hs, hz, hb, hl⟩]; rfl
end
end Go.Proofs.Ytiiaajajhkdemaa.VA
