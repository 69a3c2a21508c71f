/- What is proved: a function's call in the abstract interpreter (VA), by its body. No condition.
What is proved: memory, appending and slices in the abstract interpreter (VA), as equations to rewrite with. No condition.
What is proved: a call that may panic, in the abstract interpreter (VA), by its body. No condition.
What is proved: regions that draw their order, panics and all, in the abstract interpreter (VA), as equations to rewrite with. No condition.
What is defined and proved: what a lexer of the document's tokens answers, on lists of bytes, in plain Lean, with no program in sight; strings as lists of bytes. No condition.
What is defined and proved: the document's parser on lists of tokens, in plain Lean, with no program in sight. No condition.
What is proved: facts on this program's types, and which of its functions the abstract interpreter (VA) runs. No condition.
What is proved: what the lexer's functions of one byte answer, in the abstract interpreter (VA). No condition.
What is proved: what the program's lexer answers, in the abstract interpreter (VA), for every string. No condition.
What is proved: what the program's lexer answers, in the abstract interpreter (VA), for every string. No condition.
What is proved: what the reference's functions of one byte answer, in the abstract interpreter (VA), for every byte. No condition.
What is proved: what the reference's lexer answers, in the abstract interpreter (VA), for every string: what the program's lexer answers. No condition.
What is proved: facts on tokens of any kind in the abstract interpreter (VA). No condition. -/
import Derived.Test.YtghhkbigmmjanaaDoorM2
import Derived.Test.YtghhkbigmmjanaaDoorProg
/-! Vc3 -/
namespace Go.Proofs.YtghhkbigmmjanaaDoor.VA
open Go Go.RowKit
set_option linter.unusedSimpArgs false

/-- A function's end, with what it answers. -/
def RetQ (P : Program) (rs : List ResultVar) (v : AV) : Post := fun x e H =>
  match x with
  | .nrm | .ret => (aResults P e H rs).map (fun vs => san (oneOr vs)) = some v
  | _ => False
def RetHQ (P : Program) (rs : List ResultVar) (R : AV → Heap → Prop) : Post := fun x e H =>
  match x with
  | .nrm | .ret => ∃ vs, aResults P e H rs = some vs ∧ R (san (oneOr vs)) H
  | _ => False
section
variable {P : Program} {c : Cfg} {rs : List ResultVar} {v : AV} {e : List AV} {H : Heap} {R : AV → Heap → Prop}
@[go_sem] theorem RetQ_nrm : RetQ P rs v .nrm e H = ((aResults P e H rs).map (fun vs => san (oneOr vs)) = some v) := rfl
@[go_sem] theorem RetQ_ret : RetQ P rs v .ret e H = ((aResults P e H rs).map (fun vs => san (oneOr vs)) = some v) := rfl
@[go_sem] theorem RetHQ_nrm : RetHQ P rs R .nrm e H = (∃ vs, aResults P e H rs = some vs ∧ R (san (oneOr vs)) H) := rfl
@[go_sem] theorem RetHQ_ret : RetHQ P rs R .ret e H = (∃ vs, aResults P e H rs = some vs ∧ R (san (oneOr vs)) H) := rfl
@[go_sem] theorem res_nil : aResults P e H [] = some [] := rfl
def resK (x : Option AV) (r : Option (List AV)) : Option (List AV) :=
  match x, r with
  | some v, some vs => some (v :: vs)
  | _, _ => none
@[go_sem] theorem res_tmp (t : Tmp) : aResults P e H (.tmp t :: rs) = resK (some (gget .bad e t)) (aResults P e H rs) := rfl
@[go_sem] theorem res_cell (a : Tmp) (t : TypeId) : aResults P e H (.cell a t :: rs) = resK ((aLoad P t (gget .bad e a) H).map (·.1)) (aResults P e H rs) := rfl
@[go_sem] theorem resK_some (x : AV) (xs : List AV) : resK (some x) (some xs) = some (x :: xs) := rfl
@[go_sem] theorem oneOr_one (x : AV) : oneOr [x] = x := rfl
@[go_sem] theorem oneOr_nil : oneOr [] = .tup [] := rfl
@[go_sem] theorem oneOr_two (x y : AV) (l : List AV) : oneOr (x :: y :: l) = .tup (x :: y :: l) := rfl
@[go_sem] theorem san_lit (u : Value) : san (.lit u) = .lit u := by simp only [san]
@[go_sem] theorem san_sl (o : Own) (es : List (List AV)) : san (.sl o es) = .sl .sh (sanLL es) := by simp only [san]
@[go_sem] theorem san_fn (f : FuncId) (cs : List AV) : san (.fn f cs) = .fn f (sanL cs) := by simp only [san]
@[go_sem] theorem san_ifc (t : TypeId) (v : AV) : san (.ifc t v) = .ifc t (san v) := by simp only [san]
@[go_sem] theorem san_agg (cs : List AV) : san (.agg cs) = .agg (sanL cs) := by simp only [san]
@[go_sem] theorem san_tup (cs : List AV) : san (.tup cs) = .tup (sanL cs) := by simp only [san]
@[go_sem] theorem sanL_nil : sanL [] = [] := rfl
@[go_sem] theorem sanL_cons (x : AV) (l : List AV) : sanL (x :: l) = san x :: sanL l := rfl
@[go_sem] theorem sanLL_nil : sanLL [] = [] := rfl
@[go_sem] theorem sanLL_cons (x : List AV) (l : List (List AV)) : sanLL (x :: l) = sanL x :: sanLL l := rfl
theorem sanLL_app (a b : List (List AV)) : sanLL (a ++ b) = sanLL a ++ sanLL b := by simp [sanLL_map]
/-- A list of elements that say nothing of memory. -/
theorem sanLL_of {α : Type} (f : α → List AV) (h : ∀ x, sanL (f x) = f x) (l : List α) : sanLL (l.map f) = l.map f := by
  rw [sanLL_map]; simp [h, Function.comp_def]
theorem runFn_of_XS {fn : Func} {code : Code} (hb : fn.body = some code) {args : List AV} (hn : args.length ≤ fn.ntmps) {x : Ex} {e1 : List AV} {H1 : Heap}
    (h : XS P c code args H x e1 H1) (hx : x = .nrm ∨ x = .ret) {vs : List AV} (hv : aResults P e1 H1 fn.results.toList = some vs) : ∃ k, runFn P (call P c k) c.imp k fn args H = some (.ret (san (oneOr vs)) H1) := by
  obtain ⟨k, hk⟩ := h.exec
  obtain ⟨n, hn'⟩ := exec_fuel _ _ _ _ _ hk
  have h2 : exec P (call P c (max k n)) c.imp k code args H = some (x, e1, H1) := exec_mono (call_le (Nat.le_max_right k n)) _ _ _ _ _ hn' _ (Nat.le_refl _)
  have h3 := exec_mono (KLe.refl _) _ _ _ _ _ h2 (max k n) (Nat.le_max_left k n)
  refine ⟨max k n, ?_⟩
  unfold runFn
  rcases hx with rfl | rfl <;> simp only [hb, hn, if_true, h3, hv]
/-- A function that leaves its caller's memory alone. -/
theorem calls_pure {f : FuncId} {fn : Func} {code : Code} {args : List AV} (ht : c.told f = none) (hf : c.fn f = some fn) (hi : c.imp f = false) (hb : fn.body = some code) (hn : Nat.ble args.length fn.ntmps = true)
    (h : W P c code [] (sanL args) Heap.empty (RetQ P fn.results.toList v)) (H : Heap) : calls P c f args H = some (.ret v H) := by
  obtain ⟨x, e1, H1, hx, hq⟩ := h
  rw [Fin_nil] at hq
  have hq' : (x = .nrm ∨ x = .ret) ∧ (aResults P e1 H1 fn.results.toList).map (fun vs => san (oneOr vs)) = some v := by
    cases x <;> first | exact ⟨.inl rfl, hq⟩ | exact ⟨.inr rfl, hq⟩ | exact hq.elim
  cases hv : aResults P e1 H1 fn.results.toList with
  | none => simp [hv] at hq'
  | some vs =>
    have hvv : san (oneOr vs) = v := by have := hq'.2; rw [hv] at this; simpa using this
    obtain ⟨k, hk⟩ := runFn_of_XS hb (by rw [length_sanL]; exact Nat.le_of_ble_eq_true hn) hx hq'.1 hv
    refine calls_iff.2 ⟨k + 1, ?_⟩
    simp only [call, ht, hf, hi, hk, hvv]
/-- A function that may write to its caller's memory. -/
theorem calls_imp {f : FuncId} {fn : Func} {code : Code} {args : List AV} (ht : c.told f = none) (hf : c.fn f = some fn) (hi : c.imp f = true) (hb : fn.body = some code) (hn : Nat.ble args.length fn.ntmps = true)
    (h : W P c code [] args H (RetHQ P fn.results.toList R)) : ∃ v H', calls P c f args H = some (.ret v H') ∧ R v H' := by
  obtain ⟨x, e1, H1, hx, hq⟩ := h
  rw [Fin_nil] at hq
  have hq' : (x = .nrm ∨ x = .ret) ∧ ∃ vs, aResults P e1 H1 fn.results.toList = some vs ∧ R (san (oneOr vs)) H1 := by
    cases x <;> first | exact ⟨.inl rfl, hq⟩ | exact ⟨.inr rfl, hq⟩ | exact hq.elim
  obtain ⟨hx2, vs, hv, hr⟩ := hq'
  obtain ⟨k, hk⟩ := runFn_of_XS hb (Nat.le_of_ble_eq_true hn) hx hx2 hv
  refine ⟨_, _, calls_iff.2 ⟨k + 1, ?_⟩, hr⟩
  simp only [call, ht, hf, hi, hk]
/-- A function that is told outright. -/
theorem calls_told {f : FuncId} {args : List AV} {h : List AV → Option AV} (ht : c.told f = some h) (hv : h (sanL args) = some v) (H : Heap) : calls P c f args H = some (.ret v H) :=
  calls_iff.2 ⟨1, by simp only [call, ht, hv]⟩
/-- Appending in place or to nothing. -/
def OwnOk (H : Heap) (o : Own) (e : TypeId) (sz : Nat) : Prop :=
  match o with
  | .nil => True
  | .own s e' z => e' = e ∧ z = sz ∧ H.isLive s = true
  | _ => False
theorem append_ok {t : TypeId} {e : TypeId} {sz bs : Nat} {o o' : Own} {es xs : List (List AV)} {x : List AV} {id : Nat} (ht : tElem P t = some (e, sz, bs)) (ho : OwnOk H o e sz) (hx : x.length = sz) (hs : (sz == 0) = false)
    (hz : zeroOk P e sz = true) (hb : (es.length + (xs.length + 1)) * bs ≤ 140737488355328) (hl : es.length + (xs.length + 1) ≤ 140737488355328) :
    ∃ us rs, aAppend P t (.sl o es) (.sl o' (x :: xs)) H id = some (.sl (.own id e sz) (es ++ sanLL (x :: xs)), us, rs) ∧ OwnOk (appU H us) (.own id e sz) e sz ∧ (appU H us).next = H.next := by
  have hs' : 0 < sz := by have : sz ≠ 0 := by simpa using hs
                          omega
  cases o with
  | nil =>
    refine ⟨[.live id true], [], ?_, ?_, ?_⟩
    · simp only [aAppend, ht]; rw [if_pos ⟨hx, hs', hz, hb, hl⟩]
    · simp [OwnOk, appU, U.app]
    · simp [appU, U.app]
  | own k e' z =>
    obtain ⟨rfl, rfl, h3⟩ := ho
    refine ⟨[.live k false, .live id true], [k], ?_, ?_, ?_⟩
    · simp only [aAppend, ht]; rw [if_pos ⟨hx, hs', hz, hb, hl⟩, if_pos (by simp [h3])]
    · simp [OwnOk, appU, U.app]
    · simp [appU, U.app]
  | sh => exact ho.elim
  | ex => exact ho.elim
end
end Go.Proofs.YtghhkbigmmjanaaDoor.VA

/-! Vc4 -/
namespace Go.Proofs.YtghhkbigmmjanaaDoor.VA
open Go Go.RowKit
set_option linter.unusedSimpArgs false

attribute [go_sem] Heap.get_put Heap.isLive_put Heap.next_put Heap.isLive_setLive Heap.get_setLive Heap.next_setLive Heap.get_empty Heap.isLive_empty Heap.next_empty
section
variable {P : Program} {H : Heap} {id : Nat}
def laid1 (o : Option (List AV)) : Option (List AV) := o
@[go_sem] theorem lay_some (off size : Nat) (v cells : List AV) :
    lay (some (off, size)) v cells = if v.length = size ∧ off + size ≤ cells.length ∧ v.all AV.one = true then some (cells.take off ++ (v ++ cells.drop (off + size))) else none := rfl
attribute [go_sem] List.all_cons List.all_nil List.take_zero List.take_nil List.drop_nil List.drop_zero List.take_succ_cons List.drop_succ_cons Bool.and_true Bool.true_and and_self if_true
def stoK (n : Option Nat) (cs : Option (List AV)) (r off : Nat) (v : List AV) : Option (List U) :=
  match n, cs with
  | some n, some cs => (lay (some (off, n)) v cs).map fun cs => [.box r cs]
  | _, _ => none
@[go_sem] theorem store_eq (t : TypeId) (r off : Nat) (v : AV) : aStore P t (.ptr r off) v H = stoK (tSize P t) (H.get r) r off v.cells := by
  simp only [aStore, stoK]
  cases tSize P t with
  | none => rfl
  | some n =>
    cases hg : H.get r with
    | none => simp only [hg]
    | some cs =>
      simp only [hg, lay]
      split <;> rfl
@[go_sem] theorem stoK_some (n : Nat) (cs : List AV) (r off : Nat) (v : List AV) : stoK (some n) (some cs) r off v = (lay (some (off, n)) v cs).map fun cs => [.box r cs] := rfl
def ldK (b : Option Bool) (n : Option Nat) (cs : Option (List AV)) (r off : Nat) : Option (AV × List Nat) :=
  match b, n, cs with
  | some true, some n, some cs => if off + n ≤ cs.length then some (.agg ((cs.drop off).take n), [r]) else none
  | some false, _, some cs => (cs[off]?).map fun v => (v, [r])
  | _, _, _ => none
@[go_sem] theorem load_eq (t : TypeId) (r off : Nat) : aLoad P t (.ptr r off) H = ldK (tAgg P t) (tSize P t) (H.get r) r off := by
  simp only [aLoad, ldK]
  cases tAgg P t with
  | none => rfl
  | some b =>
    cases b with
    | true =>
      cases tSize P t with
      | none => rfl
      | some n => cases hg : H.get r <;> simp only [hg]
    | false =>
      cases hg : H.get r with
      | none => cases tSize P t <;> rfl
      | some cs =>
        simp only
        cases cs[off]? <;> cases tSize P t <;> rfl
@[go_sem] theorem ldK_true (n : Nat) (cs : List AV) (r off : Nat) : ldK (some true) (some n) (some cs) r off = if off + n ≤ cs.length then some (.agg ((cs.drop off).take n), [r]) else none := rfl
@[go_sem] theorem ldK_false (n : Option Nat) (cs : List AV) (r off : Nat) : ldK (some false) n (some cs) r off = (cs[off]?).map fun v => (v, [r]) := by cases n <;> rfl
def leK (b : Option Bool) (n : Option Nat) (cs : List AV) : Option (AV × List Nat) :=
  match b, n with
  | some true, some n => if n ≤ cs.length then some (.agg (cs.take n), []) else none
  | some false, _ => (cs[0]?).map fun v => (v, [])
  | _, _ => none
@[go_sem] theorem load_ep_eq (t : TypeId) (cs : List AV) : aLoad P t (.ep cs) H = leK (tAgg P t) (tSize P t) cs := by
  simp only [aLoad, leK]
  cases tAgg P t with
  | none => rfl
  | some b =>
    cases b with
    | true => cases tSize P t <;> rfl
    | false => cases tSize P t <;> cases cs <;> rfl
@[go_sem] theorem leK_true (n : Nat) (cs : List AV) : leK (some true) (some n) cs = if n ≤ cs.length then some (.agg (cs.take n), []) else none := rfl
@[go_sem] theorem leK_false (n : Option Nat) (cs : List AV) : leK (some false) n cs = (cs[0]?).map fun v => (v, []) := by cases n <;> rfl

/-! ### appending -/
def ownUs (o : Own) (id : Nat) : List U :=
  match o with
  | .own k _ _ => [.live k false, .live id true]
  | _ => [.live id true]
def ownRs (o : Own) : List Nat :=
  match o with
  | .own k _ _ => [k]
  | _ => []
theorem append_eq {t : TypeId} {e : TypeId} {sz bs : Nat} {o o' : Own} {es xs : List (List AV)} {x : List AV} (ht : tElem P t = some (e, sz, bs)) (hz : zeroOk P e sz = true) (hs : 0 < sz)
    (hb : (es.length + (xs.length + 1)) * bs ≤ 140737488355328) (hl : es.length + (xs.length + 1) ≤ 140737488355328) (hx : x.length = sz) (H : Heap) (id : Nat) (ho : OwnOk H o e sz) :
    aAppend P t (.sl o es) (.sl o' (x :: xs)) H id = some (.sl (.own id e sz) (es ++ sanLL (x :: xs)), ownUs o id, ownRs o) := by
  cases o with
  | nil => simp only [aAppend, ht]; rw [if_pos ⟨hx, hs, hz, hb, hl⟩]; rfl
  | own k e' z =>
    obtain ⟨rfl, rfl, h3⟩ := ho
    simp only [aAppend, ht]; rw [if_pos ⟨hx, hs, hz, hb, hl⟩, if_pos (by simp [h3])]; rfl
  | sh => exact ho.elim
  | ex => exact ho.elim
@[go_sem] theorem ownUs_get (o : Own) (r : Nat) : (appU H (ownUs o id)).get r = H.get r := by cases o <;> rfl
@[go_sem] theorem ownUs_next (o : Own) : (appU H (ownUs o id)).next = H.next := by cases o <;> rfl
@[go_sem] theorem OwnOk_ownUs (o : Own) (e : TypeId) (sz : Nat) : OwnOk (appU H (ownUs o id)) (.own id e sz) e sz = True := by
  apply eq_true
  cases o <;> simp [ownUs, appU, U.app, OwnOk]
@[go_sem] theorem OwnOk_up (n : Nat) (o : Own) (e : TypeId) (sz : Nat) : OwnOk (H.up n) o e sz = OwnOk H o e sz := by cases o <;> rfl
@[go_sem] theorem OwnOk_put (r : Nat) (cs : List AV) (o : Own) (e : TypeId) (sz : Nat) : OwnOk (H.put r cs) o e sz = OwnOk H o e sz := by cases o <;> rfl
@[go_sem] theorem OwnOk_nil (e : TypeId) (sz : Nat) : OwnOk H .nil e sz = True := rfl
/-- A literal of one element. -/
theorem build1 {t : TypeId} {e : TypeId} {sz bs : Nat} (ht : tElem P t = some (e, sz, bs)) (hs : sz ≤ 16777216) {z : List AV} (hz : tZero P e = some z) (hz1 : z.length = sz) (hz2 : z.all AV.one = true) (v : AV)
    (h1 : v.cells.length = sz) (h2 : v.cells.all AV.one = true) : aBuildSlice P t 1 [(0, v)] = some (.sl .ex [v.cells]) := by
  simp only [aBuildSlice, ht, hz]
  rw [if_pos (by omega), if_pos ⟨hz1, hz2⟩]
  simp only [aFill]
  have : (List.replicate 1 z).flatten = z := by simp
  rw [this, if_pos ⟨h1, by omega, h2⟩]
  simp only [Nat.zero_mul, Nat.zero_add, List.take_zero, List.nil_append]
  rw [List.drop_of_length_le (by omega), List.append_nil]
  simp only [chunk]
  rw [List.take_of_length_le (by omega)]
/-- An empty literal. -/
theorem build0 {t : TypeId} {e : TypeId} {sz bs : Nat} (ht : tElem P t = some (e, sz, bs)) {z : List AV} (hz : tZero P e = some z) (hz1 : z.length = sz) (hz2 : z.all AV.one = true) : aBuildSlice P t 0 [] = some (.sl .ex []) := by
  simp only [aBuildSlice, ht, hz]
  rw [if_pos (by omega), if_pos ⟨hz1, hz2⟩]
  rfl
/-- Appending to a literal without elements. -/
theorem append_ex {t : TypeId} {e : TypeId} {sz bs : Nat} {o' : Own} {xs : List (List AV)} {x : List AV} (ht : tElem P t = some (e, sz, bs)) (hz : zeroOk P e sz = true) (hs : 0 < sz)
    (hb : (0 + (xs.length + 1)) * bs ≤ 140737488355328) (hl : 0 + (xs.length + 1) ≤ 140737488355328) (hx : x.length = sz) (H : Heap) (id : Nat) :
    aAppend P t (.sl .ex []) (.sl o' (x :: xs)) H id = some (.sl (.own id e sz) (sanLL (x :: xs)), [.live id true], []) := by
  simp only [aAppend, ht]; rw [if_pos ⟨hx, hs, hz, hb, hl⟩]; rfl
end
end Go.Proofs.YtghhkbigmmjanaaDoor.VA

/-! Vc5 -/
namespace Go.Proofs.YtghhkbigmmjanaaDoor.VA
open Go Go.RowKit
set_option linter.unusedSimpArgs false

/-- A function's end: what it answers, or what it panics with. -/
def EndQ (P : Program) (rs : List ResultVar) (R : AV → Heap → Prop) (Rp : AV → Heap → Prop) : Post := fun x e H =>
  match x with
  | .nrm | .ret => ∃ vs, aResults P e H rs = some vs ∧ R (san (oneOr vs)) H
  | .pan v => Rp (san v) H
  | .exit _ => False
section
variable {P : Program} {c : Cfg} {rs : List ResultVar} {e : List AV} {H : Heap} {R Rp : AV → Heap → Prop}
@[go_sem] theorem EndQ_nrm : EndQ P rs R Rp .nrm e H = (∃ vs, aResults P e H rs = some vs ∧ R (san (oneOr vs)) H) := rfl
@[go_sem] theorem EndQ_ret : EndQ P rs R Rp .ret e H = (∃ vs, aResults P e H rs = some vs ∧ R (san (oneOr vs)) H) := rfl
@[go_sem] theorem EndQ_pan {v : AV} : EndQ P rs R Rp (.pan v) e H = Rp (san v) H := rfl
theorem runFn_of_pan {fn : Func} {code : Code} (hb : fn.body = some code) {args : List AV} (hn : args.length ≤ fn.ntmps) {v : AV} {e1 : List AV} {H1 : Heap}
    (h : XS P c code args H (.pan v) e1 H1) : ∃ k, runFn P (call P c k) c.imp k fn args H = some (.pan (san v) H1) := by
  obtain ⟨k, hk⟩ := h.exec
  obtain ⟨n, hn'⟩ := exec_fuel _ _ _ _ _ hk
  have h2 : exec P (call P c (max k n)) c.imp k code args H = some (.pan v, e1, H1) := exec_mono (call_le (Nat.le_max_right k n)) _ _ _ _ _ hn' _ (Nat.le_refl _)
  have h3 := exec_mono (KLe.refl _) _ _ _ _ _ h2 (max k n) (Nat.le_max_left k n)
  refine ⟨max k n, ?_⟩
  unfold runFn
  simp only [hb, hn, if_true, h3]
/-- A function that may write to its caller's memory, and may panic. -/
theorem calls_end {f : FuncId} {fn : Func} {code : Code} {args : List AV} (ht : c.told f = none) (hf : c.fn f = some fn) (hi : c.imp f = true) (hb : fn.body = some code) (hn : Nat.ble args.length fn.ntmps = true)
    (h : W P c code [] args H (EndQ P fn.results.toList R Rp)) : (∃ v H', calls P c f args H = some (.ret v H') ∧ R v H') ∨ ∃ v H', calls P c f args H = some (.pan v H') ∧ Rp v H' := by
  obtain ⟨x, e1, H1, hx, hq⟩ := h
  rw [Fin_nil] at hq
  have hn' := Nat.le_of_ble_eq_true hn
  have good : (x = .nrm ∨ x = .ret) → (∃ vs, aResults P e1 H1 fn.results.toList = some vs ∧ R (san (oneOr vs)) H1) → (∃ v H', calls P c f args H = some (.ret v H') ∧ R v H') := by
    rintro hx2 ⟨vs, hv, hr⟩
    obtain ⟨k, hk⟩ := runFn_of_XS hb hn' hx hx2 hv
    exact ⟨_, _, calls_iff.2 ⟨k + 1, by simp only [call, ht, hf, hi, hk]⟩, hr⟩
  cases x with
  | nrm => exact .inl (good (.inl rfl) hq)
  | ret => exact .inl (good (.inr rfl) hq)
  | exit j => exact hq.elim
  | pan v =>
    obtain ⟨k, hk⟩ := runFn_of_pan hb hn' hx
    exact .inr ⟨_, _, calls_iff.2 ⟨k + 1, by simp only [call, ht, hf, hi, hk]⟩, hq⟩
end
end Go.Proofs.YtghhkbigmmjanaaDoor.VA

/-! Vc6 -/
namespace Go.Proofs.YtghhkbigmmjanaaDoor.VA
open Go Go.RowKit
set_option linter.unusedSimpArgs false

/-- Which operations wait for which one. -/
def deads (ops : Array Oper) : List (List Nat) := (List.range ops.size).map fun k => (List.range ops.size).filter fun i => anc ops k i
theorem gget_map_range (f : Nat → List Nat) (n k : Nat) (h : k < n) : gget [] ((List.range n).map f) k = f k := by
  have h1 : ∀ (l : List (List Nat)) (i : Nat), gget [] l i = (l[i]?).getD [] := by
    intro l
    induction l with
    | nil => intro i; simp [gget]
    | cons x l ih => intro i; cases i with | zero => rfl | succ i => simpa [gget] using ih i
  rw [h1, List.getElem?_map, List.getElem?_range h]
  rfl
theorem deads_anc {ops : Array Oper} {k i : Nat} (hk : k < ops.size) (hi : i < ops.size) : (gget [] (deads ops) k).contains i = anc ops k i := by
  rw [deads, gget_map_range _ _ _ hk, Bool.eq_iff_iff]
  simp [hi]
def memN : List Nat → Nat → Bool
  | [], _ => false
  | a :: l, i => match a == i with | true => true | false => memN l i
@[go_sem] theorem memN_nil (i : Nat) : memN [] i = false := rfl
@[go_sem] theorem memN_cons (a i : Nat) (l : List Nat) : memN (a :: l) i = if a = i then true else memN l i := by
  by_cases h : a = i
  · subst h; simp [memN]
  · have h1 : (a == i) = false := by simp [h]
    simp [memN, h1, h]
theorem memN_contains : ∀ (l : List Nat) (i : Nat), memN l i = l.contains i
  | [], i => rfl
  | a :: l, i => by
    simp only [memN, List.contains_cons, memN_contains l i]
    by_cases h : a = i
    · subst h; simp
    · have h1 : (a == i) = false := by simp [h]
      have h2 : (i == a) = false := by simp; exact fun h' => h h'.symm
      simp [h1, h2]

/-- One step behind a panic. -/
noncomputable def qStep (P : Program) (c : Cfg) (r : Option Sr) (H : Heap) : Option (Tr × AV) :=
  match r with
  | some (.val v [] rs) => some (.val v [] rs, v)
  | some (.call f args) =>
    match c.imp f with
    | true => none
    | false =>
      match calls P c f args H with
      | some (.ret v _) => some (.val v [] [], v)
      | _ => none
  | _ => none
/-- One step ahead of a panic. -/
noncomputable def eStep (P : Program) (c : Cfg) (r : Option Sr) (H : Heap) : Option ((Tr × AV × Heap) ⊕ (AV × Heap)) :=
  match r with
  | some (.val v us rs) => some (.inl (.val v us rs, v, appU H us))
  | some (.pan v) => some (.inr (v, H))
  | some (.call f args) =>
    match c.imp f with
    | true =>
      match calls P c f args H with
      | some (.ret v H') => some (.inl (.call v H H', v, H'))
      | some (.pan v H') => some (.inr (v, H'))
      | none => none
    | false =>
      match calls P c f args H with
      | some (.ret v _) => some (.inl (.val v [] [], v, H))
      | _ => none
  | none => none
/-- What is left of a region behind a panic. -/
def WX (P : Program) (c : Cfg) (un : List (Nat × Nat)) (ds : List (Option Tmp)) (dl : List Nat) (base : Nat) (st : List Fr) (pv : AV) (pH : Heap) (Q : Post) : List Oper → Nat → List Tr → List AV → Heap → Prop
  | [], _, tr, e, _ => AllOk un tr ∧ Fin P c st (.pan pv) e pH Q
  | o :: os, i, tr, e, H =>
    match memN dl i with
    | true => WX P c un ds dl base st pv pH Q os (i + 1) (tr ++ [.dead]) e H
    | false =>
      match gword ds e o.guard with
      | none => False
      | some false => WX P c un ds dl base st pv pH Q os (i + 1) (tr ++ [.val (.tup []) [] []]) (aput e o.dst (.tup [])) H
      | some true =>
        match qStep P c (astep P (aeval e) H (base + i) o.op) H with
        | none => False
        | some (t, v) => WX P c un ds dl base st pv pH Q os (i + 1) (tr ++ [t]) (aput e o.dst v) H
/-- A region. -/
def WE (P : Program) (c : Cfg) (un : List (Nat × Nat)) (ds : List (Option Tmp)) (dd : List (List Nat)) (base : Nat) (st : List Fr) (Q : Post) : List Oper → Nat → List Tr → List AV → Heap → Prop
  | [], _, tr, e, H => AllOk un tr ∧ Fin P c st .nrm e H Q
  | o :: os, i, tr, e, H =>
    match gword ds e o.guard with
    | none => False
    | some false => WE P c un ds dd base st Q os (i + 1) (tr ++ [.val (.tup []) [] []]) (aput e o.dst (.tup [])) H
    | some true =>
      match eStep P c (astep P (aeval e) H (base + i) o.op) H with
      | none => False
      | some (.inl (t, v, H')) => WE P c un ds dd base st Q os (i + 1) (tr ++ [t]) (aput e o.dst v) H'
      | some (.inr (pv, pH)) => WX P c un ds (gget [] dd i) base st pv pH Q os (i + 1) (tr ++ [.pan]) e H
section
variable {P : Program} {c : Cfg} {un : List (Nat × Nat)} {base : Nat} {st : List Fr} {Q : Post}
theorem WX_run {ops : Array Oper} {k : Nat} {pv : AV} {pH : Heap} (hk : k < ops.size) : ∀ (os : List Oper) (i : Nat) (tr : List Tr) (e : List AV) (H : Heap), i + os.length = ops.size →
    WX P c un (dsts ops) (gget [] (deads ops) k) base st pv pH Q os i tr e H →
    ∃ tr' e1 H1, runTr P (calls P c) c.imp ops base os i (some (k, pv, pH)) e H = some (tr', some (k, pv, pH), e1, H1) ∧ AllOk un (tr ++ tr') ∧ Fin P c st (.pan pv) e1 pH Q := by
  intro os
  induction os with
  | nil => intro i tr e H hi h; exact ⟨[], e, H, rfl, by rw [List.append_nil]; exact h.1, h.2⟩
  | cons o os ih =>
    intro i tr e H hi h
    simp only [List.length_cons] at hi
    have hd : memN (gget [] (deads ops) k) i = anc ops k i := by rw [memN_contains, deads_anc hk (by omega)]
    simp only [WX, hd] at h
    have next : ∀ {e : List AV} {t0 : Tr}, WX P c un (dsts ops) (gget [] (deads ops) k) base st pv pH Q os (i + 1) (tr ++ [t0]) e H →
        ∃ tr' e1 H1, (match runTr P (calls P c) c.imp ops base os (i + 1) (some (k, pv, pH)) e H with | some (tr, r) => some (t0 :: tr, r) | none => none) = some (tr', some (k, pv, pH), e1, H1) ∧ AllOk un (tr ++ tr') ∧ Fin P c st (.pan pv) e1 pH Q := by
      intro e t0 h
      obtain ⟨tr', e1, H1, h1, h2, h3⟩ := ih _ _ _ _ (by omega) h
      rw [h1]
      exact ⟨_, _, _, rfl, by simpa using h2, h3⟩
    simp only [runTr]
    by_cases hb : behind ops (some (k, pv, pH)) i = true
    · have hb' : anc ops k i = true := hb
      rw [hb'] at h
      rw [if_pos hb]
      exact next h
    · rw [if_neg hb, aWanted_gword]
      have hb' : anc ops k i = false := by rw [Bool.not_eq_true] at hb; exact hb
      rw [hb'] at h
      simp only at h
      split at h
      · exact h.elim
      · rename_i hw
        rw [hw]
        exact next h
      · rename_i hw
        rw [hw]
        simp only
        cases hs : astep P (aeval e) H (base + i) o.op with
        | none => simp [hs, qStep] at h
        | some sr =>
          rw [hs] at h
          cases sr with
          | val v us rs =>
            cases us with
            | nil =>
              simp only [qStep] at h
              simp only [List.isEmpty_nil, Bool.true_eq_false, and_false, if_false, appU]
              exact next h
            | cons u us => simp [qStep] at h
          | pan v => simp [qStep] at h
          | call f args =>
            simp only [qStep] at h
            cases hi : c.imp f with
            | true => simp [hi] at h
            | false =>
              simp only [hi] at h
              simp only [hi, Bool.false_eq_true, if_false]
              cases hc : calls P c f args H with
              | none => simp [hc] at h
              | some cr =>
                cases cr with
                | pan v H' => simp [hc] at h
                | ret v H' =>
                  simp only [hc] at h
                  simp only
                  exact next h
/-- What a region comes to. -/
def FinP (P : Program) (c : Cfg) (pk : Option (Nat × AV × Heap)) (st : List Fr) (e : List AV) (H : Heap) (Q : Post) : Prop :=
  match pk with
  | none => Fin P c st .nrm e H Q
  | some (_, v, H2) => Fin P c st (.pan v) e H2 Q
theorem WE_run {ops : Array Oper} : ∀ (os : List Oper) (i : Nat) (tr : List Tr) (e : List AV) (H : Heap), i + os.length = ops.size →
    WE P c un (dsts ops) (deads ops) base st Q os i tr e H →
    ∃ tr' pk e1 H1, runTr P (calls P c) c.imp ops base os i none e H = some (tr', pk, e1, H1) ∧ AllOk un (tr ++ tr') ∧ FinP P c pk st e1 H1 Q := by
  intro os
  induction os with
  | nil => intro i tr e H hi h; exact ⟨[], none, e, H, rfl, by rw [List.append_nil]; exact h.1, h.2⟩
  | cons o os ih =>
    intro i tr e H hi h
    simp only [List.length_cons] at hi
    simp only [WE] at h
    have next : ∀ {e : List AV} {H : Heap} {t0 : Tr}, WE P c un (dsts ops) (deads ops) base st Q os (i + 1) (tr ++ [t0]) e H →
        ∃ tr' pk e1 H1, (match runTr P (calls P c) c.imp ops base os (i + 1) none e H with | some (tr, r) => some (t0 :: tr, r) | none => none) = some (tr', pk, e1, H1) ∧ AllOk un (tr ++ tr') ∧ FinP P c pk st e1 H1 Q := by
      intro e H t0 h
      obtain ⟨tr', pk, e1, H1, h1, h2, h3⟩ := ih _ _ _ _ (by omega) h
      rw [h1]
      exact ⟨_, _, _, _, rfl, by simpa using h2, h3⟩
    have stop : ∀ {e : List AV} {H pH : Heap} {pv : AV}, WX P c un (dsts ops) (gget [] (deads ops) i) base st pv pH Q os (i + 1) (tr ++ [.pan]) e H →
        ∃ tr' pk e1 H1, (match runTr P (calls P c) c.imp ops base os (i + 1) (some (i, pv, pH)) e H with | some (tr, r) => some (.pan :: tr, r) | none => none) = some (tr', pk, e1, H1) ∧ AllOk un (tr ++ tr') ∧ FinP P c pk st e1 H1 Q := by
      intro e H pH pv h
      obtain ⟨tr', e1, H1, h1, h2, h3⟩ := WX_run (by omega) os (i + 1) (tr ++ [.pan]) e H (by omega) h
      rw [h1]
      exact ⟨_, _, _, _, rfl, by simpa using h2, h3⟩
    simp only [runTr, behind, Bool.false_eq_true, if_false, aWanted_gword]
    split at h
    · exact h.elim
    · rename_i hw
      rw [hw]
      exact next h
    · rename_i hw
      rw [hw]
      simp only
      cases hs : astep P (aeval e) H (base + i) o.op with
      | none => simp [hs, eStep] at h
      | some sr =>
        rw [hs] at h
        cases sr with
        | val v us rs =>
          simp only [eStep] at h
          simp only [Option.isSome_none, Bool.false_eq_true, false_and, if_false]
          exact next h
        | pan v =>
          simp only [eStep] at h
          simp only [Option.isSome_none, Bool.false_eq_true, if_false]
          exact stop h
        | call f args =>
          simp only [eStep] at h
          cases hi : c.imp f with
          | true =>
            simp only [hi] at h
            simp only [hi, if_true, Option.isSome_none, Bool.false_eq_true, if_false]
            cases hc : calls P c f args H with
            | none => simp [hc] at h
            | some cr =>
              cases cr with
              | pan v H' =>
                simp only [hc] at h
                simp only
                exact stop h
              | ret v H' =>
                simp only [hc] at h
                simp only
                exact next h
          | false =>
            simp only [hi] at h
            simp only [hi, Bool.false_eq_true, if_false]
            cases hc : calls P c f args H with
            | none => simp [hc] at h
            | some cr =>
              cases cr with
              | pan v H' => simp [hc] at h
              | ret v H' =>
                simp only [hc] at h
                simp only
                exact next h
theorem W_drawE {id : Nat} {ops : Array Oper} {e : List AV} {H : Heap} (un : List (Nat × Nat)) (dd : List (List Nat)) (hu : (unord ops, deads ops) = (un, dd))
    (h : WE P c un (dsts ops) dd H.next st Q ops.toList 0 [] e (H.up ops.size)) : W P c (.region id ops true) st e H Q := by
  simp only [Prod.mk.injEq] at hu
  obtain ⟨hu1, hu2⟩ := hu
  rw [← hu2] at h
  obtain ⟨tr, pk, e1, H1, h1, h2, h3⟩ := WE_run _ _ _ _ _ (by simp) h
  rw [List.nil_append] at h2
  have ht : TrOk ops tr := by rw [TrOk, hu1]; exact h2
  cases pk with
  | none => exact ⟨_, _, _, .draw h1 ht, h3⟩
  | some q => obtain ⟨k, v, H2⟩ := q; exact ⟨_, _, _, .drawP h1 ht, h3⟩

/-! ### equations -/
variable {ds : List (Option Tmp)} {dd : List (List Nat)} {dl : List Nat} {pv : AV} {pH : Heap} {os : List Oper} {i : Nat} {tr : List Tr} {e : List AV} {H : Heap} {dst : Option Tmp} {op : Op}
def xK (P : Program) (c : Cfg) (r : Option CR) (imp : Bool) (un : List (Nat × Nat)) (ds : List (Option Tmp)) (dl : List Nat) (base : Nat) (st : List Fr) (pv : AV) (pH : Heap) (Q : Post) (dst : Option Tmp) (os : List Oper) (i : Nat) (tr : List Tr) (e : List AV) (H : Heap) : Prop :=
  match imp, r with
  | false, some (.ret v _) => WX P c un ds dl base st pv pH Q os (i + 1) (tr ++ [.val v [] []]) (aput e dst v) H
  | _, _ => False
def xS (P : Program) (c : Cfg) (r : Option Sr) (un : List (Nat × Nat)) (ds : List (Option Tmp)) (dl : List Nat) (base : Nat) (st : List Fr) (pv : AV) (pH : Heap) (Q : Post) (dst : Option Tmp) (os : List Oper) (i : Nat) (tr : List Tr) (e : List AV) (H : Heap) : Prop :=
  match r with
  | some (.val v [] rs) => WX P c un ds dl base st pv pH Q os (i + 1) (tr ++ [.val v [] rs]) (aput e dst v) H
  | some (.call f args) => xK P c (calls P c f args H) (c.imp f) un ds dl base st pv pH Q dst os i tr e H
  | _ => False
def xG (P : Program) (c : Cfg) (v : AV) (want : Bool) (op : Op) (un : List (Nat × Nat)) (ds : List (Option Tmp)) (dl : List Nat) (base : Nat) (st : List Fr) (pv : AV) (pH : Heap) (Q : Post) (dst : Option Tmp) (os : List Oper) (i : Nat) (tr : List Tr) (e : List AV) (H : Heap) : Prop :=
  match v with
  | .lit (.bool b) =>
    match b == want with
    | true => xS P c (astep P (aeval e) H (base + i) op) un ds dl base st pv pH Q dst os i tr e H
    | false => WX P c un ds dl base st pv pH Q os (i + 1) (tr ++ [.val (.tup []) [] []]) (aput e dst (.tup [])) H
  | .tup [] => WX P c un ds dl base st pv pH Q os (i + 1) (tr ++ [.val (.tup []) [] []]) (aput e dst (.tup [])) H
  | _ => False
def xGd (P : Program) (c : Cfg) (g : Option (Nat × Bool)) (op : Op) (un : List (Nat × Nat)) (ds : List (Option Tmp)) (dl : List Nat) (base : Nat) (st : List Fr) (pv : AV) (pH : Heap) (Q : Post) (dst : Option Tmp) (os : List Oper) (i : Nat) (tr : List Tr) (e : List AV) (H : Heap) : Prop :=
  match g with
  | none => xS P c (astep P (aeval e) H (base + i) op) un ds dl base st pv pH Q dst os i tr e H
  | some (j, want) =>
    match gget none ds j with
    | some d => xG P c (gget .bad e d) want op un ds dl base st pv pH Q dst os i tr e H
    | none => WX P c un ds dl base st pv pH Q os (i + 1) (tr ++ [.val (.tup []) [] []]) (aput e dst (.tup [])) H
def xM (P : Program) (c : Cfg) (dead : Bool) (g : Option (Nat × Bool)) (op : Op) (un : List (Nat × Nat)) (ds : List (Option Tmp)) (dl : List Nat) (base : Nat) (st : List Fr) (pv : AV) (pH : Heap) (Q : Post) (dst : Option Tmp) (os : List Oper) (i : Nat) (tr : List Tr) (e : List AV) (H : Heap) : Prop :=
  match dead with
  | true => WX P c un ds dl base st pv pH Q os (i + 1) (tr ++ [.dead]) e H
  | false => xGd P c g op un ds dl base st pv pH Q dst os i tr e H
@[go_sem] theorem WX_nil : WX P c un ds dl base st pv pH Q [] i tr e H = (AllOk un tr ∧ Fin P c st (.pan pv) e pH Q) := rfl
theorem xS_eq {r : Option Sr} : (match qStep P c r H with | none => False | some (t, v) => WX P c un ds dl base st pv pH Q os (i + 1) (tr ++ [t]) (aput e dst v) H) = xS P c r un ds dl base st pv pH Q dst os i tr e H := by
  cases r with
  | none => rfl
  | some sr =>
    cases sr with
    | val v us rs => cases us <;> rfl
    | pan v => rfl
    | call f args =>
      simp only [qStep, xS, xK]
      cases c.imp f with
      | true => rfl
      | false =>
        cases calls P c f args H with
        | none => rfl
        | some cr => cases cr <;> rfl
@[go_sem] theorem WX_cons {type : TypeId} {pos : String} {after : Array Edge} {guard : Option (Nat × Bool)} :
    WX P c un ds dl base st pv pH Q ({ dst, op, type, pos, after, guard } :: os) i tr e H = xM P c (memN dl i) guard op un ds dl base st pv pH Q dst os i tr e H := by
  simp only [WX, xS_eq]
  cases memN dl i with
  | true => rfl
  | false =>
    simp only [xM]
    cases guard with
    | none => rfl
    | some g =>
      obtain ⟨j, want⟩ := g
      simp only [gword, xGd]
      cases gget none ds j with
      | none => rfl
      | some d =>
        simp only
        generalize gget AV.bad e d = v
        unfold xG
        cases v with
        | lit u =>
          cases u with
          | bool b => simp only; cases b == want <;> rfl
          | _ => rfl
        | tup vs => cases vs <;> rfl
        | _ => rfl
@[go_sem] theorem xM_true {g : Option (Nat × Bool)} : xM P c true g op un ds dl base st pv pH Q dst os i tr e H = WX P c un ds dl base st pv pH Q os (i + 1) (tr ++ [.dead]) e H := rfl
@[go_sem] theorem xM_none : xM P c false none op un ds dl base st pv pH Q dst os i tr e H = xS P c (astep P (aeval e) H (base + i) op) un ds dl base st pv pH Q dst os i tr e H := rfl
@[go_sem] theorem xM_some {j : Nat} {want : Bool} {d : Tmp} (hd : gget none ds j = some d) : xM P c false (some (j, want)) op un ds dl base st pv pH Q dst os i tr e H = xG P c (gget .bad e d) want op un ds dl base st pv pH Q dst os i tr e H := by
  simp only [xM, xGd, hd]
@[go_sem] theorem xG_tt : xG P c (.lit (.bool true)) true op un ds dl base st pv pH Q dst os i tr e H = xS P c (astep P (aeval e) H (base + i) op) un ds dl base st pv pH Q dst os i tr e H := rfl
@[go_sem] theorem xG_ff : xG P c (.lit (.bool false)) false op un ds dl base st pv pH Q dst os i tr e H = xS P c (astep P (aeval e) H (base + i) op) un ds dl base st pv pH Q dst os i tr e H := rfl
@[go_sem] theorem xG_tf : xG P c (.lit (.bool true)) false op un ds dl base st pv pH Q dst os i tr e H = WX P c un ds dl base st pv pH Q os (i + 1) (tr ++ [.val (.tup []) [] []]) (aput e dst (.tup [])) H := rfl
@[go_sem] theorem xG_ft : xG P c (.lit (.bool false)) true op un ds dl base st pv pH Q dst os i tr e H = WX P c un ds dl base st pv pH Q os (i + 1) (tr ++ [.val (.tup []) [] []]) (aput e dst (.tup [])) H := rfl
@[go_sem] theorem xG_tup {want : Bool} : xG P c (.tup []) want op un ds dl base st pv pH Q dst os i tr e H = WX P c un ds dl base st pv pH Q os (i + 1) (tr ++ [.val (.tup []) [] []]) (aput e dst (.tup [])) H := rfl
@[go_sem] theorem xS_val {v : AV} {rs : List Nat} : xS P c (some (.val v [] rs)) un ds dl base st pv pH Q dst os i tr e H = WX P c un ds dl base st pv pH Q os (i + 1) (tr ++ [.val v [] rs]) (aput e dst v) H := rfl
@[go_sem] theorem xS_call {f : FuncId} {args : List AV} : xS P c (some (.call f args)) un ds dl base st pv pH Q dst os i tr e H = xK P c (calls P c f args H) (c.imp f) un ds dl base st pv pH Q dst os i tr e H := rfl
@[go_sem] theorem xK_ret {v : AV} {H' : Heap} : xK P c (some (.ret v H')) false un ds dl base st pv pH Q dst os i tr e H = WX P c un ds dl base st pv pH Q os (i + 1) (tr ++ [.val v [] []]) (aput e dst v) H := rfl

def eK (P : Program) (c : Cfg) (r : Option CR) (imp : Bool) (un : List (Nat × Nat)) (ds : List (Option Tmp)) (dd : List (List Nat)) (base : Nat) (st : List Fr) (Q : Post) (dst : Option Tmp) (os : List Oper) (i : Nat) (tr : List Tr) (e : List AV) (H : Heap) : Prop :=
  match imp, r with
  | false, some (.ret v _) => WE P c un ds dd base st Q os (i + 1) (tr ++ [.val v [] []]) (aput e dst v) H
  | true, some (.ret v H') => WE P c un ds dd base st Q os (i + 1) (tr ++ [.call v H H']) (aput e dst v) H'
  | true, some (.pan v H') => WX P c un ds (gget [] dd i) base st v H' Q os (i + 1) (tr ++ [.pan]) e H
  | _, _ => False
def eS (P : Program) (c : Cfg) (r : Option Sr) (un : List (Nat × Nat)) (ds : List (Option Tmp)) (dd : List (List Nat)) (base : Nat) (st : List Fr) (Q : Post) (dst : Option Tmp) (os : List Oper) (i : Nat) (tr : List Tr) (e : List AV) (H : Heap) : Prop :=
  match r with
  | some (.val v us rs) => WE P c un ds dd base st Q os (i + 1) (tr ++ [.val v us rs]) (aput e dst v) (appU H us)
  | some (.pan v) => WX P c un ds (gget [] dd i) base st v H Q os (i + 1) (tr ++ [.pan]) e H
  | some (.call f args) => eK P c (calls P c f args H) (c.imp f) un ds dd base st Q dst os i tr e H
  | none => False
def eG (P : Program) (c : Cfg) (v : AV) (want : Bool) (op : Op) (un : List (Nat × Nat)) (ds : List (Option Tmp)) (dd : List (List Nat)) (base : Nat) (st : List Fr) (Q : Post) (dst : Option Tmp) (os : List Oper) (i : Nat) (tr : List Tr) (e : List AV) (H : Heap) : Prop :=
  match v with
  | .lit (.bool b) =>
    match b == want with
    | true => eS P c (astep P (aeval e) H (base + i) op) un ds dd base st Q dst os i tr e H
    | false => WE P c un ds dd base st Q os (i + 1) (tr ++ [.val (.tup []) [] []]) (aput e dst (.tup [])) H
  | .tup [] => WE P c un ds dd base st Q os (i + 1) (tr ++ [.val (.tup []) [] []]) (aput e dst (.tup [])) H
  | _ => False
theorem eS_eq {r : Option Sr} : (match eStep P c r H with
      | none => False
      | some (.inl (t, v, H')) => WE P c un ds dd base st Q os (i + 1) (tr ++ [t]) (aput e dst v) H'
      | some (.inr (pv, pH)) => WX P c un ds (gget [] dd i) base st pv pH Q os (i + 1) (tr ++ [.pan]) e H) = eS P c r un ds dd base st Q dst os i tr e H := by
  cases r with
  | none => rfl
  | some sr =>
    cases sr with
    | val v us rs => rfl
    | pan v => rfl
    | call f args =>
      simp only [eStep, eS, eK]
      cases c.imp f with
      | true =>
        cases calls P c f args H with
        | none => rfl
        | some cr => cases cr <;> rfl
      | false =>
        cases calls P c f args H with
        | none => rfl
        | some cr => cases cr <;> rfl
@[go_sem] theorem WE_nil : WE P c un ds dd base st Q [] i tr e H = (AllOk un tr ∧ Fin P c st .nrm e H Q) := rfl
@[go_sem] theorem WE_plain {type : TypeId} {pos : String} {after : Array Edge} :
    WE P c un ds dd base st Q ({ dst, op, type, pos, after, guard := none } :: os) i tr e H = eS P c (astep P (aeval e) H (base + i) op) un ds dd base st Q dst os i tr e H := by
  rw [← eS_eq]; rfl
@[go_sem] theorem WE_guard {j : Nat} {d : Tmp} {want : Bool} {type : TypeId} {pos : String} {after : Array Edge} (hd : gget none ds j = some d) :
    WE P c un ds dd base st Q ({ dst, op, type, pos, after, guard := some (j, want) } :: os) i tr e H = eG P c (gget .bad e d) want op un ds dd base st Q dst os i tr e H := by
  simp only [WE, gword, hd, eS_eq]
  generalize gget AV.bad e d = v
  unfold eG
  cases v with
  | lit u =>
    cases u with
    | bool b => simp only; cases b == want <;> rfl
    | _ => rfl
  | tup vs => cases vs <;> rfl
  | _ => rfl
@[go_sem] theorem eG_tt : eG P c (.lit (.bool true)) true op un ds dd base st Q dst os i tr e H = eS P c (astep P (aeval e) H (base + i) op) un ds dd base st Q dst os i tr e H := rfl
@[go_sem] theorem eG_ff : eG P c (.lit (.bool false)) false op un ds dd base st Q dst os i tr e H = eS P c (astep P (aeval e) H (base + i) op) un ds dd base st Q dst os i tr e H := rfl
@[go_sem] theorem eG_tf : eG P c (.lit (.bool true)) false op un ds dd base st Q dst os i tr e H = WE P c un ds dd base st Q os (i + 1) (tr ++ [.val (.tup []) [] []]) (aput e dst (.tup [])) H := rfl
@[go_sem] theorem eG_ft : eG P c (.lit (.bool false)) true op un ds dd base st Q dst os i tr e H = WE P c un ds dd base st Q os (i + 1) (tr ++ [.val (.tup []) [] []]) (aput e dst (.tup [])) H := rfl
@[go_sem] theorem eG_tup {want : Bool} : eG P c (.tup []) want op un ds dd base st Q dst os i tr e H = WE P c un ds dd base st Q os (i + 1) (tr ++ [.val (.tup []) [] []]) (aput e dst (.tup [])) H := rfl
@[go_sem] theorem eS_val {v : AV} {us : List U} {rs : List Nat} : eS P c (some (.val v us rs)) un ds dd base st Q dst os i tr e H = WE P c un ds dd base st Q os (i + 1) (tr ++ [.val v us rs]) (aput e dst v) (appU H us) := rfl
@[go_sem] theorem eS_pan {v : AV} : eS P c (some (.pan v)) un ds dd base st Q dst os i tr e H = WX P c un ds (gget [] dd i) base st v H Q os (i + 1) (tr ++ [.pan]) e H := rfl
@[go_sem] theorem eS_call {f : FuncId} {args : List AV} : eS P c (some (.call f args)) un ds dd base st Q dst os i tr e H = eK P c (calls P c f args H) (c.imp f) un ds dd base st Q dst os i tr e H := rfl
@[go_sem] theorem eK_pure {v : AV} {H' : Heap} : eK P c (some (.ret v H')) false un ds dd base st Q dst os i tr e H = WE P c un ds dd base st Q os (i + 1) (tr ++ [.val v [] []]) (aput e dst v) H := rfl
@[go_sem] theorem eK_imp {v : AV} {H' : Heap} : eK P c (some (.ret v H')) true un ds dd base st Q dst os i tr e H = WE P c un ds dd base st Q os (i + 1) (tr ++ [.call v H H']) (aput e dst v) H' := rfl
@[go_sem] theorem eK_pan {v : AV} {H' : Heap} : eK P c (some (.pan v H')) true un ds dd base st Q dst os i tr e H = WX P c un ds (gget [] dd i) base st v H' Q os (i + 1) (tr ++ [.pan]) e H := rfl
end

/-! ### what a trace may be -/
@[go_sem] theorem AllOk_nil (tr : List Tr) : AllOk [] tr = True := by simp [AllOk]
@[go_sem] theorem AllOk_cons (i j : Nat) (un : List (Nat × Nat)) (tr : List Tr) : AllOk ((i, j) :: un) tr = (NoConf (gget .dead tr i) (gget .dead tr j) ∧ AllOk un tr) := by
  have h : ∀ (l : List Tr) (i : Nat), l.getD i .dead = gget .dead l i := by
    intro l
    induction l with
    | nil => intro i; simp [gget]
    | cons x l ih => intro i; cases i with | zero => rfl | succ i => simpa [gget] using ih i
  simp only [AllOk, List.forall_mem_cons, h]
@[go_sem] theorem NoConf_quiet (v v' : AV) (rs rs' : List Nat) : NoConf (.val v [] rs) (.val v' [] rs') = True := by simp [NoConf]
@[go_sem] theorem NoConf_vc (v u : AV) (rs : List Nat) (Hb Ha : Heap) : NoConf (.val v [] rs) (.call u Hb Ha) = ∀ r ∈ rs, Keeps Hb Ha r := by simp [NoConf]
@[go_sem] theorem NoConf_cv (v u : AV) (rs : List Nat) (Hb Ha : Heap) : NoConf (.call u Hb Ha) (.val v [] rs) = ∀ r ∈ rs, Keeps Hb Ha r := by simp [NoConf]
@[go_sem] theorem NoConf_vp (v : AV) (rs : List Nat) : NoConf (.val v [] rs) .pan = True := by simp [NoConf]
@[go_sem] theorem NoConf_pv (v : AV) (rs : List Nat) : NoConf .pan (.val v [] rs) = True := by simp [NoConf]
@[go_sem] theorem NoConf_xd (t : Tr) : NoConf t .dead = True := by cases t <;> simp [NoConf]
@[go_sem] theorem NoConf_dx (t : Tr) : NoConf .dead t = True := by cases t <;> simp [NoConf]
theorem memN_false {l : List Nat} {k : Nat} : (memN l k = false) = (k ∉ l) := by rw [memN_contains]; simp
attribute [go_sem] not_false_eq_true
@[go_sem] theorem key_box (r : Nat) (cs : List AV) : (U.box r cs).key = r := rfl
@[go_sem] theorem key_live (r : Nat) (b : Bool) : (U.live r b).key = r := rfl
@[go_sem] theorem NoConf_wl (v v' : AV) (u : U) (rs rs' : List Nat) : NoConf (.val v [u] rs) (.val v' [] rs') = (memN rs' u.key = false) := by rw [memN_false]; simp [NoConf]
@[go_sem] theorem NoConf_lw (v v' : AV) (u : U) (rs rs' : List Nat) : NoConf (.val v [] rs) (.val v' [u] rs') = (memN rs u.key = false) := by rw [memN_false]; simp [NoConf]
@[go_sem] theorem NoConf_ww (v v' : AV) (u u' : U) (rs rs' : List Nat) : NoConf (.val v [u] rs) (.val v' [u'] rs') = (¬ u.key = u'.key ∧ memN rs' u.key = false ∧ memN rs u'.key = false) := by
  rw [memN_false, memN_false]; simp [NoConf, and_assoc]
@[go_sem] theorem forall_nil (p : Nat → Prop) : (∀ r ∈ ([] : List Nat), p r) = True := by simp
@[go_sem] theorem forall_one (p : Nat → Prop) (a : Nat) (l : List Nat) : (∀ r ∈ a :: l, p r) = (p a ∧ ∀ r ∈ l, p r) := by simp
end Go.Proofs.YtghhkbigmmjanaaDoor.VA

/-! La1 -/
namespace Go.Proofs.YtghhkbigmmjanaaDoor.VA
open Go Go.RowKit
set_option linter.unusedSimpArgs false

/-! ### strings are lists of bytes -/
def ba (l : List UInt8) : ByteArray := ⟨l.toArray⟩
@[simp] theorem ba_size (l : List UInt8) : (ba l).size = l.length := by simp [ba, ByteArray.size]
@[simp] theorem ba_list (l : List UInt8) : (ba l).data.toList = l := by simp [ba]
theorem ba_inj {a b : List UInt8} : ba a = ba b ↔ a = b := ⟨fun h => by have := congrArg (fun x => x.data.toList) h; simpa using this, fun h => by rw [h]⟩
theorem ba_eta (s : ByteArray) : s = ba s.data.toList := by cases s; simp [ba]
@[go_sem] theorem mk_ba (l : List UInt8) : ByteArray.mk l.toArray = ba l := rfl
theorem ba_append (a b : List UInt8) : ba a ++ ba b = ba (a ++ b) := by
  rw [ba_eta (ba a ++ ba b)]
  congr 1
theorem ba_extract (l : List UInt8) (a b : Nat) : (ba l).extract a b = ba ((l.drop a).take (b - a)) := by
  rw [ba_eta ((ba l).extract a b)]
  congr 1
  simp [ba]
theorem ixs_ba {l : List UInt8} {n : Nat} (h : n < l.length) : ixs (some .string) (.lit (.string (ba l))) (some n) = some (.lit (.int .u8 ((l.getD n 0).toNat : Nat))) := by
  rw [ixs_str (by simpa using h)]
  simp [bAt]
theorem wrap64 {n : Int} (h1 : -9223372036854775808 ≤ n) (h2 : n ≤ 9223372036854775807) : IntKind.wrap .i64 n = n := by
  simp only [IntKind.wrap, IntKind.bits, IntKind.signed]
  simp
  omega
/-- Numbers that stay small. -/
theorem wrapN {a b : Nat} (h : a + b ≤ 9223372036854775807) : IntKind.wrap .i64 ((a : Int) + (b : Int)) = ((a + b : Nat) : Int) := by
  rw [wrap64 (by omega) (by omega)]; omega
theorem wrap1 {a : Nat} (h : a + 1 ≤ 9223372036854775807) : IntKind.wrap .i64 ((a : Int) + 1) = ((a + 1 : Nat) : Int) := by
  rw [wrap64 (by omega) (by omega)]; omega

/-! ### tokens -/
structure Tok where
  kind : Nat
  text : List UInt8
  at_ : Nat
def encTok (t : Tok) : List AV := [.lit (.int .i64 (t.kind : Nat)), .lit (.string (ba t.text)), .lit (.int .i64 (t.at_ : Nat))]
theorem sanL_encTok (t : Tok) : sanL (encTok t) = encTok t := by simp only [encTok, go_sem]
@[go_sem] theorem sanLL_encTok (l : List Tok) : sanLL (l.map encTok) = l.map encTok := sanLL_of encTok sanL_encTok l

/-! ### bytes -/
def isBlank (n : Nat) : Bool := n == 9 || n == 10 || n == 13 || n == 32
def isLetter (n : Nat) : Bool := (97 ≤ n && n ≤ 122) || (65 ≤ n && n ≤ 90)
def isDigit (n : Nat) : Bool := 48 ≤ n && n ≤ 57
def signs : List Nat := [123, 125, 40, 41, 44, 59, 46, 61, 43, 45, 42, 60, 38, 58]
def isSign (n : Nat) : Bool := signs.contains n
def inWord (n : Nat) : Bool := isLetter n || isDigit n || n == 95
def notNl (n : Nat) : Bool := n != 10
def cls (n : Nat) : Nat := if isBlank n then 1 else if n == 35 then 2 else if isLetter n then 3 else if isDigit n then 4 else if isSign n then 5 else 0
/-- How many bytes, from the first one on, hold. -/
def span (p : Nat → Bool) (l : List UInt8) : Nat := (l.takeWhile fun b => p b.toNat).length
theorem span_le (p : Nat → Bool) (l : List UInt8) : span p l ≤ l.length := by
  unfold span
  induction l with
  | nil => simp
  | cons x l ih => rw [List.takeWhile_cons]; split <;> simp <;> omega
theorem span_nil (p : Nat → Bool) : span p [] = 0 := rfl
theorem span_cons (p : Nat → Bool) (b : UInt8) (l : List UInt8) : span p (b :: l) = if p b.toNat then span p l + 1 else 0 := by
  unfold span
  rw [List.takeWhile_cons]
  split <;> simp
theorem span_pos {p : Nat → Bool} {b : UInt8} {l : List UInt8} (h : p b.toNat = true) : span p (b :: l) = span p l + 1 := by rw [span_cons, if_pos h]
theorem drop_cons {l : List UInt8} {n : Nat} (h : n < l.length) : l.drop n = l.getD n 0 :: l.drop (n + 1) := by
  rw [List.drop_eq_getElem_cons h, List.getD_eq_getElem?_getD, List.getElem?_eq_getElem h]
  rfl

/-! ### the lexer -/
inductive LexR where
  | ok (l : List Tok)
  | err (at_ : Nat)
def LexR.pre (acc : List Tok) : LexR → LexR
  | .ok l => .ok (acc ++ l)
  | .err a => .err a
theorem LexR.pre_pre (a b : List Tok) (r : LexR) : LexR.pre a (LexR.pre b r) = LexR.pre (a ++ b) r := by cases r <;> simp [LexR.pre]
theorem LexR.pre_nil (r : LexR) : LexR.pre [] r = r := by cases r <;> simp [LexR.pre]
/-- Is what stands behind digits no part of them? -/
def endsNum (l : List UInt8) : Bool :=
  match l with
  | [] => true
  | b :: _ => !inWord b.toNat
def lexF : Nat → List UInt8 → Nat → LexR
  | 0, _, at_ => .err at_
  | _ + 1, [], _ => .ok []
  | n + 1, b :: l, at_ =>
    match cls b.toNat with
    | 1 => lexF n l (at_ + 1)
    | 2 => lexF n ((b :: l).drop (span notNl (b :: l))) (at_ + span notNl (b :: l))
    | 3 => LexR.pre [⟨0, (b :: l).take (span inWord (b :: l)), at_⟩] (lexF n ((b :: l).drop (span inWord (b :: l))) (at_ + span inWord (b :: l)))
    | 4 =>
      if span isDigit (b :: l) ≤ 9 ∧ endsNum ((b :: l).drop (span isDigit (b :: l))) = true then
        LexR.pre [⟨1, (b :: l).take (span isDigit (b :: l)), at_⟩] (lexF n ((b :: l).drop (span isDigit (b :: l))) (at_ + span isDigit (b :: l)))
      else .err at_
    | 5 => LexR.pre [⟨2, [b], at_⟩] (lexF n l (at_ + 1))
    | _ => .err at_
/-- The tokens of bytes, the first of which stands at a place. -/
def lexL (l : List UInt8) (at_ : Nat) : LexR := lexF (l.length + 1) l at_
theorem cls_lt (n : Nat) : cls n ≤ 5 := by unfold cls; repeat (first | omega | split)
theorem cls2 {n : Nat} (h : cls n = 2) : notNl n = true := by
  unfold cls at h
  repeat' split at h
  all_goals first | omega | (rename_i h1; simp at h1; subst h1; rfl)
theorem cls3 {n : Nat} (h : cls n = 3) : inWord n = true := by
  unfold cls at h
  repeat' split at h
  all_goals first | omega | (rename_i h1; simp [inWord, h1])
theorem cls4 {n : Nat} (h : cls n = 4) : isDigit n = true := by
  unfold cls at h
  repeat' split at h
  all_goals first | omega | assumption
theorem lexF_more : ∀ (n : Nat) (l : List UInt8) (at_ m : Nat), l.length < n → l.length < m → lexF n l at_ = lexF m l at_ := by
  intro n
  induction n with
  | zero => intro l at_ m h; omega
  | succ n ih =>
    intro l at_ m h h'
    obtain ⟨m, rfl⟩ : ∃ k, m = k + 1 := ⟨m - 1, by omega⟩
    cases l with
    | nil => rfl
    | cons b l =>
      have step : ∀ (k : Nat), 0 < k → ∀ x, lexF n ((b :: l).drop k) x = lexF m ((b :: l).drop k) x := by
        intro k hk x
        refine ih _ _ _ ?_ ?_ <;> simp only [List.length_drop, List.length_cons] at h h' ⊢ <;> omega
      have step1 : ∀ x, lexF n l x = lexF m l x := fun x => step 1 (by omega) x
      simp only [lexF]
      split
      · exact step1 _
      · rename_i hc
        exact step _ (by rw [span_pos (cls2 hc)]; omega) _
      · rename_i hc
        rw [step _ (by rw [span_pos (cls3 hc)]; omega) _]
      · rename_i hc
        rw [step _ (by rw [span_pos (cls4 hc)]; omega) _]
      · rw [step1]
      · rfl
theorem lexF_eq {n : Nat} {l : List UInt8} {at_ : Nat} (h : l.length < n) : lexF n l at_ = lexL l at_ := lexF_more _ _ _ _ h (by omega)
theorem lexL_nil (at_ : Nat) : lexL [] at_ = .ok [] := rfl
theorem lexL_drop {b : UInt8} {l : List UInt8} {k at_ : Nat} (hk : 0 < k) : lexF (b :: l).length ((b :: l).drop k) at_ = lexL ((b :: l).drop k) at_ :=
  lexF_eq (by simp only [List.length_drop, List.length_cons]; omega)
theorem lexL_blank {b : UInt8} {l : List UInt8} {at_ : Nat} (h : cls b.toNat = 1) : lexL (b :: l) at_ = lexL l (at_ + 1) := by
  unfold lexL; simp only [lexF, h]; rfl
theorem lexL_remark {b : UInt8} {l : List UInt8} {at_ : Nat} (h : cls b.toNat = 2) : lexL (b :: l) at_ = lexL ((b :: l).drop (span notNl (b :: l))) (at_ + span notNl (b :: l)) := by
  conv => lhs; unfold lexL; simp only [lexF, h]
  exact lexL_drop (by rw [span_pos (cls2 h)]; omega)
theorem lexL_word {b : UInt8} {l : List UInt8} {at_ : Nat} (h : cls b.toNat = 3) : lexL (b :: l) at_ = LexR.pre [⟨0, (b :: l).take (span inWord (b :: l)), at_⟩] (lexL ((b :: l).drop (span inWord (b :: l))) (at_ + span inWord (b :: l))) := by
  conv => lhs; unfold lexL; simp only [lexF, h]
  rw [lexL_drop (by rw [span_pos (cls3 h)]; omega)]
theorem lexL_num {b : UInt8} {l : List UInt8} {at_ : Nat} (h : cls b.toNat = 4) (h2 : span isDigit (b :: l) ≤ 9) (h3 : endsNum ((b :: l).drop (span isDigit (b :: l))) = true) :
    lexL (b :: l) at_ = LexR.pre [⟨1, (b :: l).take (span isDigit (b :: l)), at_⟩] (lexL ((b :: l).drop (span isDigit (b :: l))) (at_ + span isDigit (b :: l))) := by
  conv => lhs; unfold lexL; simp only [lexF, h]
  rw [if_pos ⟨h2, h3⟩, lexL_drop (by rw [span_pos (cls4 h)]; omega)]
theorem lexL_notnum {b : UInt8} {l : List UInt8} {at_ : Nat} (h : cls b.toNat = 4) (h2 : ¬ (span isDigit (b :: l) ≤ 9 ∧ endsNum ((b :: l).drop (span isDigit (b :: l))) = true)) : lexL (b :: l) at_ = .err at_ := by
  conv => lhs; unfold lexL; simp only [lexF, h]
  rw [if_neg h2]
theorem lexL_sign {b : UInt8} {l : List UInt8} {at_ : Nat} (h : cls b.toNat = 5) : lexL (b :: l) at_ = LexR.pre [⟨2, [b], at_⟩] (lexL l (at_ + 1)) := by
  unfold lexL; simp only [lexF, h]; rfl
theorem lexL_other {b : UInt8} {l : List UInt8} {at_ : Nat} (h : cls b.toNat = 0) : lexL (b :: l) at_ = .err at_ := by
  unfold lexL; simp only [lexF, h]
/-- What a lexer hands back: tokens, code, place. -/
def lexAns (l : List UInt8) : List Tok × Nat × Nat :=
  if 65536 < l.length then ([], 11, 0)
  else match lexL l 0 with
    | .ok ts => (ts, 0, 0)
    | .err a => ([], 10, a)
def encFault (code at_ : Nat) : AV := .agg [.lit (.int .i64 (code : Nat)), .lit (.int .i64 (at_ : Nat))]
def encLex (r : List Tok × Nat × Nat) : AV := .tup [.sl .sh (r.1.map encTok), encFault r.2.1 r.2.2]
/-! ### tokens of any kind, at any place -/
structure GTok where
  kind : Int
  text : List UInt8
  at_ : Int
  deriving DecidableEq
instance : Inhabited GTok := ⟨⟨0, [], 0⟩⟩
def encG (t : GTok) : List AV := [.lit (.int .i64 t.kind), .lit (.string (ba t.text)), .lit (.int .i64 t.at_)]
def Tok.g (t : Tok) : GTok := ⟨(t.kind : Nat), t.text, (t.at_ : Nat)⟩
theorem enc_g (l : List Tok) : l.map encTok = (l.map Tok.g).map encG := by simp [Function.comp_def, encTok, encG, Tok.g]
theorem sanL_encG (t : GTok) : sanL (encG t) = encG t := by simp only [encG, go_sem]
@[go_sem] theorem sanLL_encG (l : List GTok) : sanLL (l.map encG) = l.map encG := sanLL_of encG sanL_encG l
theorem iad_encG {t : TypeId} {bs : Nat} {o : Own} {l : List GTok} {i : Nat} (h : i < l.length) : iad (some (t, 3, bs)) (.sl o (l.map encG)) (some i) = some (.ep (encG (l.getD i default))) := by
  refine iad_some ?_ rfl
  rw [List.getElem?_map, List.getElem?_eq_getElem h, List.getD_eq_getElem?_getD, List.getElem?_eq_getElem h]
  rfl
theorem drop_cons' {α : Type} {l : List α} {n : Nat} (d : α) (h : n < l.length) : l.drop n = l.getD n d :: l.drop (n + 1) := by
  rw [List.drop_eq_getElem_cons h, List.getD_eq_getElem?_getD, List.getElem?_eq_getElem h]
  rfl
def rightB (k : Int) (t : List UInt8) : Bool :=
  match lexAns t with
  | ([x], 0, _) => decide ((x.kind : Int) = k) && decide (x.text = t)
  | _ => false
def rightG (t : GTok) : Bool := rightB t.kind t.text
end Go.Proofs.YtghhkbigmmjanaaDoor.VA

/-! Pa1 -/
namespace Go.Proofs.YtghhkbigmmjanaaDoor.VA
open Go Go.RowKit
set_option linter.unusedSimpArgs false

/-! ### programs -/
structure Opd where
  kind : Nat
  n : Int
  name : List UInt8
  deriving DecidableEq
inductive GStmt where
  | mk (op : Nat) (x y p : List UInt8) (a : List Opd) (props : List (List UInt8)) (th el : List GStmt)
structure GFunc where
  name : List UInt8
  params : List (List UInt8)
  body : List GStmt

/-! ### the parser's state: how many tokens were taken, how many statements there are, the fault -/
structure PS where
  at_ : Nat
  cnt : Nat
  f : Option (Nat × Int)
def PS.ok (s : PS) : Bool := s.f.isNone
def PS.adv (s : PS) : PS := { s with at_ := s.at_ + 1 }
/-- More steps than any list of tokens asks for. -/
def FN : Nat := 4398046511104
section
variable (l : List GTok) (en : Int)
def place (at_ : Nat) : Int := if at_ < l.length then (l.getD at_ default).at_ else en
def pfail (s : PS) (code : Nat) : PS := match s.f with | none => { s with f := some (code, place l en s.at_) } | some _ => s
/-- The next token, if there was no fault. -/
def tk (s : PS) : Option GTok := match s.f with | none => l[s.at_]? | some _ => none
def isT (s : PS) (t : List UInt8) : Bool := match tk l s with | none => false | some x => rightG x && decide (x.text = t) && !decide (x.kind = 1)
def need (s : PS) (t : List UInt8) : PS := match isT l s t with | true => s.adv | false => pfail l en s 0
def words : List (List UInt8) := [[102, 117, 110], [111, 117, 116], [114, 101, 116, 117, 114, 110], [105, 102], [101, 108, 115, 101], [119, 104, 105, 108, 101], [110, 101, 119], [112, 114, 111, 116, 111], [99, 97, 108, 108], [105, 110], [110, 117, 108, 108], [116, 114, 117, 101], [102, 97, 108, 115, 101]]
def keyword (t : List UInt8) : Bool := words.contains t
def isName (s : PS) : Bool := match tk l s with | none => false | some x => rightG x && decide (x.kind = 0) && !keyword x.text
def text (s : PS) : List UInt8 := (l.getD s.at_ default).text
def nameP (s : PS) : PS × List UInt8 := match isName l s with | true => (s.adv, text l s) | false => (pfail l en s 0, [])
def isNum (s : PS) : Bool := match tk l s with | none => false | some x => rightG x && decide (x.kind = 1)
def numOf (t : List UInt8) : Nat := t.foldl (fun n b => 10 * n + (b.toNat - 48)) 0
def tNull : List UInt8 := [110, 117, 108, 108]
def tTrue : List UInt8 := [116, 114, 117, 101]
def tFalse : List UInt8 := [102, 97, 108, 115, 101]
def operand (s : PS) : PS × Opd :=
  match isT l s tNull with
  | true => (s.adv, ⟨0, 0, []⟩)
  | false =>
  match isT l s tTrue with
  | true => (s.adv, ⟨1, 1, []⟩)
  | false =>
  match isT l s tFalse with
  | true => (s.adv, ⟨1, 0, []⟩)
  | false =>
  match isT l s [38] with
  | true => ((nameP l en s.adv).1, ⟨3, 0, (nameP l en s.adv).2⟩)
  | false =>
  match isNum l s with
  | true => (s.adv, ⟨2, (numOf (text l s) : Nat), []⟩)
  | false => ((nameP l en s).1, ⟨4, 0, (nameP l en s).2⟩)
/-- Things, parted by commas, up to a text. -/
def listF {X : Type} (one : PS → X → PS × X) (end_ : List UInt8) : Nat → PS → X → PS × X
  | 0, s, x => (s, x)
  | n + 1, s, x =>
    match s.ok with
    | false => (s, x)
    | true =>
      match isT l (one s x).1 end_ with
      | true => ((one s x).1.adv, (one s x).2)
      | false => listF one end_ n (need l en (one s x).1 [44]) (one s x).2
def listP {X : Type} (one : PS → X → PS × X) (end_ : List UInt8) (s : PS) (x : X) : PS × X :=
  match isT l s end_ with
  | true => (s.adv, x)
  | false => listF l en one end_ FN s x
def oneArg (s : PS) (acc : List Opd) : PS × List Opd := ((operand l en s).1, acc ++ [(operand l en s).2])
def args (s : PS) : PS × List Opd := listP l en (oneArg l en) [41] (need l en s [40]) []
def oneName (s : PS) (acc : List (List UInt8)) : PS × List (List UInt8) := ((nameP l en s).1, acc ++ [(nameP l en s).2])
def names (s : PS) : PS × List (List UInt8) := listP l en (oneName l en) [41] (need l en s [40]) []
/-- One property: its name, what it is. -/
def oneProp (s : PS) (acc : List (List UInt8) × List Opd) : PS × List (List UInt8) × List Opd :=
  ((operand l en (need l en (nameP l en s).1 [58])).1, acc.1 ++ [(nameP l en s).2], acc.2 ++ [(operand l en (need l en (nameP l en s).1 [58])).2])
def tProto : List UInt8 := [112, 114, 111, 116, 111]
def propsP (s : PS) : PS × List (List UInt8) × List Opd := listP l en (oneProp l en) [125] (need l en s [123]) ([], [])
/-- What stands behind `proto`. -/
def protoP (s : PS) : PS × Opd := operand l en (need l en s tProto)
def object (s : PS) : PS × GStmt :=
  ((protoP l en (propsP l en s).1).1, .mk 4 [] [] [] ((propsP l en s).2.2 ++ [(protoP l en (propsP l en s).1).2]) (propsP l en s).2.1 [] [])
def tIn : List UInt8 := [105, 110]
def tCall : List UInt8 := [99, 97, 108, 108]
def tNew : List UInt8 := [110, 101, 119]
/-- The sign of arithmetic that is next. -/
def signOf (s : PS) : List (List UInt8) → Option (List UInt8)
  | [] => none
  | t :: ts => match isT l s t with | true => some t | false => signOf s ts
def arith : List (List UInt8) := [[43], [45], [42], [60], [61]]
/-- What may stand behind an operand. -/
def rest (a : PS) (o : Opd) : PS × GStmt :=
  match signOf l a arith with
  | some t => ((operand l en a.adv).1, .mk 1 [] [] t [o, (operand l en a.adv).2] [] [] [])
  | none =>
    match decide (o.kind = 4) && isT l a [40] with
    | true => ((args l en a).1, .mk 6 [] o.name [] (args l en a).2 [] [] [])
    | false =>
      match decide (o.kind = 4) && isT l a [46] with
      | true => ((nameP l en a.adv).1, .mk 2 [] o.name (nameP l en a.adv).2 [] [] [] [])
      | false => (a, .mk 0 [] [] [] [o] [] [] [])
def value (s : PS) : PS × GStmt :=
  match isT l s tIn with
  | true => (s.adv, .mk 7 [] [] [] [] [] [] [])
  | false =>
  match isT l s tCall with
  | true => ((args l en (nameP l en s.adv).1).1, .mk 5 [] [] (nameP l en s.adv).2 (args l en (nameP l en s.adv).1).2 [] [] [])
  | false =>
  match isT l s tNew with
  | true => object l en s.adv
  | false => rest l en (operand l en s).1 (operand l en s).2
def GStmt.setX (s : GStmt) (x : List UInt8) : GStmt := match s with | .mk op _ y p a props th el => .mk op x y p a props th el
/-- What sets something, up to the semicolon. -/
def assign (s : PS) : PS × GStmt :=
  match isT l (nameP l en s).1 [46] with
  | true =>
    ((operand l en (need l en (nameP l en (nameP l en s).1.adv).1 [61])).1,
      .mk 3 (nameP l en s).2 [] (nameP l en (nameP l en s).1.adv).2 [(operand l en (need l en (nameP l en (nameP l en s).1.adv).1 [61])).2] [] [] [])
  | false => ((value l en (need l en (nameP l en s).1 [61])).1, (value l en (need l en (nameP l en s).1 [61])).2.setX (nameP l en s).2)
def tOut : List UInt8 := [111, 117, 116]
def tReturn : List UInt8 := [114, 101, 116, 117, 114, 110]
def tIf : List UInt8 := [105, 102]
def tElse : List UInt8 := [101, 108, 115, 101]
def tWhile : List UInt8 := [119, 104, 105, 108, 101]
def tFun : List UInt8 := [102, 117, 110]
def starts (s : PS) : Bool := isName l s || isT l s tOut || isT l s tReturn || isT l s tIf || isT l s tWhile
def PS.count (s : PS) : PS := { s with cnt := s.cnt + 1 }
def semi (r : PS × GStmt) : PS × GStmt := (need l en r.1 [59], r.2)
/-- A statement without blocks, up to its semicolon. -/
def simple (s : PS) : PS × GStmt :=
  match isT l s tOut with
  | true => ((operand l en s.adv).1, .mk 8 [] [] [] [(operand l en s.adv).2] [] [] [])
  | false =>
  match isT l s tReturn with
  | true => ((operand l en s.adv).1, .mk 11 [] [] [] [(operand l en s.adv).2] [] [] [])
  | false => assign l en s
mutual
def stmtF : Nat → PS → Nat → PS × GStmt
  | 0, s, _ => (pfail l en s 0, .mk 0 [] [] [] [] [] [] [])
  | n + 1, s, deep =>
    match starts l s with
    | false => (pfail l en s 0, .mk 0 [] [] [] [] [] [] [])
    | true =>
    match decide (2000 ≤ s.cnt) with
    | true => (pfail l en s 2, .mk 0 [] [] [] [] [] [] [])
    | false =>
    match isT l s tIf with
    | true =>
      match isT l (blockF n (operand l en s.count.adv).1 deep).1 tElse with
      | true => ((blockF n (blockF n (operand l en s.count.adv).1 deep).1.adv deep).1,
          .mk 9 [] [] [] [(operand l en s.count.adv).2] [] (blockF n (operand l en s.count.adv).1 deep).2 (blockF n (blockF n (operand l en s.count.adv).1 deep).1.adv deep).2)
      | false => ((blockF n (operand l en s.count.adv).1 deep).1, .mk 9 [] [] [] [(operand l en s.count.adv).2] [] (blockF n (operand l en s.count.adv).1 deep).2 [])
    | false =>
    match isT l s tWhile with
    | true => ((blockF n (operand l en s.count.adv).1 deep).1, .mk 10 [] [] [] [(operand l en s.count.adv).2] [] (blockF n (operand l en s.count.adv).1 deep).2 [])
    | false => semi l en (simple l en s.count)
def blockF : Nat → PS → Nat → PS × List GStmt
  | 0, s, _ => (pfail l en s 0, [])
  | n + 1, s, deep =>
    match isT l s [123] && decide (32 ≤ deep) with
    | true => (pfail l en s 1, [])
    | false => bodyF n (need l en s [123]) deep []
def bodyF : Nat → PS → Nat → List GStmt → PS × List GStmt
  | 0, s, _, acc => (pfail l en s 0, acc)
  | n + 1, s, deep, acc =>
    match s.ok && !isT l s [125] with
    | true => bodyF n (stmtF n s (deep + 1)).1 deep (acc ++ [(stmtF n s (deep + 1)).2])
    | false => (need l en s [125], acc)
end
/-- One function. -/
def funcP (s : PS) : PS × GFunc :=
  let a := nameP l en (need l en s tFun)
  let b := names l en a.1
  let c := blockF l en FN b.1 0
  (c.1, ⟨a.2, b.2, c.2⟩)
def progF : Nat → PS → List GFunc → PS × List GFunc
  | 0, s, acc => (s, acc)
  | n + 1, s, acc =>
    match s.ok && decide (s.at_ < l.length) with
    | false => (s, acc)
    | true => progF n (funcP l en s).1 (acc ++ [(funcP l en s).2])
/-- A program, or the first fault. -/
def readP : List GFunc × Nat × Int :=
  match (progF l en FN ⟨0, 0, none⟩ []).1.f with
  | none => ((progF l en FN ⟨0, 0, none⟩ []).2, 0, 0)
  | some (code, at_) => ([], code + 20, at_)
end
def parseP (s : List UInt8) : List GFunc × Nat × Int :=
  match lexAns s with
  | (ts, 0, _) => readP (ts.map Tok.g) s.length
  | (_, code, at_) => ([], code, at_)

/-! ### in the abstract interpreter's values -/
def encOpd (o : Opd) : List AV := [.lit (.int .i64 (o.kind : Nat)), .lit (.int .i64 o.n), .lit (.string (ba o.name))]
def encStr (t : List UInt8) : List AV := [.lit (.string (ba t))]
mutual
def encStmt : GStmt → List AV
  | .mk op x y p a props th el => [.lit (.int .i64 (op : Nat)), .lit (.string (ba x)), .lit (.string (ba y)), .lit (.string (ba p)), .sl .sh (a.map encOpd), .sl .sh (props.map encStr), .sl .sh (encStmts th), .sl .sh (encStmts el)]
def encStmts : List GStmt → List (List AV)
  | [] => []
  | s :: l => encStmt s :: encStmts l
end
theorem encStmts_map : ∀ (l : List GStmt), encStmts l = l.map encStmt
  | [] => rfl
  | s :: l => by simp only [encStmts, List.map_cons, encStmts_map l]
def encFunc (f : GFunc) : List AV := [.lit (.string (ba f.name)), .sl .sh (f.params.map encStr), .sl .sh (f.body.map encStmt)]
@[go_sem] theorem sanL_encOpd (o : Opd) : sanL (encOpd o) = encOpd o := by simp only [encOpd, go_sem]
@[go_sem] theorem sanL_encStr (t : List UInt8) : sanL (encStr t) = encStr t := by simp only [encStr, go_sem]
@[go_sem] theorem sanLL_encOpd (l : List Opd) : sanLL (l.map encOpd) = l.map encOpd := sanLL_of encOpd sanL_encOpd l
@[go_sem] theorem sanLL_encStr (l : List (List UInt8)) : sanLL (l.map encStr) = l.map encStr := sanLL_of encStr sanL_encStr l
mutual
theorem sanL_encStmt : ∀ (s : GStmt), sanL (encStmt s) = encStmt s
  | .mk op x y p a props th el => by simp only [encStmt, go_sem, sanLL_encStmts th, sanLL_encStmts el]
theorem sanLL_encStmts : ∀ (l : List GStmt), sanLL (encStmts l) = encStmts l
  | [] => rfl
  | s :: l => by simp only [encStmts, sanLL, sanL_encStmt s, sanLL_encStmts l]
end
attribute [go_sem] sanL_encStmt
@[go_sem] theorem sanLL_encStmt (l : List GStmt) : sanLL (l.map encStmt) = l.map encStmt := sanLL_of encStmt sanL_encStmt l
@[go_sem] theorem sanL_encFunc (f : GFunc) : sanL (encFunc f) = encFunc f := by simp only [encFunc, go_sem]
@[go_sem] theorem sanLL_encFunc (l : List GFunc) : sanLL (l.map encFunc) = l.map encFunc := sanLL_of encFunc sanL_encFunc l
end Go.Proofs.YtghhkbigmmjanaaDoor.VA

/-! Cf -/
namespace Go.Proofs.YtghhkbigmmjanaaDoor.VA
open Go Go.RowKit
set_option linter.unusedSimpArgs false
set_option maxRecDepth 100000

/-! ### types -/
@[go_sem] theorem und_int : Tryd.prog.underlying 3 = some (.int .i64) := by kernel_rfl
@[go_sem] theorem und_bool : Tryd.prog.underlying 4 = some .bool := by kernel_rfl
@[go_sem] theorem und_u8 : Tryd.prog.underlying 5 = some (.int .u8) := by kernel_rfl
@[go_sem] theorem und_string : Tryd.prog.underlying 9 = some .string := by kernel_rfl
@[go_sem] theorem el_tok : tElem Tryd.prog 22 = some (38, 3, 32) := by kernel_rfl
@[go_sem] theorem el_str : tElem Tryd.prog 41 = some (9, 1, 16) := by kernel_rfl
@[go_sem] theorem fl_tok0 : tField Tryd.prog 38 0 = some (0, 1, false) := by kernel_rfl
@[go_sem] theorem fl_tok1 : tField Tryd.prog 38 1 = some (1, 1, false) := by kernel_rfl
@[go_sem] theorem fl_tok2 : tField Tryd.prog 38 2 = some (2, 1, false) := by kernel_rfl
@[go_sem] theorem fl_fault0 : tField Tryd.prog 28 0 = some (0, 1, false) := by kernel_rfl
@[go_sem] theorem fl_fault1 : tField Tryd.prog 28 1 = some (1, 1, false) := by kernel_rfl
@[go_sem] theorem bl_tok : tBuild Tryd.prog 38 = some ([(0, 1), (1, 1), (2, 1)], [.lit (.int .i64 0), .lit (.string ⟨#[]⟩), .lit (.int .i64 0)]) := by kernel_rfl
@[go_sem] theorem bl_fault : tBuild Tryd.prog 28 = some ([(0, 1), (1, 1)], [.lit (.int .i64 0), .lit (.int .i64 0)]) := by kernel_rfl
@[go_sem] theorem zr_tok : tZero Tryd.prog 38 = some [.lit (.int .i64 0), .lit (.string ⟨#[]⟩), .lit (.int .i64 0)] := by kernel_rfl
@[go_sem] theorem zr_fault : tZero Tryd.prog 28 = some [.lit (.int .i64 0), .lit (.int .i64 0)] := by kernel_rfl
@[go_sem] theorem zo_tok : zeroOk Tryd.prog 38 3 = true := by kernel_rfl
@[go_sem] theorem zo_str : zeroOk Tryd.prog 9 1 = true := by kernel_rfl
@[go_sem] theorem sz_tok : tSize Tryd.prog 38 = some 3 := by kernel_rfl
@[go_sem] theorem sz_fault : tSize Tryd.prog 28 = some 2 := by kernel_rfl
@[go_sem] theorem sz_int : tSize Tryd.prog 3 = some 1 := by kernel_rfl
@[go_sem] theorem sz_str : tSize Tryd.prog 9 = some 1 := by kernel_rfl
@[go_sem] theorem ag_tok : tAgg Tryd.prog 38 = some true := by kernel_rfl
@[go_sem] theorem ag_fault : tAgg Tryd.prog 28 = some true := by kernel_rfl
@[go_sem] theorem ag_int : tAgg Tryd.prog 3 = some false := by kernel_rfl
@[go_sem] theorem ag_str : tAgg Tryd.prog 9 = some false := by kernel_rfl

/-! ### the functions -/
def idxByte : List UInt8 → Nat → Nat → Int
  | [], _, _ => -1
  | x :: l, c, i => if x.toNat = c then (i : Int) else idxByte l c (i + 1)
def tIndexByte : List AV → Option AV
  | [.lit (.string s), .lit (.int .u8 c)] => if c.toNat < 256 then some (.lit (.int .i64 (idxByte s.data.toList c.toNat 0))) else none
  | _ => none
def tAtoi : List AV → Option AV
  | [.lit (.string s)] =>
    if s.data.toList.all (fun b => isDigit b.toNat) = true ∧ 1 ≤ s.data.toList.length ∧ s.data.toList.length ≤ 18 then some (.tup [.lit (.int .i64 (numOf s.data.toList : Nat)), .lit .nilIface]) else none
  | _ => none
/-- Tokens, from what represents them. -/
def toks : List (List AV) → Option (List GTok)
  | [] => some []
  | [.lit (.int .i64 k), .lit (.string t), .lit (.int .i64 a)] :: r => (toks r).map (⟨k, t.data.toList, a⟩ :: ·)
  | _ => none
theorem toks_enc : ∀ (l : List GTok), toks (l.map encG) = some l
  | [] => rfl
  | t :: l => by simp only [List.map_cons, encG, toks, toks_enc l, Option.map_some, ba_list]
def encRead (r : List GFunc × Nat × Int) : AV := .tup [.agg [.sl .sh (r.1.map encFunc)], .agg [.lit (.int .i64 (r.2.1 : Nat)), .lit (.int .i64 r.2.2)]]
def LM : Nat := 549755813888
def tRead : List AV → Option AV
  | [.sl _ es, .lit (.int .i64 en)] =>
    match toks es with
    | some l => if l.length ≤ LM then some (encRead (readP l en)) else none
    | none => none
  | _ => none
def runs : List FuncId := [
  24,
  12,
  69,
  73,
  44,
  45,
  46,
  47,
  48,
  49,
  25,
  26,
  27,
  28,
  29,
  56,
  3,
  4,
  5,
  6,
  9,
  8,
  10,
  11,
  15,
  16,
  17,
  18,
  19,
  20,
  21,
  22,
  23,
  35,
  36,
  37,
  38,
  40,
  43,
  55,
  57,
  58,
  65,
  66,
  67,
  39,
  41,
  42,
  59,
  24]
/-- The functions that write to their caller's memory. -/
def writes : List FuncId := [
  14,
  30,
  31,
  32,
  33,
  34,
  50,
  51,
  52,
  53,
  54,
  61,
  62,
  63,
  64,
  71,
  76,
  77,
  83,
  84]
noncomputable def cfg : Cfg where
  fn := fun f => if (runs.contains f || writes.contains f) = true then Tryd.prog.funcs[f]? else none
  imp := fun f => writes.contains f
  told := fun f =>
    if f = 60 then some tIndexByte else
    if f = 70 then some tAtoi else
    none
/-- The same, with the parser's reader told. -/
noncomputable def cfg2 : Cfg := { cfg with told := fun f => if f = 7 then some tRead else cfg.told f }
def fnOk (P : Program) (f : FuncId) : Bool :=
  match P.funcs[f]? with
  | some fn => !(fn.name == "runtime.NumGoroutine") && (match fn.body with | some code => codeOk fn.ntmps code | none => true)
  | none => true
theorem runs_ok : (runs ++ writes).all (fnOk Tryd.prog) = true := by kernel_rfl

end Go.Proofs.YtghhkbigmmjanaaDoor.VA

/-! La2 -/
namespace Go.Proofs.YtghhkbigmmjanaaDoor.VA
open Go Go.RowKit
attribute [local go_sem] Nat.add_eq_left Nat.left_eq_add true_and and_true ite_true if_false Int.cast_ofNat_Int eq_self Nat.add_assoc Option.some.injEq decide_true decide_false Bool.not_true Bool.not_false List.size_toArray List.length_cons List.length_nil
set_option linter.unusedSimpArgs false
set_option maxRecDepth 100000

/-! ### functions of one byte -/
theorem call_any {P : Program} {c : Cfg} {k : Nat} {f : FuncId} {args : List AV} {v : AV} {H H' : Heap} (hi : c.imp f = false) (h : call P c k f args H = some (.ret v H')) (H2 : Heap) : calls P c f args H2 = some (.ret v H2) := by
  refine calls_iff.2 ⟨k, ?_⟩
  cases k with
  | zero => simp [call] at h
  | succ k =>
    simp only [call] at h ⊢
    cases ht : c.told f with
    | some g =>
      rw [ht] at h
      simp only at h ⊢
      cases hg : g (sanL args) with
      | none => rw [hg] at h; cases h
      | some u => rw [hg] at h; simp at h; simp [h.1]
    | none =>
      rw [ht] at h
      simp only at h ⊢
      cases hf : c.fn f with
      | none => rw [hf] at h; cases h
      | some fn =>
        rw [hf] at h
        simp only [hi] at h ⊢
        split at h
        · simp at h
          simp [h.1]
        · cases h
theorem cls_1 {n : Nat} (h : n = 9 ∨ n = 10 ∨ n = 13 ∨ n = 32) : cls n = 1 := by rcases h with rfl | rfl | rfl | rfl <;> rfl
theorem cls_2 {n : Nat} (h : n = 35) : cls n = 2 := by subst h; rfl
theorem cls_3 {n : Nat} (h : (97 ≤ n ∧ n ≤ 122) ∨ (65 ≤ n ∧ n ≤ 90)) : cls n = 3 := by
  have h1 : isBlank n = false := by simp [isBlank]; omega
  have h2 : (n == 35) = false := by simp; omega
  have h3 : isLetter n = true := by simp [isLetter]; omega
  simp [cls, h1, h2, h3]
theorem cls_4 {n : Nat} (h : 48 ≤ n ∧ n ≤ 57) : cls n = 4 := by
  have h1 : isBlank n = false := by simp [isBlank]; omega
  have h2 : (n == 35) = false := by simp; omega
  have h3 : isLetter n = false := by simp [isLetter]; omega
  have h4 : isDigit n = true := by simp [isDigit]; omega
  simp [cls, h1, h2, h3, h4]
theorem cls_5 {n : Nat} (h : ¬ (n = 9 ∨ n = 10 ∨ n = 13 ∨ n = 32)) (h2 : n ≠ 35) (h3 : ¬ ((97 ≤ n ∧ n ≤ 122) ∨ (65 ≤ n ∧ n ≤ 90))) (h4 : ¬ (48 ≤ n ∧ n ≤ 57)) : cls n = if isSign n then 5 else 0 := by
  have h1 : isBlank n = false := by simp [isBlank]; omega
  have h2 : (n == 35) = false := by simp; omega
  have h3 : isLetter n = false := by simp [isLetter]; omega
  have h4 : isDigit n = false := by simp [isDigit]; omega
  simp [cls, h1, h2, h3, h4]
theorem idx_sign {n : Nat} : (0 ≤ idxByte [123, 125, 40, 41, 44, 59, 46, 61, 43, 45, 42, 60, 38, 58] n 0) ↔ isSign n = true := by
  have key : ∀ (l : List UInt8) (i : Nat), (0 ≤ idxByte l n i) ↔ (l.map (·.toNat)).contains n = true := by
    intro l
    induction l with
    | nil => intro i; simp [idxByte]
    | cons x l ih =>
      intro i
      simp only [idxByte, List.map_cons, List.contains_cons]
      by_cases hx : x.toNat = n
      · rw [if_pos hx]
        have : (n == x.toNat) = true := by simp [hx]
        simp [this]
      · rw [if_neg hx]
        have : (n == x.toNat) = false := by simp; omega
        rw [this, Bool.false_or]
        exact ih _
  exact key _ 0
theorem c_index (l : List UInt8) (n : Nat) (hn : n < 256) (H : Heap) : calls Tryd.prog cfg 60 [.lit (.string (ba l)), .lit (.int .u8 (n : Nat))] H = some (.ret (.lit (.int .i64 (idxByte l n 0))) H) :=
  calls_told (h := tIndexByte) rfl (by simp [sanL, san, tIndexByte, hn]) H
set_option maxRecDepth 10000 in
theorem c_of (b : UInt8) (H : Heap) : calls Tryd.prog cfg 44 [.lit (.int .u8 (b.toNat : Nat))] H = some (.ret (.lit (.int .i64 (cls b.toNat : Nat))) H) := by
  refine calls_pure (fn := Tryd.f44) rfl rfl rfl rfl rfl ?_ H
  have hn : b.toNat < 256 := b.toNat_lt
  generalize b.toNat = n at hn
  by_cases h1 : ((n : Nat) : Int) = 9
  · simp only [go_sem, Nat.reduceBEq, Nat.reduceLeDiff, Nat.reduceEqDiff, Nat.reduceSub, Nat.reduceAdd, Int.reduceEq, Int.reduceLT, Int.reduceLE, Int.reduceAdd, h1]; rw [cls_1 (by omega)]; rfl
  by_cases h2 : ((n : Nat) : Int) = 10
  · simp only [go_sem, Nat.reduceBEq, Nat.reduceLeDiff, Nat.reduceEqDiff, Nat.reduceSub, Nat.reduceAdd, Int.reduceEq, Int.reduceLT, Int.reduceLE, Int.reduceAdd, h2]; rw [cls_1 (by omega)]; rfl
  by_cases h3 : ((n : Nat) : Int) = 13
  · simp only [go_sem, Nat.reduceBEq, Nat.reduceLeDiff, Nat.reduceEqDiff, Nat.reduceSub, Nat.reduceAdd, Int.reduceEq, Int.reduceLT, Int.reduceLE, Int.reduceAdd, h3]; rw [cls_1 (by omega)]; rfl
  by_cases h4 : ((n : Nat) : Int) = 32
  · simp only [go_sem, Nat.reduceBEq, Nat.reduceLeDiff, Nat.reduceEqDiff, Nat.reduceSub, Nat.reduceAdd, Int.reduceEq, Int.reduceLT, Int.reduceLE, Int.reduceAdd, h4]; rw [cls_1 (by omega)]; rfl
  by_cases h5 : ((n : Nat) : Int) = 35
  · simp only [go_sem, Nat.reduceBEq, Nat.reduceLeDiff, Nat.reduceEqDiff, Nat.reduceSub, Nat.reduceAdd, Int.reduceEq, Int.reduceLT, Int.reduceLE, Int.reduceAdd, h5]; rw [cls_2 (by omega)]; rfl
  have fin3 : ((97 ≤ n ∧ n ≤ 122) ∨ (65 ≤ n ∧ n ≤ 90)) → (some (AV.lit (.int .i64 3)) : Option AV) = some (.lit (.int .i64 (cls n : Nat))) := fun h => by rw [cls_3 h]; rfl
  have fin4 : (48 ≤ n ∧ n ≤ 57) → (some (AV.lit (.int .i64 4)) : Option AV) = some (.lit (.int .i64 (cls n : Nat))) := fun h => by rw [cls_4 h]; rfl
  have fin5 : ¬ ((97 ≤ n ∧ n ≤ 122) ∨ (65 ≤ n ∧ n ≤ 90)) → ¬ (48 ≤ n ∧ n ≤ 57) → isSign n = true → (some (AV.lit (.int .i64 5)) : Option AV) = some (.lit (.int .i64 (cls n : Nat))) := fun h h' hs => by
    rw [cls_5 (by omega) (by omega) h h', if_pos hs]; rfl
  have fin0 : ¬ ((97 ≤ n ∧ n ≤ 122) ∨ (65 ≤ n ∧ n ≤ 90)) → ¬ (48 ≤ n ∧ n ≤ 57) → ¬ isSign n = true → (some (AV.lit (.int .i64 0)) : Option AV) = some (.lit (.int .i64 (cls n : Nat))) := fun h h' hs => by
    rw [cls_5 (by omega) (by omega) h h', if_neg hs]; rfl
  by_cases h6 : (97 : Int) ≤ (n : Nat)
  · by_cases h7 : ((n : Nat) : Int) ≤ 122
    · simp only [go_sem, Nat.reduceBEq, Nat.reduceLeDiff, Nat.reduceEqDiff, Nat.reduceSub, Nat.reduceAdd, Int.reduceEq, Int.reduceLT, Int.reduceLE, Int.reduceAdd, h1, h2, h3, h4, h5, h6, h7]; exact fin3 (by omega)
    · have h8 : (65 : Int) ≤ (n : Nat) := by omega
      have h9 : ¬ ((n : Nat) : Int) ≤ 90 := by omega
      have h10 : (48 : Int) ≤ (n : Nat) := by omega
      have h11 : ¬ ((n : Nat) : Int) ≤ 57 := by omega
      by_cases hs : 0 ≤ idxByte [123, 125, 40, 41, 44, 59, 46, 61, 43, 45, 42, 60, 38, 58] n 0
      · simp only [go_sem, Nat.reduceBEq, Nat.reduceLeDiff, Nat.reduceEqDiff, Nat.reduceSub, Nat.reduceAdd, Int.reduceEq, Int.reduceLT, Int.reduceLE, Int.reduceAdd, h1, h2, h3, h4, h5, h6, h7, h8, h9, h10, h11, c_index _ _ hn, hs]; exact fin5 (by omega) (by omega) (idx_sign.1 hs)
      · simp only [go_sem, Nat.reduceBEq, Nat.reduceLeDiff, Nat.reduceEqDiff, Nat.reduceSub, Nat.reduceAdd, Int.reduceEq, Int.reduceLT, Int.reduceLE, Int.reduceAdd, h1, h2, h3, h4, h5, h6, h7, h8, h9, h10, h11, c_index _ _ hn, hs]; exact fin0 (by omega) (by omega) (fun h => hs (idx_sign.2 h))
  · by_cases h8 : (65 : Int) ≤ (n : Nat)
    · by_cases h9 : ((n : Nat) : Int) ≤ 90
      · simp only [go_sem, Nat.reduceBEq, Nat.reduceLeDiff, Nat.reduceEqDiff, Nat.reduceSub, Nat.reduceAdd, Int.reduceEq, Int.reduceLT, Int.reduceLE, Int.reduceAdd, h1, h2, h3, h4, h5, h6, h8, h9]; exact fin3 (by omega)
      · have h10 : (48 : Int) ≤ (n : Nat) := by omega
        have h11 : ¬ ((n : Nat) : Int) ≤ 57 := by omega
        by_cases hs : 0 ≤ idxByte [123, 125, 40, 41, 44, 59, 46, 61, 43, 45, 42, 60, 38, 58] n 0
        · simp only [go_sem, Nat.reduceBEq, Nat.reduceLeDiff, Nat.reduceEqDiff, Nat.reduceSub, Nat.reduceAdd, Int.reduceEq, Int.reduceLT, Int.reduceLE, Int.reduceAdd, h1, h2, h3, h4, h5, h6, h8, h9, h10, h11, c_index _ _ hn, hs]; exact fin5 (by omega) (by omega) (idx_sign.1 hs)
        · simp only [go_sem, Nat.reduceBEq, Nat.reduceLeDiff, Nat.reduceEqDiff, Nat.reduceSub, Nat.reduceAdd, Int.reduceEq, Int.reduceLT, Int.reduceLE, Int.reduceAdd, h1, h2, h3, h4, h5, h6, h8, h9, h10, h11, c_index _ _ hn, hs]; exact fin0 (by omega) (by omega) (fun h => hs (idx_sign.2 h))
    · by_cases h10 : (48 : Int) ≤ (n : Nat)
      · by_cases h11 : ((n : Nat) : Int) ≤ 57
        · simp only [go_sem, Nat.reduceBEq, Nat.reduceLeDiff, Nat.reduceEqDiff, Nat.reduceSub, Nat.reduceAdd, Int.reduceEq, Int.reduceLT, Int.reduceLE, Int.reduceAdd, h1, h2, h3, h4, h5, h6, h8, h10, h11]; exact fin4 (by omega)
        · by_cases hs : 0 ≤ idxByte [123, 125, 40, 41, 44, 59, 46, 61, 43, 45, 42, 60, 38, 58] n 0
          · simp only [go_sem, Nat.reduceBEq, Nat.reduceLeDiff, Nat.reduceEqDiff, Nat.reduceSub, Nat.reduceAdd, Int.reduceEq, Int.reduceLT, Int.reduceLE, Int.reduceAdd, h1, h2, h3, h4, h5, h6, h8, h10, h11, c_index _ _ hn, hs]; exact fin5 (by omega) (by omega) (idx_sign.1 hs)
          · simp only [go_sem, Nat.reduceBEq, Nat.reduceLeDiff, Nat.reduceEqDiff, Nat.reduceSub, Nat.reduceAdd, Int.reduceEq, Int.reduceLT, Int.reduceLE, Int.reduceAdd, h1, h2, h3, h4, h5, h6, h8, h10, h11, c_index _ _ hn, hs]; exact fin0 (by omega) (by omega) (fun h => hs (idx_sign.2 h))
      · by_cases hs : 0 ≤ idxByte [123, 125, 40, 41, 44, 59, 46, 61, 43, 45, 42, 60, 38, 58] n 0
        · simp only [go_sem, Nat.reduceBEq, Nat.reduceLeDiff, Nat.reduceEqDiff, Nat.reduceSub, Nat.reduceAdd, Int.reduceEq, Int.reduceLT, Int.reduceLE, Int.reduceAdd, h1, h2, h3, h4, h5, h6, h8, h10, c_index _ _ hn, hs]; exact fin5 (by omega) (by omega) (idx_sign.1 hs)
        · simp only [go_sem, Nat.reduceBEq, Nat.reduceLeDiff, Nat.reduceEqDiff, Nat.reduceSub, Nat.reduceAdd, Int.reduceEq, Int.reduceLT, Int.reduceLE, Int.reduceAdd, h1, h2, h3, h4, h5, h6, h8, h10, c_index _ _ hn, hs]; exact fin0 (by omega) (by omega) (fun h => hs (idx_sign.2 h))
/-! ### what the classes tell -/
theorem cls3_iff (n : Nat) : cls n = 3 ↔ isLetter n = true := by
  constructor
  · intro h
    unfold cls at h
    repeat' split at h
    all_goals first | omega | assumption
  · intro h; exact cls_3 (by simp [isLetter] at h; omega)
theorem cls4_iff (n : Nat) : cls n = 4 ↔ isDigit n = true := by
  constructor
  · intro h
    unfold cls at h
    repeat' split at h
    all_goals first | omega | assumption
  · intro h; exact cls_4 (by simp [isDigit] at h; omega)
theorem c_inner (b : UInt8) (H : Heap) : calls Tryd.prog cfg 47 [.lit (.int .u8 (b.toNat : Nat))] H = some (.ret (.lit (.bool (inWord b.toNat))) H) := by
  refine calls_pure (fn := Tryd.f47) rfl rfl rfl rfl rfl ?_ H
  by_cases h1 : ((cls b.toNat : Nat) : Int) = 3
  · have hw : inWord b.toNat = true := by have := (cls3_iff b.toNat).1 (by omega); simp [inWord, this]
    simp only [go_sem, Nat.reduceBEq, Nat.reduceLeDiff, Nat.reduceEqDiff, Nat.reduceSub, Nat.reduceAdd, Int.reduceEq, Int.reduceLT, Int.reduceLE, Int.reduceAdd, c_of, h1, hw] <;> rfl
  · have hl : isLetter b.toNat = false := by have := cls3_iff b.toNat; cases h : isLetter b.toNat with
      | false => rfl
      | true => exact absurd (this.2 h) (by omega)
    by_cases h2 : ((cls b.toNat : Nat) : Int) = 4
    · have hw : inWord b.toNat = true := by have := (cls4_iff b.toNat).1 (by omega); simp [inWord, this]
      simp only [go_sem, Nat.reduceBEq, Nat.reduceLeDiff, Nat.reduceEqDiff, Nat.reduceSub, Nat.reduceAdd, Int.reduceEq, Int.reduceLT, Int.reduceLE, Int.reduceAdd, c_of, h2, hw] <;> rfl
    · have hd : isDigit b.toNat = false := by have := cls4_iff b.toNat; cases h : isDigit b.toNat with
        | false => rfl
        | true => exact absurd (this.2 h) (by omega)
      by_cases h3 : ((b.toNat : Nat) : Int) = 95
      · have hw : inWord b.toNat = true := by have : b.toNat = 95 := by omega
                                              simp [inWord, this]
        have d3 : decide (((b.toNat : Nat) : Int) = 95) = true := by simp [h3]
        simp only [go_sem, Nat.reduceBEq, Nat.reduceLeDiff, Nat.reduceEqDiff, Nat.reduceSub, Nat.reduceAdd, Int.reduceEq, Int.reduceLT, Int.reduceLE, Int.reduceAdd, c_of, h1, h2, d3, hw] <;> rfl
      · have hw : inWord b.toNat = false := by have : (b.toNat == 95) = false := by simp; omega
                                               simp [inWord, hl, hd, this]
        simp only [go_sem, Nat.reduceBEq, Nat.reduceLeDiff, Nat.reduceEqDiff, Nat.reduceSub, Nat.reduceAdd, Int.reduceEq, Int.reduceLT, Int.reduceLE, Int.reduceAdd, c_of, h1, h2, h3, hw] <;> rfl
theorem c_lex1 (b : UInt8) (H : Heap) : calls Tryd.prog cfg 46 [.lit (.int .u8 (b.toNat : Nat))] H = some (.ret (.lit (.bool (notNl b.toNat))) H) := by
  refine calls_pure (fn := Tryd.f46) rfl rfl rfl rfl rfl ?_ H
  have h : notNl b.toNat = !decide (((b.toNat : Nat) : Int) = 10) := by
    by_cases h : b.toNat = 10
    · simp [notNl, h]
    · have : ¬ ((b.toNat : Nat) : Int) = 10 := by omega
      simp [notNl, h, this]
  simp only [go_sem, Nat.reduceBEq, Nat.reduceLeDiff, Nat.reduceEqDiff, Nat.reduceSub, Nat.reduceAdd, Int.reduceEq, Int.reduceLT, Int.reduceLE, Int.reduceAdd, h] <;> rfl
theorem c_lex2 (b : UInt8) (H : Heap) : calls Tryd.prog cfg 48 [.lit (.int .u8 (b.toNat : Nat))] H = some (.ret (.lit (.bool (isDigit b.toNat))) H) := by
  refine calls_pure (fn := Tryd.f48) rfl rfl rfl rfl rfl ?_ H
  have h : isDigit b.toNat = decide (((cls b.toNat : Nat) : Int) = 4) := by
    have h0 := cls4_iff b.toNat
    cases h : isDigit b.toNat with
    | true => have := h0.2 h; simp [this]
    | false =>
      have : ¬ ((cls b.toNat : Nat) : Int) = 4 := fun h1 => by rw [h0.1 (by omega)] at h; cases h
      simp [this]
  simp only [go_sem, Nat.reduceBEq, Nat.reduceLeDiff, Nat.reduceEqDiff, Nat.reduceSub, Nat.reduceAdd, Int.reduceEq, Int.reduceLT, Int.reduceLE, Int.reduceAdd, c_of, h] <;> rfl
end Go.Proofs.YtghhkbigmmjanaaDoor.VA

/-! La3 -/
namespace Go.Proofs.YtghhkbigmmjanaaDoor.VA
open Go Go.RowKit
attribute [local go_sem] Nat.add_eq_left Nat.left_eq_add true_and and_true ite_true if_false Int.cast_ofNat_Int eq_self Nat.add_assoc Option.some.injEq decide_true decide_false Bool.not_true Bool.not_false List.size_toArray List.length_cons List.length_nil
set_option linter.unusedSimpArgs false
set_option maxRecDepth 100000

theorem c_end (l : List UInt8) (hs : l.length ≤ 9223372036854775806) (f : FuncId) (p : Nat → Bool)
    (hf : ∀ (b : UInt8) H, calls Tryd.prog cfg f [.lit (.int .u8 (b.toNat : Nat))] H = some (.ret (.lit (.bool (p b.toNat))) H)) (at_ : Nat) (ha : at_ ≤ l.length) (H : Heap) :
    calls Tryd.prog cfg 45 [.lit (.string (ba l)), .lit (.int .i64 (at_ : Nat)), .fn f []] H = some (.ret (.lit (.int .i64 (at_ + span p (l.drop at_) : Nat))) H) := by
  refine calls_pure (fn := Tryd.f45) rfl rfl rfl rfl rfl ?_ H
  generalize hr : at_ + span p (l.drop at_) = r
  have rs : Tryd.f45.results.toList = [.tmp 6] := rfl
  simp only [go_sem, Nat.reduceBEq, Nat.reduceLeDiff, Nat.reduceEqDiff, Nat.reduceSub, Nat.reduceAdd, Int.reduceEq, Int.reduceLT, Int.reduceLE, Int.reduceAdd, rs]
  refine W_loop_ind (fun n e H => ∃ a : Nat, n = l.length - a ∧ a ≤ l.length ∧ a + span p (l.drop a) = r ∧ gget .bad e 0 = .lit (.string (ba l)) ∧ gget .bad e 1 = .lit (.int .i64 (a : Nat)) ∧ gget .bad e 2 = .fn f [])
    (l.length - at_) ⟨at_, rfl, ha, hr, by simp only [go_sem, Nat.reduceBEq, Nat.reduceLeDiff, Nat.reduceEqDiff, Nat.reduceSub, Nat.reduceAdd, Int.reduceEq, Int.reduceLT, Int.reduceLE, Int.reduceAdd], by simp only [go_sem, Nat.reduceBEq, Nat.reduceLeDiff, Nat.reduceEqDiff, Nat.reduceSub, Nat.reduceAdd, Int.reduceEq, Int.reduceLT, Int.reduceLE, Int.reduceAdd], by simp only [go_sem, Nat.reduceBEq, Nat.reduceLeDiff, Nat.reduceEqDiff, Nat.reduceSub, Nat.reduceAdd, Int.reduceEq, Int.reduceLT, Int.reduceLE, Int.reduceAdd]⟩ ?_
  rintro n ih e H ⟨a, rfl, hle, hr, h0, h1, h2⟩
  by_cases hlt : a < l.length
  · have hlt' : (a : Int) < (l.length : Nat) := by omega
    rw [drop_cons hlt, span_cons] at hr
    cases hp : p (l.getD a 0).toNat with
    | true =>
      rw [if_pos hp] at hr
      simp only [go_sem, Nat.reduceBEq, Nat.reduceLeDiff, Nat.reduceEqDiff, Nat.reduceSub, Nat.reduceAdd, Int.reduceEq, Int.reduceLT, Int.reduceLE, Int.reduceAdd, h0, h1, h2, ba_size, hlt', ixs_ba hlt, hf, hp, wrap1 (show a + 1 ≤ 9223372036854775807 by omega)]
      exact ih (l.length - (a + 1)) (by omega) _ _ ⟨a + 1, rfl, by omega, by omega, by simp only [go_sem, Nat.reduceBEq, Nat.reduceLeDiff, Nat.reduceEqDiff, Nat.reduceSub, Nat.reduceAdd, Int.reduceEq, Int.reduceLT, Int.reduceLE, Int.reduceAdd, h0], by simp only [go_sem, Nat.reduceBEq, Nat.reduceLeDiff, Nat.reduceEqDiff, Nat.reduceSub, Nat.reduceAdd, Int.reduceEq, Int.reduceLT, Int.reduceLE, Int.reduceAdd], by simp only [go_sem, Nat.reduceBEq, Nat.reduceLeDiff, Nat.reduceEqDiff, Nat.reduceSub, Nat.reduceAdd, Int.reduceEq, Int.reduceLT, Int.reduceLE, Int.reduceAdd, h2]⟩
    | false =>
      rw [hp] at hr
      simp only [go_sem, Nat.reduceBEq, Nat.reduceLeDiff, Nat.reduceEqDiff, Nat.reduceSub, Nat.reduceAdd, Int.reduceEq, Int.reduceLT, Int.reduceLE, Int.reduceAdd, h0, h1, h2, ba_size, hlt', ixs_ba hlt, hf, hp]
      have : a = r := by simpa using hr
      subst this
      simp only [go_sem, Nat.reduceBEq, Nat.reduceLeDiff, Nat.reduceEqDiff, Nat.reduceSub, Nat.reduceAdd, Int.reduceEq, Int.reduceLT, Int.reduceLE, Int.reduceAdd]
  · have hlt' : ¬ (a : Int) < (l.length : Nat) := by omega
    have : a = r := by
      rw [List.drop_of_length_le (by omega), span_nil] at hr; omega
    subst this
    simp only [go_sem, Nat.reduceBEq, Nat.reduceLeDiff, Nat.reduceEqDiff, Nat.reduceSub, Nat.reduceAdd, Int.reduceEq, Int.reduceLT, Int.reduceLE, Int.reduceAdd, h0, h1, h2, ba_size, hlt']
theorem c_number (l : List UInt8) (hs : l.length ≤ 9223372036854775806) (at_ k : Nat) (ha : at_ + k ≤ l.length) (H : Heap) :
    calls Tryd.prog cfg 49 [.lit (.string (ba l)), .lit (.int .i64 (at_ : Nat)), .lit (.int .i64 (at_ + k : Nat))] H =
      some (.ret (.lit (.bool (decide (k ≤ 9) && endsNum (l.drop (at_ + k))))) H) := by
  refine calls_pure (fn := Tryd.f49) rfl rfl rfl rfl rfl ?_ H
  have hw : IntKind.wrap .i64 (((at_ + k : Nat) : Int) - (at_ : Nat)) = (k : Nat) := by rw [wrap64 (by omega) (by omega)]; omega
  by_cases h1 : k ≤ 9
  · have d1 : decide (((k : Nat) : Int) ≤ 9) = true := by simp; omega
    by_cases h2 : at_ + k = l.length
    · have d2 : decide (((at_ + k : Nat) : Int) = (l.length : Nat)) = true := by simp; omega
      rw [List.drop_of_length_le (by omega)]
      simp only [go_sem, Nat.reduceBEq, Nat.reduceLeDiff, Nat.reduceEqDiff, Nat.reduceSub, Nat.reduceAdd, Int.reduceEq, Int.reduceLT, Int.reduceLE, Int.reduceAdd, hw, d1, ba_size, d2, endsNum, h1, Bool.and_true]
      rfl
    · have d2 : decide (((at_ + k : Nat) : Int) = (l.length : Nat)) = false := by simp; omega
      have hlt : at_ + k < l.length := by omega
      rw [drop_cons hlt]
      simp only [go_sem, Nat.reduceBEq, Nat.reduceLeDiff, Nat.reduceEqDiff, Nat.reduceSub, Nat.reduceAdd, Int.reduceEq, Int.reduceLT, Int.reduceLE, Int.reduceAdd, hw, d1, ba_size, d2, ixs_ba hlt, c_inner, endsNum, h1, Bool.true_and]
      rfl
  · have d1 : decide (((k : Nat) : Int) ≤ 9) = false := by simp; omega
    simp only [go_sem, Nat.reduceBEq, Nat.reduceLeDiff, Nat.reduceEqDiff, Nat.reduceSub, Nat.reduceAdd, Int.reduceEq, Int.reduceLT, Int.reduceLE, Int.reduceAdd, hw, d1, h1, Bool.false_and]
    rfl
end Go.Proofs.YtghhkbigmmjanaaDoor.VA

/-! La4 -/
namespace Go.Proofs.YtghhkbigmmjanaaDoor.VA
open Go Go.RowKit
attribute [local go_sem] Nat.add_eq_left Nat.left_eq_add true_and and_true ite_true if_false Int.cast_ofNat_Int eq_self Nat.add_assoc Option.some.injEq decide_true decide_false Bool.not_true Bool.not_false List.size_toArray List.length_cons List.length_nil
set_option linter.unusedSimpArgs false
set_option maxRecDepth 100000

/-- A lexer's answer, as the program hands it back. -/
def encLexR : LexR → AV
  | .ok ts => encLex (ts, 0, 0)
  | .err a => encLex ([], 10, a)
theorem bs1_tok (k a : Int) (t : ByteArray) : aBuildSlice Tryd.prog 22 1 [(0, .agg [.lit (.int .i64 k), .lit (.string t), .lit (.int .i64 a)])] = some (.sl .ex [[.lit (.int .i64 k), .lit (.string t), .lit (.int .i64 a)]]) :=
  build1 el_tok (by decide) zr_tok rfl rfl (.agg [.lit (.int .i64 k), .lit (.string t), .lit (.int .i64 a)]) rfl rfl
set_option maxRecDepth 20000 in
theorem c_lex (l : List UInt8) (H : Heap) : calls Tryd.prog cfg 24 [.lit (.string (ba l))] H = some (.ret (encLex (lexAns l)) H) := by
  refine calls_pure (fn := Tryd.f24) rfl rfl rfl rfl rfl ?_ H
  have rs : Tryd.f24.results.toList = [.tmp 2, .cell 3 28] := rfl
  by_cases hbig : 65536 < l.length
  · have d : decide ((65536 : Int) < (l.length : Nat)) = true := by simp; omega
    simp only [go_sem, Nat.reduceBEq, Nat.reduceLeDiff, Nat.reduceEqDiff, Nat.reduceSub, Nat.reduceAdd, Int.reduceEq, Int.reduceLT, Int.reduceLE, Int.reduceAdd, rs, ba_size, d]
    simp only [lexAns, if_pos hbig, encLex, encFault]
    rfl
  · have d : decide ((65536 : Int) < (l.length : Nat)) = false := by simp; omega
    have hans : encLex (lexAns l) = encLexR (lexL l 0) := by
      simp only [lexAns, if_neg hbig]
      cases lexL l 0 <;> rfl
    rw [hans]
    generalize hR : lexL l 0 = R
    simp only [go_sem, Nat.reduceBEq, Nat.reduceLeDiff, Nat.reduceEqDiff, Nat.reduceSub, Nat.reduceAdd, Int.reduceEq, Int.reduceLT, Int.reduceLE, Int.reduceAdd, rs, ba_size, d]
    refine W_loop_ind (fun n e H => ∃ (a : Nat) (acc : List Tok) (o : Own), n = l.length - a ∧ a ≤ l.length ∧ acc.length ≤ a ∧ LexR.pre acc (lexL (l.drop a) a) = R ∧ gget .bad e 0 = .lit (.string (ba l)) ∧ gget .bad e 3 = .ptr 1 0 ∧
        gget .bad e 4 = .sl o (acc.map encTok) ∧ gget .bad e 5 = .lit (.int .i64 (a : Nat)) ∧ H.get 1 = some [.lit (.int .i64 0), .lit (.int .i64 0)] ∧ 2 ≤ H.next ∧ OwnOk H o 38 3)
      l.length ⟨0, [], .nil, rfl, by omega, by simp, by simpa [LexR.pre_nil] using hR, by simp only [go_sem, Nat.reduceBEq, Nat.reduceLeDiff, Nat.reduceEqDiff, Nat.reduceSub, Nat.reduceAdd, Int.reduceEq, Int.reduceLT, Int.reduceLE, Int.reduceAdd], by simp only [go_sem, Nat.reduceBEq, Nat.reduceLeDiff, Nat.reduceEqDiff, Nat.reduceSub, Nat.reduceAdd, Int.reduceEq, Int.reduceLT, Int.reduceLE, Int.reduceAdd], by simp only [go_sem, Nat.reduceBEq, Nat.reduceLeDiff, Nat.reduceEqDiff, Nat.reduceSub, Nat.reduceAdd, Int.reduceEq, Int.reduceLT, Int.reduceLE, Int.reduceAdd], by simp only [go_sem, Nat.reduceBEq, Nat.reduceLeDiff, Nat.reduceEqDiff, Nat.reduceSub, Nat.reduceAdd, Int.reduceEq, Int.reduceLT, Int.reduceLE, Int.reduceAdd] <;> rfl, by simp only [go_sem, Nat.reduceBEq, Nat.reduceLeDiff, Nat.reduceEqDiff, Nat.reduceSub, Nat.reduceAdd, Int.reduceEq, Int.reduceLT, Int.reduceLE, Int.reduceAdd], by simp only [go_sem, Nat.reduceBEq, Nat.reduceLeDiff, Nat.reduceEqDiff, Nat.reduceSub, Nat.reduceAdd, Int.reduceEq, Int.reduceLT, Int.reduceLE, Int.reduceAdd], by simp only [go_sem, Nat.reduceBEq, Nat.reduceLeDiff, Nat.reduceEqDiff, Nat.reduceSub, Nat.reduceAdd, Int.reduceEq, Int.reduceLT, Int.reduceLE, Int.reduceAdd]⟩ ?_
    rintro n ih e H ⟨a, acc, o, rfl, hle, hacc, hR, h0, h3, h4, h5, hg, hnx, ho⟩
    obtain ⟨m, hm⟩ : ∃ m, H.next = m + 2 := ⟨H.next - 2, by omega⟩
    by_cases hlt : a < l.length
    · have hlt' : decide ((a : Int) < (l.length : Nat)) = true := by simp; omega
      have dc := drop_cons hlt
      generalize hb : l.getD a 0 = b at dc
      have hix := ixs_ba hlt
      rw [hb] at hix
      have hw1 := wrap1 (show a + 1 ≤ 9223372036854775807 by omega)
      have hsl : ∀ k, a + k ≤ l.length → aSlice Tryd.prog 9 (.lit (.string (ba l))) (some (.lit (.int .i64 (a : Nat)))) (some (.lit (.int .i64 (a + k : Nat)))) = some (.lit (.string (ba ((l.drop a).take k)))) := by
        intro k hk
        rw [slice_str und_string (h := a + k) (l := a) (by simp only [optNat, aNat_cast]) (by simp only [optNat, aNat_cast]) (by omega) (by simpa using hk), ba_extract]
        congr 5; omega
      have hap : ∀ (v0 v1 v2 : AV) (H' : Heap) (id : Nat), OwnOk H' o 38 3 → aAppend Tryd.prog 22 (.sl o (acc.map encTok)) (.sl .ex [[v0, v1, v2]]) H' id =
          some (.sl (.own id 38 3) (acc.map encTok ++ sanLL [[v0, v1, v2]]), ownUs o id, ownRs o) := fun v0 v1 v2 H' id hh =>
        append_eq el_tok zo_tok (by omega) (by simp; omega) (by simp; omega) rfl H' id hh
      have hend : ∀ (f : FuncId) (p : Nat → Bool) (hf : ∀ (b : UInt8) H, calls Tryd.prog cfg f [.lit (.int .u8 (b.toNat : Nat))] H = some (.ret (.lit (.bool (p b.toNat))) H)) (H : Heap),
          calls Tryd.prog cfg 45 [.lit (.string (ba l)), .lit (.int .i64 (a : Nat)), .fn f []] H = some (.ret (.lit (.int .i64 (a + span p (l.drop a) : Nat))) H) := fun f p hf H => c_end l (by omega) f p hf a hle H
      have hspan : ∀ p, a + span p (l.drop a) ≤ l.length := fun p => by have := span_le p (l.drop a); simp at this; omega
      have c0 := cls_lt b.toNat
      by_cases c1 : cls b.toNat = 1
      · have hl := lexL_blank (l := l.drop (a + 1)) (at_ := a) c1
        rw [← dc] at hl
        rw [hl] at hR
        simp only [go_sem, Nat.reduceBEq, Nat.reduceLeDiff, Nat.reduceEqDiff, Nat.reduceSub, Nat.reduceAdd, Int.reduceEq, Int.reduceLT, Int.reduceLE, Int.reduceAdd, h0, h3, h4, h5, hg, hm, ba_size, hlt', hix, c_of, c1, hw1]
        exact ih (l.length - (a + 1)) (by omega) _ _ ⟨a + 1, acc, o, rfl, by omega, by omega, hR, by simp only [go_sem, Nat.reduceBEq, Nat.reduceLeDiff, Nat.reduceEqDiff, Nat.reduceSub, Nat.reduceAdd, Int.reduceEq, Int.reduceLT, Int.reduceLE, Int.reduceAdd, h0], by simp only [go_sem, Nat.reduceBEq, Nat.reduceLeDiff, Nat.reduceEqDiff, Nat.reduceSub, Nat.reduceAdd, Int.reduceEq, Int.reduceLT, Int.reduceLE, Int.reduceAdd, h3], by simp only [go_sem, Nat.reduceBEq, Nat.reduceLeDiff, Nat.reduceEqDiff, Nat.reduceSub, Nat.reduceAdd, Int.reduceEq, Int.reduceLT, Int.reduceLE, Int.reduceAdd, h4], by simp only [go_sem, Nat.reduceBEq, Nat.reduceLeDiff, Nat.reduceEqDiff, Nat.reduceSub, Nat.reduceAdd, Int.reduceEq, Int.reduceLT, Int.reduceLE, Int.reduceAdd], by simp only [go_sem, Nat.reduceBEq, Nat.reduceLeDiff, Nat.reduceEqDiff, Nat.reduceSub, Nat.reduceAdd, Int.reduceEq, Int.reduceLT, Int.reduceLE, Int.reduceAdd, hg], by simp only [go_sem, Nat.reduceBEq, Nat.reduceLeDiff, Nat.reduceEqDiff, Nat.reduceSub, Nat.reduceAdd, Int.reduceEq, Int.reduceLT, Int.reduceLE, Int.reduceAdd, hm], by simp only [go_sem, Nat.reduceBEq, Nat.reduceLeDiff, Nat.reduceEqDiff, Nat.reduceSub, Nat.reduceAdd, Int.reduceEq, Int.reduceLT, Int.reduceLE, Int.reduceAdd, ho]⟩
      by_cases c2 : cls b.toNat = 2
      · have hl := lexL_remark (l := l.drop (a + 1)) (at_ := a) c2
        rw [← dc] at hl
        rw [hl, List.drop_drop] at hR
        have hp : 0 < span notNl (l.drop a) := by rw [dc, span_pos (cls2 c2)]; omega
        have := hspan notNl
        simp only [go_sem, Nat.reduceBEq, Nat.reduceLeDiff, Nat.reduceEqDiff, Nat.reduceSub, Nat.reduceAdd, Int.reduceEq, Int.reduceLT, Int.reduceLE, Int.reduceAdd, h0, h3, h4, h5, hg, hm, ba_size, hlt', hix, c_of, c2, hw1, hend _ _ c_lex1]
        exact ih (l.length - (a + span notNl (l.drop a))) (by omega) _ _ ⟨a + span notNl (l.drop a), acc, o, rfl, by omega, by omega, hR, by simp only [go_sem, Nat.reduceBEq, Nat.reduceLeDiff, Nat.reduceEqDiff, Nat.reduceSub, Nat.reduceAdd, Int.reduceEq, Int.reduceLT, Int.reduceLE, Int.reduceAdd, h0], by simp only [go_sem, Nat.reduceBEq, Nat.reduceLeDiff, Nat.reduceEqDiff, Nat.reduceSub, Nat.reduceAdd, Int.reduceEq, Int.reduceLT, Int.reduceLE, Int.reduceAdd, h3], by simp only [go_sem, Nat.reduceBEq, Nat.reduceLeDiff, Nat.reduceEqDiff, Nat.reduceSub, Nat.reduceAdd, Int.reduceEq, Int.reduceLT, Int.reduceLE, Int.reduceAdd, h4], by simp only [go_sem, Nat.reduceBEq, Nat.reduceLeDiff, Nat.reduceEqDiff, Nat.reduceSub, Nat.reduceAdd, Int.reduceEq, Int.reduceLT, Int.reduceLE, Int.reduceAdd], by simp only [go_sem, Nat.reduceBEq, Nat.reduceLeDiff, Nat.reduceEqDiff, Nat.reduceSub, Nat.reduceAdd, Int.reduceEq, Int.reduceLT, Int.reduceLE, Int.reduceAdd, hg], by simp only [go_sem, Nat.reduceBEq, Nat.reduceLeDiff, Nat.reduceEqDiff, Nat.reduceSub, Nat.reduceAdd, Int.reduceEq, Int.reduceLT, Int.reduceLE, Int.reduceAdd, hm], by simp only [go_sem, Nat.reduceBEq, Nat.reduceLeDiff, Nat.reduceEqDiff, Nat.reduceSub, Nat.reduceAdd, Int.reduceEq, Int.reduceLT, Int.reduceLE, Int.reduceAdd, ho]⟩
      by_cases c3 : cls b.toNat = 3
      · have hl := lexL_word (l := l.drop (a + 1)) (at_ := a) c3
        rw [← dc] at hl
        rw [hl, List.drop_drop, LexR.pre_pre] at hR
        have hp : 0 < span inWord (l.drop a) := by rw [dc, span_pos (cls3 c3)]; omega
        have := hspan inWord
        simp only [go_sem, Nat.reduceBEq, Nat.reduceLeDiff, Nat.reduceEqDiff, Nat.reduceSub, Nat.reduceAdd, Int.reduceEq, Int.reduceLT, Int.reduceLE, Int.reduceAdd, h0, h3, h4, h5, hg, hm, ba_size, hlt', hix, c_of, c3, hw1, hend _ _ c_inner, hsl _ (hspan inWord), bs1_tok, hap, ho]
        exact ih (l.length - (a + span inWord (l.drop a))) (by omega) _ _ ⟨a + span inWord (l.drop a), acc ++ [⟨0, (l.drop a).take (span inWord (l.drop a)), a⟩], _, rfl, by omega, by simp; omega, hR, by simp only [go_sem, Nat.reduceBEq, Nat.reduceLeDiff, Nat.reduceEqDiff, Nat.reduceSub, Nat.reduceAdd, Int.reduceEq, Int.reduceLT, Int.reduceLE, Int.reduceAdd, h0], by simp only [go_sem, Nat.reduceBEq, Nat.reduceLeDiff, Nat.reduceEqDiff, Nat.reduceSub, Nat.reduceAdd, Int.reduceEq, Int.reduceLT, Int.reduceLE, Int.reduceAdd, h3],
          by simp only [go_sem, Nat.reduceBEq, Nat.reduceLeDiff, Nat.reduceEqDiff, Nat.reduceSub, Nat.reduceAdd, Int.reduceEq, Int.reduceLT, Int.reduceLE, Int.reduceAdd, List.map_append, encTok] <;> rfl, by simp only [go_sem, Nat.reduceBEq, Nat.reduceLeDiff, Nat.reduceEqDiff, Nat.reduceSub, Nat.reduceAdd, Int.reduceEq, Int.reduceLT, Int.reduceLE, Int.reduceAdd], by simp only [go_sem, Nat.reduceBEq, Nat.reduceLeDiff, Nat.reduceEqDiff, Nat.reduceSub, Nat.reduceAdd, Int.reduceEq, Int.reduceLT, Int.reduceLE, Int.reduceAdd, hg], by simp only [go_sem, Nat.reduceBEq, Nat.reduceLeDiff, Nat.reduceEqDiff, Nat.reduceSub, Nat.reduceAdd, Int.reduceEq, Int.reduceLT, Int.reduceLE, Int.reduceAdd, hm], by simp only [go_sem, Nat.reduceBEq, Nat.reduceLeDiff, Nat.reduceEqDiff, Nat.reduceSub, Nat.reduceAdd, Int.reduceEq, Int.reduceLT, Int.reduceLE, Int.reduceAdd]⟩
      by_cases c4 : cls b.toNat = 4
      · have hp : 0 < span isDigit (l.drop a) := by rw [dc, span_pos (cls4 c4)]; omega
        have := hspan isDigit
        have hnum := c_number l (by omega) a (span isDigit (l.drop a)) (hspan isDigit)
        by_cases hn : span isDigit (l.drop a) ≤ 9 ∧ endsNum ((l.drop a).drop (span isDigit (l.drop a))) = true
        · have hl := lexL_num (l := l.drop (a + 1)) (at_ := a) c4 (by rw [← dc]; exact hn.1) (by rw [← dc]; exact hn.2)
          rw [← dc] at hl
          rw [hl, List.drop_drop, LexR.pre_pre] at hR
          have hb2 : (decide (span isDigit (l.drop a) ≤ 9) && endsNum (l.drop (a + span isDigit (l.drop a)))) = true := by
            rw [List.drop_drop] at hn; simp [hn.1, hn.2]
          simp only [go_sem, Nat.reduceBEq, Nat.reduceLeDiff, Nat.reduceEqDiff, Nat.reduceSub, Nat.reduceAdd, Int.reduceEq, Int.reduceLT, Int.reduceLE, Int.reduceAdd, h0, h3, h4, h5, hg, hm, ba_size, hlt', hix, c_of, c4, hw1, hend _ _ c_lex2, hnum, hb2, hsl _ (hspan isDigit), bs1_tok, hap, ho]
          exact ih (l.length - (a + span isDigit (l.drop a))) (by omega) _ _ ⟨a + span isDigit (l.drop a), acc ++ [⟨1, (l.drop a).take (span isDigit (l.drop a)), a⟩], _, rfl, by omega, by simp; omega, hR, by simp only [go_sem, Nat.reduceBEq, Nat.reduceLeDiff, Nat.reduceEqDiff, Nat.reduceSub, Nat.reduceAdd, Int.reduceEq, Int.reduceLT, Int.reduceLE, Int.reduceAdd, h0], by simp only [go_sem, Nat.reduceBEq, Nat.reduceLeDiff, Nat.reduceEqDiff, Nat.reduceSub, Nat.reduceAdd, Int.reduceEq, Int.reduceLT, Int.reduceLE, Int.reduceAdd, h3],
            by simp only [go_sem, Nat.reduceBEq, Nat.reduceLeDiff, Nat.reduceEqDiff, Nat.reduceSub, Nat.reduceAdd, Int.reduceEq, Int.reduceLT, Int.reduceLE, Int.reduceAdd, List.map_append, encTok] <;> rfl, by simp only [go_sem, Nat.reduceBEq, Nat.reduceLeDiff, Nat.reduceEqDiff, Nat.reduceSub, Nat.reduceAdd, Int.reduceEq, Int.reduceLT, Int.reduceLE, Int.reduceAdd], by simp only [go_sem, Nat.reduceBEq, Nat.reduceLeDiff, Nat.reduceEqDiff, Nat.reduceSub, Nat.reduceAdd, Int.reduceEq, Int.reduceLT, Int.reduceLE, Int.reduceAdd, hg], by simp only [go_sem, Nat.reduceBEq, Nat.reduceLeDiff, Nat.reduceEqDiff, Nat.reduceSub, Nat.reduceAdd, Int.reduceEq, Int.reduceLT, Int.reduceLE, Int.reduceAdd, hm], by simp only [go_sem, Nat.reduceBEq, Nat.reduceLeDiff, Nat.reduceEqDiff, Nat.reduceSub, Nat.reduceAdd, Int.reduceEq, Int.reduceLT, Int.reduceLE, Int.reduceAdd]⟩
        · have hl := lexL_notnum (l := l.drop (a + 1)) (at_ := a) c4 (by rw [← dc]; exact hn)
          rw [← dc] at hl
          rw [hl] at hR
          have hb2 : (decide (span isDigit (l.drop a) ≤ 9) && endsNum (l.drop (a + span isDigit (l.drop a)))) = false := by
            rw [List.drop_drop] at hn
            rw [Bool.eq_false_iff]; intro hh; simp at hh; exact hn hh
          simp only [go_sem, Nat.reduceBEq, Nat.reduceLeDiff, Nat.reduceEqDiff, Nat.reduceSub, Nat.reduceAdd, Int.reduceEq, Int.reduceLT, Int.reduceLE, Int.reduceAdd, h0, h3, h4, h5, hg, hm, ba_size, hlt', hix, c_of, c4, hw1, hend _ _ c_lex2, hnum, hb2]
          rw [← hR]; rfl
      by_cases c5 : cls b.toNat = 5
      · have hl := lexL_sign (l := l.drop (a + 1)) (at_ := a) c5
        rw [← dc] at hl
        rw [hl, LexR.pre_pre] at hR
        have ht : (l.drop a).take 1 = [b] := by rw [dc]; rfl
        have hsl1 := hsl 1 (by omega)
        rw [ht] at hsl1
        simp only [go_sem, Nat.reduceBEq, Nat.reduceLeDiff, Nat.reduceEqDiff, Nat.reduceSub, Nat.reduceAdd, Int.reduceEq, Int.reduceLT, Int.reduceLE, Int.reduceAdd, h0, h3, h4, h5, hg, hm, ba_size, hlt', hix, c_of, c5, hw1, hsl1, bs1_tok, hap, ho]
        exact ih (l.length - (a + 1)) (by omega) _ _ ⟨a + 1, acc ++ [⟨2, [b], a⟩], _, rfl, by omega, by simp; omega, hR, by simp only [go_sem, Nat.reduceBEq, Nat.reduceLeDiff, Nat.reduceEqDiff, Nat.reduceSub, Nat.reduceAdd, Int.reduceEq, Int.reduceLT, Int.reduceLE, Int.reduceAdd, h0], by simp only [go_sem, Nat.reduceBEq, Nat.reduceLeDiff, Nat.reduceEqDiff, Nat.reduceSub, Nat.reduceAdd, Int.reduceEq, Int.reduceLT, Int.reduceLE, Int.reduceAdd, h3],
          by simp only [go_sem, Nat.reduceBEq, Nat.reduceLeDiff, Nat.reduceEqDiff, Nat.reduceSub, Nat.reduceAdd, Int.reduceEq, Int.reduceLT, Int.reduceLE, Int.reduceAdd, List.map_append, encTok] <;> rfl, by simp only [go_sem, Nat.reduceBEq, Nat.reduceLeDiff, Nat.reduceEqDiff, Nat.reduceSub, Nat.reduceAdd, Int.reduceEq, Int.reduceLT, Int.reduceLE, Int.reduceAdd], by simp only [go_sem, Nat.reduceBEq, Nat.reduceLeDiff, Nat.reduceEqDiff, Nat.reduceSub, Nat.reduceAdd, Int.reduceEq, Int.reduceLT, Int.reduceLE, Int.reduceAdd, hg], by simp only [go_sem, Nat.reduceBEq, Nat.reduceLeDiff, Nat.reduceEqDiff, Nat.reduceSub, Nat.reduceAdd, Int.reduceEq, Int.reduceLT, Int.reduceLE, Int.reduceAdd, hm], by simp only [go_sem, Nat.reduceBEq, Nat.reduceLeDiff, Nat.reduceEqDiff, Nat.reduceSub, Nat.reduceAdd, Int.reduceEq, Int.reduceLT, Int.reduceLE, Int.reduceAdd]⟩
      · have c6 : cls b.toNat = 0 := by omega
        have hl := lexL_other (l := l.drop (a + 1)) (at_ := a) c6
        rw [← dc] at hl
        rw [hl] at hR
        simp only [go_sem, Nat.reduceBEq, Nat.reduceLeDiff, Nat.reduceEqDiff, Nat.reduceSub, Nat.reduceAdd, Int.reduceEq, Int.reduceLT, Int.reduceLE, Int.reduceAdd, h0, h3, h4, h5, hg, hm, ba_size, hlt', hix, c_of, c6, hw1]
        rw [← hR]; rfl
    · have hlt' : decide ((a : Int) < (l.length : Nat)) = false := by simp; omega
      rw [List.drop_of_length_le (by omega), lexL_nil] at hR
      simp only [go_sem, Nat.reduceBEq, Nat.reduceLeDiff, Nat.reduceEqDiff, Nat.reduceSub, Nat.reduceAdd, Int.reduceEq, Int.reduceLT, Int.reduceLE, Int.reduceAdd, h0, h3, h4, h5, hg, hm, ba_size, hlt']
      rw [← hR]
      simp [LexR.pre, encLexR, encLex, encFault]
end Go.Proofs.YtghhkbigmmjanaaDoor.VA

/-! La5 -/
namespace Go.Proofs.YtghhkbigmmjanaaDoor.VA
open Go Go.RowKit
attribute [local go_sem] Nat.add_eq_left Nat.left_eq_add true_and and_true ite_true if_false Int.cast_ofNat_Int eq_self Nat.add_assoc Option.some.injEq decide_true decide_false Bool.not_true Bool.not_false List.size_toArray List.length_cons List.length_nil
set_option linter.unusedSimpArgs false
set_option maxRecDepth 100000

theorem c_rBlank (b : UInt8) (H : Heap) : calls Tryd.prog cfg 25 [.lit (.int .u8 (b.toNat : Nat))] H = some (.ret (.lit (.bool (isBlank b.toNat))) H) := by
  refine calls_pure (fn := Tryd.f25) rfl rfl rfl rfl rfl ?_ H
  generalize b.toNat = n
  by_cases h1 : ((n : Nat) : Int) = 9
  · have : isBlank n = true := by simp [isBlank]; omega
    simp only [go_sem, Nat.reduceBEq, Nat.reduceLeDiff, Nat.reduceEqDiff, Nat.reduceSub, Nat.reduceAdd, Int.reduceEq, Int.reduceLT, Int.reduceLE, Int.reduceAdd, h1, this] <;> rfl
  by_cases h2 : ((n : Nat) : Int) = 10
  · have : isBlank n = true := by simp [isBlank]; omega
    simp only [go_sem, Nat.reduceBEq, Nat.reduceLeDiff, Nat.reduceEqDiff, Nat.reduceSub, Nat.reduceAdd, Int.reduceEq, Int.reduceLT, Int.reduceLE, Int.reduceAdd, h2, this] <;> rfl
  by_cases h3 : ((n : Nat) : Int) = 13
  · have : isBlank n = true := by simp [isBlank]; omega
    simp only [go_sem, Nat.reduceBEq, Nat.reduceLeDiff, Nat.reduceEqDiff, Nat.reduceSub, Nat.reduceAdd, Int.reduceEq, Int.reduceLT, Int.reduceLE, Int.reduceAdd, h3, this] <;> rfl
  have h4 : isBlank n = decide (((n : Nat) : Int) = 32) := by
    by_cases h4 : ((n : Nat) : Int) = 32
    · have : isBlank n = true := by simp [isBlank]; omega
      rw [this, decide_eq_true h4]
    · have : isBlank n = false := by simp [isBlank]; omega
      rw [this, decide_eq_false h4]
  simp only [go_sem, Nat.reduceBEq, Nat.reduceLeDiff, Nat.reduceEqDiff, Nat.reduceSub, Nat.reduceAdd, Int.reduceEq, Int.reduceLT, Int.reduceLE, Int.reduceAdd, h1, h2, h3, h4] <;> rfl
theorem c_rDigit (b : UInt8) (H : Heap) : calls Tryd.prog cfg 28 [.lit (.int .u8 (b.toNat : Nat))] H = some (.ret (.lit (.bool (isDigit b.toNat))) H) := by
  refine calls_pure (fn := Tryd.f28) rfl rfl rfl rfl rfl ?_ H
  generalize b.toNat = n
  by_cases h1 : (48 : Int) ≤ (n : Nat)
  · by_cases h2 : ((n : Nat) : Int) ≤ 57
    · have : isDigit n = true := by simp [isDigit]; omega
      simp only [go_sem, Nat.reduceBEq, Nat.reduceLeDiff, Nat.reduceEqDiff, Nat.reduceSub, Nat.reduceAdd, Int.reduceEq, Int.reduceLT, Int.reduceLE, Int.reduceAdd, h1, h2, this] <;> rfl
    · have : isDigit n = false := by simp [isDigit]; omega
      simp only [go_sem, Nat.reduceBEq, Nat.reduceLeDiff, Nat.reduceEqDiff, Nat.reduceSub, Nat.reduceAdd, Int.reduceEq, Int.reduceLT, Int.reduceLE, Int.reduceAdd, h1, h2, this] <;> rfl
  · have : isDigit n = false := by simp [isDigit]; omega
    simp only [go_sem, Nat.reduceBEq, Nat.reduceLeDiff, Nat.reduceEqDiff, Nat.reduceSub, Nat.reduceAdd, Int.reduceEq, Int.reduceLT, Int.reduceLE, Int.reduceAdd, h1, this] <;> rfl
theorem c_rLetter (b : UInt8) (H : Heap) : calls Tryd.prog cfg 26 [.lit (.int .u8 (b.toNat : Nat))] H = some (.ret (.lit (.bool (isLetter b.toNat))) H) := by
  refine calls_pure (fn := Tryd.f26) rfl rfl rfl rfl rfl ?_ H
  generalize b.toNat = n
  by_cases h1 : (97 : Int) ≤ (n : Nat)
  · have h3 : (65 : Int) ≤ (n : Nat) := by omega
    by_cases h2 : ((n : Nat) : Int) ≤ 122
    · have : isLetter n = true := by simp [isLetter]; omega
      simp only [go_sem, Nat.reduceBEq, Nat.reduceLeDiff, Nat.reduceEqDiff, Nat.reduceSub, Nat.reduceAdd, Int.reduceEq, Int.reduceLT, Int.reduceLE, Int.reduceAdd, h1, h2, this] <;> rfl
    · have h4 : ¬ ((n : Nat) : Int) ≤ 90 := by omega
      have : isLetter n = false := by simp [isLetter]; omega
      simp only [go_sem, Nat.reduceBEq, Nat.reduceLeDiff, Nat.reduceEqDiff, Nat.reduceSub, Nat.reduceAdd, Int.reduceEq, Int.reduceLT, Int.reduceLE, Int.reduceAdd, h1, h2, h3, h4, this] <;> rfl
  · by_cases h3 : (65 : Int) ≤ (n : Nat)
    · by_cases h4 : ((n : Nat) : Int) ≤ 90
      · have : isLetter n = true := by simp [isLetter]; omega
        simp only [go_sem, Nat.reduceBEq, Nat.reduceLeDiff, Nat.reduceEqDiff, Nat.reduceSub, Nat.reduceAdd, Int.reduceEq, Int.reduceLT, Int.reduceLE, Int.reduceAdd, h1, h3, h4, this] <;> rfl
      · have : isLetter n = false := by simp [isLetter]; omega
        simp only [go_sem, Nat.reduceBEq, Nat.reduceLeDiff, Nat.reduceEqDiff, Nat.reduceSub, Nat.reduceAdd, Int.reduceEq, Int.reduceLT, Int.reduceLE, Int.reduceAdd, h1, h3, h4, this] <;> rfl
    · have : isLetter n = false := by simp [isLetter]; omega
      simp only [go_sem, Nat.reduceBEq, Nat.reduceLeDiff, Nat.reduceEqDiff, Nat.reduceSub, Nat.reduceAdd, Int.reduceEq, Int.reduceLT, Int.reduceLE, Int.reduceAdd, h1, h3, this] <;> rfl
theorem c_rInner (b : UInt8) (H : Heap) : calls Tryd.prog cfg 27 [.lit (.int .u8 (b.toNat : Nat))] H = some (.ret (.lit (.bool (inWord b.toNat))) H) := by
  refine calls_pure (fn := Tryd.f27) rfl rfl rfl rfl rfl ?_ H
  cases h1 : isLetter b.toNat with
  | true =>
    have : inWord b.toNat = true := by simp [inWord, h1]
    simp only [go_sem, Nat.reduceBEq, Nat.reduceLeDiff, Nat.reduceEqDiff, Nat.reduceSub, Nat.reduceAdd, Int.reduceEq, Int.reduceLT, Int.reduceLE, Int.reduceAdd, c_rLetter, h1, this] <;> rfl
  | false =>
    cases h2 : isDigit b.toNat with
    | true =>
      have : inWord b.toNat = true := by simp [inWord, h2]
      simp only [go_sem, Nat.reduceBEq, Nat.reduceLeDiff, Nat.reduceEqDiff, Nat.reduceSub, Nat.reduceAdd, Int.reduceEq, Int.reduceLT, Int.reduceLE, Int.reduceAdd, c_rLetter, c_rDigit, h1, h2, this] <;> rfl
    | false =>
      have : inWord b.toNat = decide (((b.toNat : Nat) : Int) = 95) := by
        by_cases h3 : ((b.toNat : Nat) : Int) = 95
        · have h4 : (b.toNat == 95) = true := by simp; omega
          rw [decide_eq_true h3]; simp only [inWord, h1, h2, h4]; rfl
        · have h4 : (b.toNat == 95) = false := by simp; omega
          rw [decide_eq_false h3]; simp only [inWord, h1, h2, h4]; rfl
      simp only [go_sem, Nat.reduceBEq, Nat.reduceLeDiff, Nat.reduceEqDiff, Nat.reduceSub, Nat.reduceAdd, Int.reduceEq, Int.reduceLT, Int.reduceLE, Int.reduceAdd, c_rLetter, c_rDigit, h1, h2, this] <;> rfl
def signL : List UInt8 := [123, 125, 40, 41, 44, 59, 46, 61, 43, 45, 42, 60, 38, 58]
theorem isSign_any (n : Nat) : isSign n = signL.any fun x => x.toNat == n := by
  simp only [isSign, signs, signL, List.any_cons, List.any_nil, List.contains_cons, List.contains_nil]
  have hc : ∀ (a : Nat), (n == a) = (a == n) := fun a => by rw [Bool.eq_iff_iff]; simp; omega
  simp only [hc]
  rfl
theorem c_rSign (b : UInt8) (H : Heap) : calls Tryd.prog cfg 29 [.lit (.int .u8 (b.toNat : Nat))] H = some (.ret (.lit (.bool (isSign b.toNat))) H) := by
  refine calls_pure (fn := Tryd.f29) rfl rfl rfl rfl rfl ?_ H
  have rs : Tryd.f29.results.toList = [.tmp 2] := rfl
  generalize b.toNat = n
  have hsl : [123, 125, 40, 41, 44, 59, 46, 61, 43, 45, 42, 60, 38, 58] = signL := rfl
  simp only [go_sem, Nat.reduceBEq, Nat.reduceLeDiff, Nat.reduceEqDiff, Nat.reduceSub, Nat.reduceAdd, Int.reduceEq, Int.reduceLT, Int.reduceLE, Int.reduceAdd, rs, hsl]
  generalize hr : isSign n = r
  refine W_loop_ind (fun k e H => ∃ a : Nat, k = signL.length - a ∧ a ≤ signL.length ∧ ((signL.drop a).any fun x => x.toNat == n) = r ∧ gget .bad e 0 = .lit (.int .u8 (n : Nat)) ∧ gget .bad e 3 = .lit (.string (ba signL)) ∧ gget .bad e 4 = .lit (.int .i64 (a : Nat)))
    signL.length ⟨0, rfl, by omega, by rw [← hr, isSign_any]; rfl, by simp only [go_sem, Nat.reduceBEq, Nat.reduceLeDiff, Nat.reduceEqDiff, Nat.reduceSub, Nat.reduceAdd, Int.reduceEq, Int.reduceLT, Int.reduceLE, Int.reduceAdd], by simp only [go_sem, Nat.reduceBEq, Nat.reduceLeDiff, Nat.reduceEqDiff, Nat.reduceSub, Nat.reduceAdd, Int.reduceEq, Int.reduceLT, Int.reduceLE, Int.reduceAdd], by simp only [go_sem, Nat.reduceBEq, Nat.reduceLeDiff, Nat.reduceEqDiff, Nat.reduceSub, Nat.reduceAdd, Int.reduceEq, Int.reduceLT, Int.reduceLE, Int.reduceAdd] <;> rfl⟩ ?_
  rintro k ih e H ⟨a, rfl, hle, hR, h0, h3, h4⟩
  have h14 : signL.length = 14 := rfl
  by_cases hlt : a < signL.length
  · have hlt' : decide ((a : Int) < (signL.length : Nat)) = true := by simp; omega
    have dc := drop_cons hlt
    have hix := ixs_ba hlt
    generalize signL.getD a 0 = b at dc hix
    rw [dc, List.any_cons] at hR
    have hw1 := wrap1 (show a + 1 ≤ 9223372036854775807 by omega)
    by_cases hb : ((b.toNat : Nat) : Int) = (n : Nat)
    · have hb' : decide (((b.toNat : Nat) : Int) = (n : Nat)) = true := by simp; omega
      have hb2 : (b.toNat == n) = true := by simp; omega
      rw [hb2] at hR
      simp only [go_sem, Nat.reduceBEq, Nat.reduceLeDiff, Nat.reduceEqDiff, Nat.reduceSub, Nat.reduceAdd, Int.reduceEq, Int.reduceLT, Int.reduceLE, Int.reduceAdd, h0, h3, h4, ba_size, hlt', hix, hb']
      rw [← hR]; rfl
    · have hb' : decide (((b.toNat : Nat) : Int) = (n : Nat)) = false := by simp; omega
      have hb2 : (b.toNat == n) = false := by simp; omega
      rw [hb2, Bool.false_or] at hR
      simp only [go_sem, Nat.reduceBEq, Nat.reduceLeDiff, Nat.reduceEqDiff, Nat.reduceSub, Nat.reduceAdd, Int.reduceEq, Int.reduceLT, Int.reduceLE, Int.reduceAdd, h0, h3, h4, ba_size, hlt', hix, hb', hw1]
      exact ih (signL.length - (a + 1)) (by omega) _ _ ⟨a + 1, rfl, by omega, hR, by simp only [go_sem, Nat.reduceBEq, Nat.reduceLeDiff, Nat.reduceEqDiff, Nat.reduceSub, Nat.reduceAdd, Int.reduceEq, Int.reduceLT, Int.reduceLE, Int.reduceAdd, h0], by simp only [go_sem, Nat.reduceBEq, Nat.reduceLeDiff, Nat.reduceEqDiff, Nat.reduceSub, Nat.reduceAdd, Int.reduceEq, Int.reduceLT, Int.reduceLE, Int.reduceAdd, h3], by simp only [go_sem, Nat.reduceBEq, Nat.reduceLeDiff, Nat.reduceEqDiff, Nat.reduceSub, Nat.reduceAdd, Int.reduceEq, Int.reduceLT, Int.reduceLE, Int.reduceAdd]⟩
  · have hlt' : decide ((a : Int) < (signL.length : Nat)) = false := by simp; omega
    rw [List.drop_of_length_le (by omega)] at hR
    simp only [go_sem, Nat.reduceBEq, Nat.reduceLeDiff, Nat.reduceEqDiff, Nat.reduceSub, Nat.reduceAdd, Int.reduceEq, Int.reduceLT, Int.reduceLE, Int.reduceAdd, h0, h3, h4, ba_size, hlt']
    rw [← hR]; rfl
end Go.Proofs.YtghhkbigmmjanaaDoor.VA

/-! La6 -/
namespace Go.Proofs.YtghhkbigmmjanaaDoor.VA
open Go Go.RowKit
attribute [local go_sem] Nat.add_eq_left Nat.left_eq_add true_and and_true ite_true if_false Int.cast_ofNat_Int eq_self Nat.add_assoc Option.some.injEq decide_true decide_false Bool.not_true Bool.not_false List.size_toArray List.length_cons List.length_nil
set_option linter.unusedSimpArgs false
set_option maxRecDepth 100000

/-- May one append: to what one owns, to nil, to a literal without elements. -/
def AppOk (H : Heap) (o : Own) (n : Nat) (e : TypeId) (sz : Nat) : Prop :=
  match o with
  | .ex => n = 0
  | o => OwnOk H o e sz
@[go_sem] theorem AppOk_up (H : Heap) (k : Nat) (o : Own) (n : Nat) (e : TypeId) (sz : Nat) : AppOk (H.up k) o n e sz = AppOk H o n e sz := by cases o <;> rfl
@[go_sem] theorem AppOk_put (H : Heap) (r : Nat) (cs : List AV) (o : Own) (n : Nat) (e : TypeId) (sz : Nat) : AppOk (H.put r cs) o n e sz = AppOk H o n e sz := by cases o <;> rfl
@[go_sem] theorem AppOk_ex (H : Heap) (n : Nat) (e : TypeId) (sz : Nat) : AppOk H .ex n e sz = (n = 0) := rfl
@[go_sem] theorem AppOk_nil (H : Heap) (n : Nat) (e : TypeId) (sz : Nat) : AppOk H .nil n e sz = True := rfl
@[go_sem] theorem AppOk_ownUs (H : Heap) (o : Own) (id : Nat) (n : Nat) (e : TypeId) (sz : Nat) : AppOk (appU H (ownUs o id)) (.own id e sz) n e sz = True := OwnOk_ownUs o e sz
theorem append_any {P : Program} {t : TypeId} {e : TypeId} {sz bs : Nat} {o o' : Own} {es xs : List (List AV)} {x : List AV} (ht : tElem P t = some (e, sz, bs)) (hz : zeroOk P e sz = true) (hs : 0 < sz)
    (hb : (es.length + (xs.length + 1)) * bs ≤ 140737488355328) (hl : es.length + (xs.length + 1) ≤ 140737488355328) (hx : x.length = sz) (H : Heap) (id : Nat) (ho : AppOk H o es.length e sz) :
    aAppend P t (.sl o es) (.sl o' (x :: xs)) H id = some (.sl (.own id e sz) (es ++ sanLL (x :: xs)), ownUs o id, ownRs o) := by
  cases o with
  | ex =>
    have : es = [] := List.eq_nil_of_length_eq_zero ho
    subst this
    rw [append_ex ht hz hs hb hl hx H id]; rfl
  | nil => exact append_eq ht hz hs hb hl hx H id ho
  | own k e' z => exact append_eq ht hz hs hb hl hx H id ho
  | sh => exact ho.elim

/-! ### how far a span goes -/
theorem span_lt {p : Nat → Bool} : ∀ {l : List UInt8} {j : Nat}, j < span p l → p (l.getD j 0).toNat = true
  | [], j, h => by simp [span_nil] at h
  | b :: l, j, h => by
    rw [span_cons] at h
    split at h
    · rename_i hp
      cases j with
      | zero => simpa using hp
      | succ j => have := span_lt (p := p) (l := l) (j := j) (by omega); simpa using this
    · omega
theorem span_end {p : Nat → Bool} : ∀ {l : List UInt8}, span p l < l.length → p (l.getD (span p l) 0).toNat = false
  | [], h => by simp at h
  | b :: l, h => by
    rw [span_cons] at h ⊢
    cases hp : p b.toNat with
    | true =>
      rw [hp] at h
      simp at h
      have := span_end (l := l) h
      simpa using this
    | false => simpa using hp
theorem getD_drop (l : List UInt8) (a j : Nat) : (l.drop a).getD j 0 = l.getD (a + j) 0 := by
  simp [List.getD_eq_getElem?_getD]
theorem endsNum_drop {l : List UInt8} {n : Nat} (h : n < l.length) : endsNum (l.drop n) = !inWord (l.getD n 0).toNat := by
  rw [drop_cons h]; rfl
theorem digit_word {n : Nat} (h : isDigit n = true) : inWord n = true := by simp [inWord, h]
@[go_sem] theorem bs0_tok : aBuildSlice Tryd.prog 22 0 [] = some (.sl .ex []) := build0 el_tok zr_tok rfl rfl

set_option maxRecDepth 20000 in
theorem c_rLex (l : List UInt8) (H : Heap) : calls Tryd.prog cfg 12 [.lit (.string (ba l))] H = some (.ret (encLex (lexAns l)) H) := by
  refine calls_pure (fn := Tryd.f12) rfl rfl rfl rfl rfl ?_ H
  have rs : Tryd.f12.results.toList = [.tmp 2, .cell 3 28] := rfl
  by_cases hbig : 65536 < l.length
  · have d : decide ((65536 : Int) < (l.length : Nat)) = true := by simp; omega
    simp only [go_sem, Nat.reduceBEq, Nat.reduceLeDiff, Nat.reduceEqDiff, Nat.reduceSub, Nat.reduceAdd, Int.reduceEq, Int.reduceLT, Int.reduceLE, Int.reduceAdd, rs, ba_size, d]
    simp only [lexAns, if_pos hbig, encLex, encFault]
    rfl
  · have d : decide ((65536 : Int) < (l.length : Nat)) = false := by simp; omega
    have hans : encLex (lexAns l) = encLexR (lexL l 0) := by
      simp only [lexAns, if_neg hbig]
      cases lexL l 0 <;> rfl
    rw [hans]
    generalize hR : lexL l 0 = R
    simp only [go_sem, Nat.reduceBEq, Nat.reduceLeDiff, Nat.reduceEqDiff, Nat.reduceSub, Nat.reduceAdd, Int.reduceEq, Int.reduceLT, Int.reduceLE, Int.reduceAdd, rs, ba_size, d]
    refine W_loop_ind (fun n e H => ∃ (a : Nat) (acc : List Tok) (o : Own), n = l.length - a ∧ a ≤ l.length ∧ acc.length ≤ a ∧ LexR.pre acc (lexL (l.drop a) a) = R ∧ gget .bad e 0 = .lit (.string (ba l)) ∧ gget .bad e 3 = .ptr 1 0 ∧
        gget .bad e 4 = .sl o (acc.map encTok) ∧ gget .bad e 5 = .lit (.int .i64 (a : Nat)) ∧ H.get 1 = some [.lit (.int .i64 0), .lit (.int .i64 0)] ∧ 2 ≤ H.next ∧ AppOk H o acc.length 38 3)
      l.length ⟨0, [], .ex, rfl, by omega, by simp, by simpa [LexR.pre_nil] using hR, by simp only [go_sem, Nat.reduceBEq, Nat.reduceLeDiff, Nat.reduceEqDiff, Nat.reduceSub, Nat.reduceAdd, Int.reduceEq, Int.reduceLT, Int.reduceLE, Int.reduceAdd], by simp only [go_sem, Nat.reduceBEq, Nat.reduceLeDiff, Nat.reduceEqDiff, Nat.reduceSub, Nat.reduceAdd, Int.reduceEq, Int.reduceLT, Int.reduceLE, Int.reduceAdd], by simp only [go_sem, Nat.reduceBEq, Nat.reduceLeDiff, Nat.reduceEqDiff, Nat.reduceSub, Nat.reduceAdd, Int.reduceEq, Int.reduceLT, Int.reduceLE, Int.reduceAdd], by simp only [go_sem, Nat.reduceBEq, Nat.reduceLeDiff, Nat.reduceEqDiff, Nat.reduceSub, Nat.reduceAdd, Int.reduceEq, Int.reduceLT, Int.reduceLE, Int.reduceAdd] <;> rfl, by simp only [go_sem, Nat.reduceBEq, Nat.reduceLeDiff, Nat.reduceEqDiff, Nat.reduceSub, Nat.reduceAdd, Int.reduceEq, Int.reduceLT, Int.reduceLE, Int.reduceAdd], by simp only [go_sem, Nat.reduceBEq, Nat.reduceLeDiff, Nat.reduceEqDiff, Nat.reduceSub, Nat.reduceAdd, Int.reduceEq, Int.reduceLT, Int.reduceLE, Int.reduceAdd], by simp only [go_sem, Nat.reduceBEq, Nat.reduceLeDiff, Nat.reduceEqDiff, Nat.reduceSub, Nat.reduceAdd, Int.reduceEq, Int.reduceLT, Int.reduceLE, Int.reduceAdd]⟩ ?_
    rintro n ih e H ⟨a, acc, o, rfl, hle, hacc, hR, h0, h3, h4, h5, hg, hnx, ho⟩
    obtain ⟨m, hm⟩ : ∃ m, H.next = m + 2 := ⟨H.next - 2, by omega⟩
    by_cases hlt : a < l.length
    · have hlt' : decide ((a : Int) < (l.length : Nat)) = true := by simp; omega
      have dc := drop_cons hlt
      generalize hb : l.getD a 0 = b at dc
      have hix := ixs_ba hlt
      rw [hb] at hix
      have hw1 := wrap1 (show a + 1 ≤ 9223372036854775807 by omega)
      have hsl : ∀ k, a + k ≤ l.length → aSlice Tryd.prog 9 (.lit (.string (ba l))) (some (.lit (.int .i64 (a : Nat)))) (some (.lit (.int .i64 (a + k : Nat)))) = some (.lit (.string (ba ((l.drop a).take k)))) := by
        intro k hk
        rw [slice_str und_string (h := a + k) (l := a) (by simp only [optNat, aNat_cast]) (by simp only [optNat, aNat_cast]) (by omega) (by simpa using hk), ba_extract]
        congr 5; omega
      have hap : ∀ (v0 v1 v2 : AV) (H' : Heap) (id : Nat), AppOk H' o acc.length 38 3 → aAppend Tryd.prog 22 (.sl o (acc.map encTok)) (.sl .ex [[v0, v1, v2]]) H' id =
          some (.sl (.own id 38 3) (acc.map encTok ++ sanLL [[v0, v1, v2]]), ownUs o id, ownRs o) := fun v0 v1 v2 H' id hh =>
        append_any el_tok zo_tok (by omega) (by simp; omega) (by simp; omega) rfl H' id (by simpa using hh)
      have hspan : ∀ p, a + span p (l.drop a) ≤ l.length := fun p => by have := span_le p (l.drop a); simp at this; omega
      have hixj : ∀ j, a + j < l.length → ixs (some .string) (.lit (.string (ba l))) (some (a + j)) = some (.lit (.int .u8 (((l.drop a).getD j 0).toNat : Nat))) := fun j hj => by rw [getD_drop]; exact ixs_ba hj
      have c0 := cls_lt b.toNat
      cases k1 : isBlank b.toNat with
      | true =>
        have c1 : cls b.toNat = 1 := by simp [cls, k1]
        have hl := lexL_blank (l := l.drop (a + 1)) (at_ := a) c1
        rw [← dc] at hl
        rw [hl] at hR
        simp only [go_sem, Nat.reduceBEq, Nat.reduceLeDiff, Nat.reduceEqDiff, Nat.reduceSub, Nat.reduceAdd, Int.reduceEq, Int.reduceLT, Int.reduceLE, Int.reduceAdd, h0, h3, h4, h5, hg, hm, ba_size, hlt', hix, c_rBlank, k1, hw1]
        exact ih (l.length - (a + 1)) (by omega) _ _ ⟨a + 1, acc, o, rfl, by omega, by omega, hR, by simp only [go_sem, Nat.reduceBEq, Nat.reduceLeDiff, Nat.reduceEqDiff, Nat.reduceSub, Nat.reduceAdd, Int.reduceEq, Int.reduceLT, Int.reduceLE, Int.reduceAdd, h0], by simp only [go_sem, Nat.reduceBEq, Nat.reduceLeDiff, Nat.reduceEqDiff, Nat.reduceSub, Nat.reduceAdd, Int.reduceEq, Int.reduceLT, Int.reduceLE, Int.reduceAdd, h3], by simp only [go_sem, Nat.reduceBEq, Nat.reduceLeDiff, Nat.reduceEqDiff, Nat.reduceSub, Nat.reduceAdd, Int.reduceEq, Int.reduceLT, Int.reduceLE, Int.reduceAdd, h4], by simp only [go_sem, Nat.reduceBEq, Nat.reduceLeDiff, Nat.reduceEqDiff, Nat.reduceSub, Nat.reduceAdd, Int.reduceEq, Int.reduceLT, Int.reduceLE, Int.reduceAdd], by simp only [go_sem, Nat.reduceBEq, Nat.reduceLeDiff, Nat.reduceEqDiff, Nat.reduceSub, Nat.reduceAdd, Int.reduceEq, Int.reduceLT, Int.reduceLE, Int.reduceAdd, hg], by simp only [go_sem, Nat.reduceBEq, Nat.reduceLeDiff, Nat.reduceEqDiff, Nat.reduceSub, Nat.reduceAdd, Int.reduceEq, Int.reduceLT, Int.reduceLE, Int.reduceAdd, hm], by simp only [go_sem, Nat.reduceBEq, Nat.reduceLeDiff, Nat.reduceEqDiff, Nat.reduceSub, Nat.reduceAdd, Int.reduceEq, Int.reduceLT, Int.reduceLE, Int.reduceAdd, ho]⟩
      | false =>
      by_cases k2 : ((b.toNat : Nat) : Int) = 35
      · have c2 : cls b.toNat = 2 := cls_2 (by omega)
        have hl := lexL_remark (l := l.drop (a + 1)) (at_ := a) c2
        rw [← dc] at hl
        rw [hl, List.drop_drop] at hR
        have hp : 0 < span notNl (l.drop a) := by rw [dc, span_pos (cls2 c2)]; omega
        have hk := hspan notNl
        have d2 : decide (((b.toNat : Nat) : Int) = 35) = true := by simp; omega
        simp only [go_sem, Nat.reduceBEq, Nat.reduceLeDiff, Nat.reduceEqDiff, Nat.reduceSub, Nat.reduceAdd, Int.reduceEq, Int.reduceLT, Int.reduceLE, Int.reduceAdd, h0, h3, h4, h5, hg, hm, ba_size, hlt', hix, c_rBlank, k1, d2]
        refine W_loop_ind (fun n e H => ∃ j : Nat, n = span notNl (l.drop a) - j ∧ j ≤ span notNl (l.drop a) ∧ gget .bad e 0 = .lit (.string (ba l)) ∧ gget .bad e 3 = .ptr 1 0 ∧
            gget .bad e 4 = .sl o (acc.map encTok) ∧ gget .bad e 5 = .lit (.int .i64 (a + j : Nat)) ∧ H.get 1 = some [.lit (.int .i64 0), .lit (.int .i64 0)] ∧ 2 ≤ H.next ∧ AppOk H o acc.length 38 3)
          (span notNl (l.drop a)) ⟨0, rfl, by omega, by simp only [go_sem, Nat.reduceBEq, Nat.reduceLeDiff, Nat.reduceEqDiff, Nat.reduceSub, Nat.reduceAdd, Int.reduceEq, Int.reduceLT, Int.reduceLE, Int.reduceAdd, h0], by simp only [go_sem, Nat.reduceBEq, Nat.reduceLeDiff, Nat.reduceEqDiff, Nat.reduceSub, Nat.reduceAdd, Int.reduceEq, Int.reduceLT, Int.reduceLE, Int.reduceAdd, h3], by simp only [go_sem, Nat.reduceBEq, Nat.reduceLeDiff, Nat.reduceEqDiff, Nat.reduceSub, Nat.reduceAdd, Int.reduceEq, Int.reduceLT, Int.reduceLE, Int.reduceAdd, h4], by simp only [go_sem, Nat.reduceBEq, Nat.reduceLeDiff, Nat.reduceEqDiff, Nat.reduceSub, Nat.reduceAdd, Int.reduceEq, Int.reduceLT, Int.reduceLE, Int.reduceAdd, h5] <;> rfl, by simp only [go_sem, Nat.reduceBEq, Nat.reduceLeDiff, Nat.reduceEqDiff, Nat.reduceSub, Nat.reduceAdd, Int.reduceEq, Int.reduceLT, Int.reduceLE, Int.reduceAdd, hg], by simp only [go_sem, Nat.reduceBEq, Nat.reduceLeDiff, Nat.reduceEqDiff, Nat.reduceSub, Nat.reduceAdd, Int.reduceEq, Int.reduceLT, Int.reduceLE, Int.reduceAdd, hm], by simp only [go_sem, Nat.reduceBEq, Nat.reduceLeDiff, Nat.reduceEqDiff, Nat.reduceSub, Nat.reduceAdd, Int.reduceEq, Int.reduceLT, Int.reduceLE, Int.reduceAdd, ho]⟩ ?_
        rintro n ih2 e H ⟨j, rfl, hj, h0, h3, h4, h5, hg, hnx, ho⟩
        obtain ⟨m, hm⟩ : ∃ m, H.next = m + 2 := ⟨H.next - 2, by omega⟩
        by_cases hjl : a + j < l.length
        · have hjl' : decide (((a + j : Nat) : Int) < (l.length : Nat)) = true := by simp; omega
          by_cases hjk : j < span notNl (l.drop a)
          · have hnl := span_lt hjk
            have d3 : decide (((((l.drop a).getD j 0).toNat : Nat) : Int) = 10) = false := by simp [notNl] at hnl ⊢; omega
            have hwj : IntKind.wrap .i64 (((a + j : Nat) : Int) + 1) = ((a + (j + 1) : Nat) : Int) := wrap1 (by omega)
            simp only [go_sem, Nat.reduceBEq, Nat.reduceLeDiff, Nat.reduceEqDiff, Nat.reduceSub, Nat.reduceAdd, Int.reduceEq, Int.reduceLT, Int.reduceLE, Int.reduceAdd, h0, h3, h4, h5, hg, hm, ba_size, hjl', hixj _ hjl, d3, hwj]
            exact ih2 (span notNl (l.drop a) - (j + 1)) (by omega) _ _ ⟨j + 1, rfl, by omega, by simp only [go_sem, Nat.reduceBEq, Nat.reduceLeDiff, Nat.reduceEqDiff, Nat.reduceSub, Nat.reduceAdd, Int.reduceEq, Int.reduceLT, Int.reduceLE, Int.reduceAdd, h0], by simp only [go_sem, Nat.reduceBEq, Nat.reduceLeDiff, Nat.reduceEqDiff, Nat.reduceSub, Nat.reduceAdd, Int.reduceEq, Int.reduceLT, Int.reduceLE, Int.reduceAdd, h3], by simp only [go_sem, Nat.reduceBEq, Nat.reduceLeDiff, Nat.reduceEqDiff, Nat.reduceSub, Nat.reduceAdd, Int.reduceEq, Int.reduceLT, Int.reduceLE, Int.reduceAdd, h4], by simp only [go_sem, Nat.reduceBEq, Nat.reduceLeDiff, Nat.reduceEqDiff, Nat.reduceSub, Nat.reduceAdd, Int.reduceEq, Int.reduceLT, Int.reduceLE, Int.reduceAdd], by simp only [go_sem, Nat.reduceBEq, Nat.reduceLeDiff, Nat.reduceEqDiff, Nat.reduceSub, Nat.reduceAdd, Int.reduceEq, Int.reduceLT, Int.reduceLE, Int.reduceAdd, hg], by simp only [go_sem, Nat.reduceBEq, Nat.reduceLeDiff, Nat.reduceEqDiff, Nat.reduceSub, Nat.reduceAdd, Int.reduceEq, Int.reduceLT, Int.reduceLE, Int.reduceAdd, hm], by simp only [go_sem, Nat.reduceBEq, Nat.reduceLeDiff, Nat.reduceEqDiff, Nat.reduceSub, Nat.reduceAdd, Int.reduceEq, Int.reduceLT, Int.reduceLE, Int.reduceAdd, ho]⟩
          · have hje : j = span notNl (l.drop a) := by omega
            have hnl := span_end (p := notNl) (l := l.drop a) (by simp; omega)
            rw [← hje] at hnl
            have d3 : decide (((((l.drop a).getD j 0).toNat : Nat) : Int) = 10) = true := by simp [notNl] at hnl ⊢; omega
            simp only [go_sem, Nat.reduceBEq, Nat.reduceLeDiff, Nat.reduceEqDiff, Nat.reduceSub, Nat.reduceAdd, Int.reduceEq, Int.reduceLT, Int.reduceLE, Int.reduceAdd, h0, h3, h4, h5, hg, hm, ba_size, hjl', hixj _ hjl, d3]
            rw [← hje] at hR
            exact ih (l.length - (a + j)) (by omega) _ _ ⟨a + j, acc, o, rfl, by omega, by omega, hR, by simp only [go_sem, Nat.reduceBEq, Nat.reduceLeDiff, Nat.reduceEqDiff, Nat.reduceSub, Nat.reduceAdd, Int.reduceEq, Int.reduceLT, Int.reduceLE, Int.reduceAdd, h0], by simp only [go_sem, Nat.reduceBEq, Nat.reduceLeDiff, Nat.reduceEqDiff, Nat.reduceSub, Nat.reduceAdd, Int.reduceEq, Int.reduceLT, Int.reduceLE, Int.reduceAdd, h3], by simp only [go_sem, Nat.reduceBEq, Nat.reduceLeDiff, Nat.reduceEqDiff, Nat.reduceSub, Nat.reduceAdd, Int.reduceEq, Int.reduceLT, Int.reduceLE, Int.reduceAdd, h4], by simp only [go_sem, Nat.reduceBEq, Nat.reduceLeDiff, Nat.reduceEqDiff, Nat.reduceSub, Nat.reduceAdd, Int.reduceEq, Int.reduceLT, Int.reduceLE, Int.reduceAdd, h5], by simp only [go_sem, Nat.reduceBEq, Nat.reduceLeDiff, Nat.reduceEqDiff, Nat.reduceSub, Nat.reduceAdd, Int.reduceEq, Int.reduceLT, Int.reduceLE, Int.reduceAdd, hg], by simp only [go_sem, Nat.reduceBEq, Nat.reduceLeDiff, Nat.reduceEqDiff, Nat.reduceSub, Nat.reduceAdd, Int.reduceEq, Int.reduceLT, Int.reduceLE, Int.reduceAdd, hm], by simp only [go_sem, Nat.reduceBEq, Nat.reduceLeDiff, Nat.reduceEqDiff, Nat.reduceSub, Nat.reduceAdd, Int.reduceEq, Int.reduceLT, Int.reduceLE, Int.reduceAdd, ho]⟩
        · have hjl' : decide (((a + j : Nat) : Int) < (l.length : Nat)) = false := by simp; omega
          have hje : j = span notNl (l.drop a) := by omega
          simp only [go_sem, Nat.reduceBEq, Nat.reduceLeDiff, Nat.reduceEqDiff, Nat.reduceSub, Nat.reduceAdd, Int.reduceEq, Int.reduceLT, Int.reduceLE, Int.reduceAdd, h0, h3, h4, h5, hg, hm, ba_size, hjl']
          rw [← hje] at hR
          exact ih (l.length - (a + j)) (by omega) _ _ ⟨a + j, acc, o, rfl, by omega, by omega, hR, by simp only [go_sem, Nat.reduceBEq, Nat.reduceLeDiff, Nat.reduceEqDiff, Nat.reduceSub, Nat.reduceAdd, Int.reduceEq, Int.reduceLT, Int.reduceLE, Int.reduceAdd, h0], by simp only [go_sem, Nat.reduceBEq, Nat.reduceLeDiff, Nat.reduceEqDiff, Nat.reduceSub, Nat.reduceAdd, Int.reduceEq, Int.reduceLT, Int.reduceLE, Int.reduceAdd, h3], by simp only [go_sem, Nat.reduceBEq, Nat.reduceLeDiff, Nat.reduceEqDiff, Nat.reduceSub, Nat.reduceAdd, Int.reduceEq, Int.reduceLT, Int.reduceLE, Int.reduceAdd, h4], by simp only [go_sem, Nat.reduceBEq, Nat.reduceLeDiff, Nat.reduceEqDiff, Nat.reduceSub, Nat.reduceAdd, Int.reduceEq, Int.reduceLT, Int.reduceLE, Int.reduceAdd, h5], by simp only [go_sem, Nat.reduceBEq, Nat.reduceLeDiff, Nat.reduceEqDiff, Nat.reduceSub, Nat.reduceAdd, Int.reduceEq, Int.reduceLT, Int.reduceLE, Int.reduceAdd, hg], by simp only [go_sem, Nat.reduceBEq, Nat.reduceLeDiff, Nat.reduceEqDiff, Nat.reduceSub, Nat.reduceAdd, Int.reduceEq, Int.reduceLT, Int.reduceLE, Int.reduceAdd, hm], by simp only [go_sem, Nat.reduceBEq, Nat.reduceLeDiff, Nat.reduceEqDiff, Nat.reduceSub, Nat.reduceAdd, Int.reduceEq, Int.reduceLT, Int.reduceLE, Int.reduceAdd, ho]⟩
      have d2 : decide (((b.toNat : Nat) : Int) = 35) = false := by simp; omega
      cases k3 : isLetter b.toNat with
      | true =>
        have c3 : cls b.toNat = 3 := (cls3_iff _).2 k3
        have hl := lexL_word (l := l.drop (a + 1)) (at_ := a) c3
        rw [← dc] at hl
        rw [hl, List.drop_drop, LexR.pre_pre] at hR
        have hp : 0 < span inWord (l.drop a) := by rw [dc, span_pos (cls3 c3)]; omega
        have hk := hspan inWord
        simp only [go_sem, Nat.reduceBEq, Nat.reduceLeDiff, Nat.reduceEqDiff, Nat.reduceSub, Nat.reduceAdd, Int.reduceEq, Int.reduceLT, Int.reduceLE, Int.reduceAdd, h0, h3, h4, h5, hg, hm, ba_size, hlt', hix, c_rBlank, c_rLetter, k1, d2, k3, hw1]
        refine W_loop_ind (fun n e H => ∃ j : Nat, n = span inWord (l.drop a) - j ∧ 0 < j ∧ j ≤ span inWord (l.drop a) ∧ gget .bad e 0 = .lit (.string (ba l)) ∧ gget .bad e 3 = .ptr 1 0 ∧
            gget .bad e 4 = .sl o (acc.map encTok) ∧ gget .bad e 5 = .lit (.int .i64 (a : Nat)) ∧ gget .bad e 7 = .lit (.int .i64 (a + j : Nat)) ∧ gget .bad e 8 = .lit (.int .i64 0) ∧
            H.get 1 = some [.lit (.int .i64 0), .lit (.int .i64 0)] ∧ 2 ≤ H.next ∧ AppOk H o acc.length 38 3)
          (span inWord (l.drop a) - 1) ⟨1, rfl, by omega, by omega, by simp only [go_sem, Nat.reduceBEq, Nat.reduceLeDiff, Nat.reduceEqDiff, Nat.reduceSub, Nat.reduceAdd, Int.reduceEq, Int.reduceLT, Int.reduceLE, Int.reduceAdd, h0], by simp only [go_sem, Nat.reduceBEq, Nat.reduceLeDiff, Nat.reduceEqDiff, Nat.reduceSub, Nat.reduceAdd, Int.reduceEq, Int.reduceLT, Int.reduceLE, Int.reduceAdd, h3], by simp only [go_sem, Nat.reduceBEq, Nat.reduceLeDiff, Nat.reduceEqDiff, Nat.reduceSub, Nat.reduceAdd, Int.reduceEq, Int.reduceLT, Int.reduceLE, Int.reduceAdd, h4], by simp only [go_sem, Nat.reduceBEq, Nat.reduceLeDiff, Nat.reduceEqDiff, Nat.reduceSub, Nat.reduceAdd, Int.reduceEq, Int.reduceLT, Int.reduceLE, Int.reduceAdd, h5], by simp only [go_sem, Nat.reduceBEq, Nat.reduceLeDiff, Nat.reduceEqDiff, Nat.reduceSub, Nat.reduceAdd, Int.reduceEq, Int.reduceLT, Int.reduceLE, Int.reduceAdd], by simp only [go_sem, Nat.reduceBEq, Nat.reduceLeDiff, Nat.reduceEqDiff, Nat.reduceSub, Nat.reduceAdd, Int.reduceEq, Int.reduceLT, Int.reduceLE, Int.reduceAdd], by simp only [go_sem, Nat.reduceBEq, Nat.reduceLeDiff, Nat.reduceEqDiff, Nat.reduceSub, Nat.reduceAdd, Int.reduceEq, Int.reduceLT, Int.reduceLE, Int.reduceAdd, hg], by simp only [go_sem, Nat.reduceBEq, Nat.reduceLeDiff, Nat.reduceEqDiff, Nat.reduceSub, Nat.reduceAdd, Int.reduceEq, Int.reduceLT, Int.reduceLE, Int.reduceAdd, hm], by simp only [go_sem, Nat.reduceBEq, Nat.reduceLeDiff, Nat.reduceEqDiff, Nat.reduceSub, Nat.reduceAdd, Int.reduceEq, Int.reduceLT, Int.reduceLE, Int.reduceAdd, ho]⟩ ?_
        rintro n ih2 e H ⟨j, rfl, hj0, hj, h0, h3, h4, h5, h7, h8, hg, hnx, ho⟩
        obtain ⟨m, hm⟩ : ∃ m, H.next = m + 2 := ⟨H.next - 2, by omega⟩
        by_cases hjk : j < span inWord (l.drop a)
        · have hjl : a + j < l.length := by omega
          have hjl' : decide (((a + j : Nat) : Int) < (l.length : Nat)) = true := by simp; omega
          have hnl := span_lt hjk
          have hwj : IntKind.wrap .i64 (((a + j : Nat) : Int) + 1) = ((a + (j + 1) : Nat) : Int) := wrap1 (by omega)
          simp only [go_sem, Nat.reduceBEq, Nat.reduceLeDiff, Nat.reduceEqDiff, Nat.reduceSub, Nat.reduceAdd, Int.reduceEq, Int.reduceLT, Int.reduceLE, Int.reduceAdd, h0, h3, h4, h5, h7, h8, hg, hm, ba_size, hjl', hixj _ hjl, c_rInner, hnl, hwj]
          exact ih2 (span inWord (l.drop a) - (j + 1)) (by omega) _ _ ⟨j + 1, rfl, by omega, by omega, by simp only [go_sem, Nat.reduceBEq, Nat.reduceLeDiff, Nat.reduceEqDiff, Nat.reduceSub, Nat.reduceAdd, Int.reduceEq, Int.reduceLT, Int.reduceLE, Int.reduceAdd, h0], by simp only [go_sem, Nat.reduceBEq, Nat.reduceLeDiff, Nat.reduceEqDiff, Nat.reduceSub, Nat.reduceAdd, Int.reduceEq, Int.reduceLT, Int.reduceLE, Int.reduceAdd, h3], by simp only [go_sem, Nat.reduceBEq, Nat.reduceLeDiff, Nat.reduceEqDiff, Nat.reduceSub, Nat.reduceAdd, Int.reduceEq, Int.reduceLT, Int.reduceLE, Int.reduceAdd, h4], by simp only [go_sem, Nat.reduceBEq, Nat.reduceLeDiff, Nat.reduceEqDiff, Nat.reduceSub, Nat.reduceAdd, Int.reduceEq, Int.reduceLT, Int.reduceLE, Int.reduceAdd, h5], by simp only [go_sem, Nat.reduceBEq, Nat.reduceLeDiff, Nat.reduceEqDiff, Nat.reduceSub, Nat.reduceAdd, Int.reduceEq, Int.reduceLT, Int.reduceLE, Int.reduceAdd], by simp only [go_sem, Nat.reduceBEq, Nat.reduceLeDiff, Nat.reduceEqDiff, Nat.reduceSub, Nat.reduceAdd, Int.reduceEq, Int.reduceLT, Int.reduceLE, Int.reduceAdd, h8], by simp only [go_sem, Nat.reduceBEq, Nat.reduceLeDiff, Nat.reduceEqDiff, Nat.reduceSub, Nat.reduceAdd, Int.reduceEq, Int.reduceLT, Int.reduceLE, Int.reduceAdd, hg], by simp only [go_sem, Nat.reduceBEq, Nat.reduceLeDiff, Nat.reduceEqDiff, Nat.reduceSub, Nat.reduceAdd, Int.reduceEq, Int.reduceLT, Int.reduceLE, Int.reduceAdd, hm], by simp only [go_sem, Nat.reduceBEq, Nat.reduceLeDiff, Nat.reduceEqDiff, Nat.reduceSub, Nat.reduceAdd, Int.reduceEq, Int.reduceLT, Int.reduceLE, Int.reduceAdd, ho]⟩
        · have hje : j = span inWord (l.drop a) := by omega
          rw [← hje] at hR
          by_cases hjl : a + j < l.length
          · have hjl' : decide (((a + j : Nat) : Int) < (l.length : Nat)) = true := by simp; omega
            have hnl := span_end (p := inWord) (l := l.drop a) (by simp; omega)
            rw [← hje] at hnl
            simp only [go_sem, Nat.reduceBEq, Nat.reduceLeDiff, Nat.reduceEqDiff, Nat.reduceSub, Nat.reduceAdd, Int.reduceEq, Int.reduceLT, Int.reduceLE, Int.reduceAdd, h0, h3, h4, h5, h7, h8, hg, hm, ba_size, hjl', hixj _ hjl, c_rInner, hnl, hsl j (by omega), bs1_tok, hap, ho]
            exact ih (l.length - (a + j)) (by omega) _ _ ⟨a + j, acc ++ [⟨0, (l.drop a).take j, a⟩], _, rfl, by omega, by simp; omega, hR, by simp only [go_sem, Nat.reduceBEq, Nat.reduceLeDiff, Nat.reduceEqDiff, Nat.reduceSub, Nat.reduceAdd, Int.reduceEq, Int.reduceLT, Int.reduceLE, Int.reduceAdd, h0], by simp only [go_sem, Nat.reduceBEq, Nat.reduceLeDiff, Nat.reduceEqDiff, Nat.reduceSub, Nat.reduceAdd, Int.reduceEq, Int.reduceLT, Int.reduceLE, Int.reduceAdd, h3], by simp only [go_sem, Nat.reduceBEq, Nat.reduceLeDiff, Nat.reduceEqDiff, Nat.reduceSub, Nat.reduceAdd, Int.reduceEq, Int.reduceLT, Int.reduceLE, Int.reduceAdd, List.map_append, encTok] <;> rfl,
              by simp only [go_sem, Nat.reduceBEq, Nat.reduceLeDiff, Nat.reduceEqDiff, Nat.reduceSub, Nat.reduceAdd, Int.reduceEq, Int.reduceLT, Int.reduceLE, Int.reduceAdd], by simp only [go_sem, Nat.reduceBEq, Nat.reduceLeDiff, Nat.reduceEqDiff, Nat.reduceSub, Nat.reduceAdd, Int.reduceEq, Int.reduceLT, Int.reduceLE, Int.reduceAdd, hg], by simp only [go_sem, Nat.reduceBEq, Nat.reduceLeDiff, Nat.reduceEqDiff, Nat.reduceSub, Nat.reduceAdd, Int.reduceEq, Int.reduceLT, Int.reduceLE, Int.reduceAdd, hm], by simp only [go_sem, Nat.reduceBEq, Nat.reduceLeDiff, Nat.reduceEqDiff, Nat.reduceSub, Nat.reduceAdd, Int.reduceEq, Int.reduceLT, Int.reduceLE, Int.reduceAdd]⟩
          · have hjl' : decide (((a + j : Nat) : Int) < (l.length : Nat)) = false := by simp; omega
            simp only [go_sem, Nat.reduceBEq, Nat.reduceLeDiff, Nat.reduceEqDiff, Nat.reduceSub, Nat.reduceAdd, Int.reduceEq, Int.reduceLT, Int.reduceLE, Int.reduceAdd, h0, h3, h4, h5, h7, h8, hg, hm, ba_size, hjl', hsl j (by omega), bs1_tok, hap, ho]
            exact ih (l.length - (a + j)) (by omega) _ _ ⟨a + j, acc ++ [⟨0, (l.drop a).take j, a⟩], _, rfl, by omega, by simp; omega, hR, by simp only [go_sem, Nat.reduceBEq, Nat.reduceLeDiff, Nat.reduceEqDiff, Nat.reduceSub, Nat.reduceAdd, Int.reduceEq, Int.reduceLT, Int.reduceLE, Int.reduceAdd, h0], by simp only [go_sem, Nat.reduceBEq, Nat.reduceLeDiff, Nat.reduceEqDiff, Nat.reduceSub, Nat.reduceAdd, Int.reduceEq, Int.reduceLT, Int.reduceLE, Int.reduceAdd, h3], by simp only [go_sem, Nat.reduceBEq, Nat.reduceLeDiff, Nat.reduceEqDiff, Nat.reduceSub, Nat.reduceAdd, Int.reduceEq, Int.reduceLT, Int.reduceLE, Int.reduceAdd, List.map_append, encTok] <;> rfl,
              by simp only [go_sem, Nat.reduceBEq, Nat.reduceLeDiff, Nat.reduceEqDiff, Nat.reduceSub, Nat.reduceAdd, Int.reduceEq, Int.reduceLT, Int.reduceLE, Int.reduceAdd], by simp only [go_sem, Nat.reduceBEq, Nat.reduceLeDiff, Nat.reduceEqDiff, Nat.reduceSub, Nat.reduceAdd, Int.reduceEq, Int.reduceLT, Int.reduceLE, Int.reduceAdd, hg], by simp only [go_sem, Nat.reduceBEq, Nat.reduceLeDiff, Nat.reduceEqDiff, Nat.reduceSub, Nat.reduceAdd, Int.reduceEq, Int.reduceLT, Int.reduceLE, Int.reduceAdd, hm], by simp only [go_sem, Nat.reduceBEq, Nat.reduceLeDiff, Nat.reduceEqDiff, Nat.reduceSub, Nat.reduceAdd, Int.reduceEq, Int.reduceLT, Int.reduceLE, Int.reduceAdd]⟩
      | false =>
      cases k4 : isDigit b.toNat with
      | true =>
        have c4 : cls b.toNat = 4 := (cls4_iff _).2 k4
        have hp : 0 < span isDigit (l.drop a) := by rw [dc, span_pos (cls4 c4)]; omega
        have hk := hspan isDigit
        have hnok : ¬ (span isDigit (l.drop a) ≤ 9 ∧ endsNum ((l.drop a).drop (span isDigit (l.drop a))) = true) → encLexR R = encLexR (.err a) := fun hn => by
          have hl := lexL_notnum (l := l.drop (a + 1)) (at_ := a) c4 (by rw [← dc]; exact hn)
          rw [← dc] at hl
          rw [← hR, hl]; rfl
        have hok : span isDigit (l.drop a) ≤ 9 → endsNum ((l.drop a).drop (span isDigit (l.drop a))) = true →
            LexR.pre (acc ++ [⟨1, (l.drop a).take (span isDigit (l.drop a)), a⟩]) (lexL (l.drop (a + span isDigit (l.drop a))) (a + span isDigit (l.drop a))) = R := fun hn1 hn2 => by
          have hl := lexL_num (l := l.drop (a + 1)) (at_ := a) c4 (by rw [← dc]; exact hn1) (by rw [← dc]; exact hn2)
          rw [← dc] at hl
          rw [hl, List.drop_drop, LexR.pre_pre] at hR
          exact hR
        simp only [go_sem, Nat.reduceBEq, Nat.reduceLeDiff, Nat.reduceEqDiff, Nat.reduceSub, Nat.reduceAdd, Int.reduceEq, Int.reduceLT, Int.reduceLE, Int.reduceAdd, h0, h3, h4, h5, hg, hm, ba_size, hlt', hix, c_rBlank, c_rLetter, c_rDigit, k1, d2, k3, k4, hw1]
        refine W_loop_ind (fun n e H => ∃ j : Nat, n = span isDigit (l.drop a) - j ∧ 0 < j ∧ j ≤ span isDigit (l.drop a) ∧ gget .bad e 0 = .lit (.string (ba l)) ∧ gget .bad e 3 = .ptr 1 0 ∧
            gget .bad e 4 = .sl o (acc.map encTok) ∧ gget .bad e 5 = .lit (.int .i64 (a : Nat)) ∧ gget .bad e 7 = .lit (.int .i64 (a + j : Nat)) ∧ gget .bad e 8 = .lit (.int .i64 1) ∧
            H.get 1 = some [.lit (.int .i64 0), .lit (.int .i64 0)] ∧ 2 ≤ H.next ∧ AppOk H o acc.length 38 3)
          (span isDigit (l.drop a) - 1) ⟨1, rfl, by omega, by omega, by simp only [go_sem, Nat.reduceBEq, Nat.reduceLeDiff, Nat.reduceEqDiff, Nat.reduceSub, Nat.reduceAdd, Int.reduceEq, Int.reduceLT, Int.reduceLE, Int.reduceAdd, h0], by simp only [go_sem, Nat.reduceBEq, Nat.reduceLeDiff, Nat.reduceEqDiff, Nat.reduceSub, Nat.reduceAdd, Int.reduceEq, Int.reduceLT, Int.reduceLE, Int.reduceAdd, h3], by simp only [go_sem, Nat.reduceBEq, Nat.reduceLeDiff, Nat.reduceEqDiff, Nat.reduceSub, Nat.reduceAdd, Int.reduceEq, Int.reduceLT, Int.reduceLE, Int.reduceAdd, h4], by simp only [go_sem, Nat.reduceBEq, Nat.reduceLeDiff, Nat.reduceEqDiff, Nat.reduceSub, Nat.reduceAdd, Int.reduceEq, Int.reduceLT, Int.reduceLE, Int.reduceAdd, h5], by simp only [go_sem, Nat.reduceBEq, Nat.reduceLeDiff, Nat.reduceEqDiff, Nat.reduceSub, Nat.reduceAdd, Int.reduceEq, Int.reduceLT, Int.reduceLE, Int.reduceAdd], by simp only [go_sem, Nat.reduceBEq, Nat.reduceLeDiff, Nat.reduceEqDiff, Nat.reduceSub, Nat.reduceAdd, Int.reduceEq, Int.reduceLT, Int.reduceLE, Int.reduceAdd], by simp only [go_sem, Nat.reduceBEq, Nat.reduceLeDiff, Nat.reduceEqDiff, Nat.reduceSub, Nat.reduceAdd, Int.reduceEq, Int.reduceLT, Int.reduceLE, Int.reduceAdd, hg], by simp only [go_sem, Nat.reduceBEq, Nat.reduceLeDiff, Nat.reduceEqDiff, Nat.reduceSub, Nat.reduceAdd, Int.reduceEq, Int.reduceLT, Int.reduceLE, Int.reduceAdd, hm], by simp only [go_sem, Nat.reduceBEq, Nat.reduceLeDiff, Nat.reduceEqDiff, Nat.reduceSub, Nat.reduceAdd, Int.reduceEq, Int.reduceLT, Int.reduceLE, Int.reduceAdd, ho]⟩ ?_
        rintro n ih2 e H ⟨j, rfl, hj0, hj, h0, h3, h4, h5, h7, h8, hg, hnx, ho⟩
        obtain ⟨m, hm⟩ : ∃ m, H.next = m + 2 := ⟨H.next - 2, by omega⟩
        have hws : IntKind.wrap .i64 (((a + j : Nat) : Int) - (a : Nat)) = (j : Nat) := by rw [wrap64 (by omega) (by omega)]; omega
        by_cases hjk : j < span isDigit (l.drop a)
        · have hjl : a + j < l.length := by omega
          have hjl' : decide (((a + j : Nat) : Int) < (l.length : Nat)) = true := by simp; omega
          have hnl := span_lt hjk
          have hnw := digit_word hnl
          have hwj : IntKind.wrap .i64 (((a + j : Nat) : Int) + 1) = ((a + (j + 1) : Nat) : Int) := wrap1 (by omega)
          simp only [go_sem, Nat.reduceBEq, Nat.reduceLeDiff, Nat.reduceEqDiff, Nat.reduceSub, Nat.reduceAdd, Int.reduceEq, Int.reduceLT, Int.reduceLE, Int.reduceAdd, h0, h3, h4, h5, h7, h8, hg, hm, ba_size, hjl', hixj _ hjl, c_rInner, c_rDigit, hnl, hnw, hwj]
          exact ih2 (span isDigit (l.drop a) - (j + 1)) (by omega) _ _ ⟨j + 1, rfl, by omega, by omega, by simp only [go_sem, Nat.reduceBEq, Nat.reduceLeDiff, Nat.reduceEqDiff, Nat.reduceSub, Nat.reduceAdd, Int.reduceEq, Int.reduceLT, Int.reduceLE, Int.reduceAdd, h0], by simp only [go_sem, Nat.reduceBEq, Nat.reduceLeDiff, Nat.reduceEqDiff, Nat.reduceSub, Nat.reduceAdd, Int.reduceEq, Int.reduceLT, Int.reduceLE, Int.reduceAdd, h3], by simp only [go_sem, Nat.reduceBEq, Nat.reduceLeDiff, Nat.reduceEqDiff, Nat.reduceSub, Nat.reduceAdd, Int.reduceEq, Int.reduceLT, Int.reduceLE, Int.reduceAdd, h4], by simp only [go_sem, Nat.reduceBEq, Nat.reduceLeDiff, Nat.reduceEqDiff, Nat.reduceSub, Nat.reduceAdd, Int.reduceEq, Int.reduceLT, Int.reduceLE, Int.reduceAdd, h5], by simp only [go_sem, Nat.reduceBEq, Nat.reduceLeDiff, Nat.reduceEqDiff, Nat.reduceSub, Nat.reduceAdd, Int.reduceEq, Int.reduceLT, Int.reduceLE, Int.reduceAdd], by simp only [go_sem, Nat.reduceBEq, Nat.reduceLeDiff, Nat.reduceEqDiff, Nat.reduceSub, Nat.reduceAdd, Int.reduceEq, Int.reduceLT, Int.reduceLE, Int.reduceAdd, h8], by simp only [go_sem, Nat.reduceBEq, Nat.reduceLeDiff, Nat.reduceEqDiff, Nat.reduceSub, Nat.reduceAdd, Int.reduceEq, Int.reduceLT, Int.reduceLE, Int.reduceAdd, hg], by simp only [go_sem, Nat.reduceBEq, Nat.reduceLeDiff, Nat.reduceEqDiff, Nat.reduceSub, Nat.reduceAdd, Int.reduceEq, Int.reduceLT, Int.reduceLE, Int.reduceAdd, hm], by simp only [go_sem, Nat.reduceBEq, Nat.reduceLeDiff, Nat.reduceEqDiff, Nat.reduceSub, Nat.reduceAdd, Int.reduceEq, Int.reduceLT, Int.reduceLE, Int.reduceAdd, ho]⟩
        · have hje : j = span isDigit (l.drop a) := by omega
          rw [← hje] at hok hnok
          by_cases hjl : a + j < l.length
          · have hjl' : decide (((a + j : Nat) : Int) < (l.length : Nat)) = true := by simp; omega
            have hnl := span_end (p := isDigit) (l := l.drop a) (by simp; omega)
            rw [← hje] at hnl
            have hen : endsNum ((l.drop a).drop j) = !inWord ((l.drop a).getD j 0).toNat := endsNum_drop (by simp; omega)
            cases hw : inWord ((l.drop a).getD j 0).toNat with
            | true =>
              simp only [go_sem, Nat.reduceBEq, Nat.reduceLeDiff, Nat.reduceEqDiff, Nat.reduceSub, Nat.reduceAdd, Int.reduceEq, Int.reduceLT, Int.reduceLE, Int.reduceAdd, h0, h3, h4, h5, h7, h8, hg, hm, ba_size, hjl', hixj _ hjl, c_rInner, c_rDigit, hnl, hw]
              rw [hnok (by rw [hen, hw]; simp)]; rfl
            | false =>
              by_cases h9 : j ≤ 9
              · have d9 : decide ((9 : Int) < (j : Nat)) = false := by simp; omega
                simp only [go_sem, Nat.reduceBEq, Nat.reduceLeDiff, Nat.reduceEqDiff, Nat.reduceSub, Nat.reduceAdd, Int.reduceEq, Int.reduceLT, Int.reduceLE, Int.reduceAdd, h0, h3, h4, h5, h7, h8, hg, hm, ba_size, hjl', hixj _ hjl, c_rInner, hw, hws, d9, hsl j (by omega), bs1_tok, hap, ho]
                exact ih (l.length - (a + j)) (by omega) _ _ ⟨a + j, acc ++ [⟨1, (l.drop a).take j, a⟩], _, rfl, by omega, by simp; omega, hok h9 (by rw [hen, hw]; rfl), by simp only [go_sem, Nat.reduceBEq, Nat.reduceLeDiff, Nat.reduceEqDiff, Nat.reduceSub, Nat.reduceAdd, Int.reduceEq, Int.reduceLT, Int.reduceLE, Int.reduceAdd, h0], by simp only [go_sem, Nat.reduceBEq, Nat.reduceLeDiff, Nat.reduceEqDiff, Nat.reduceSub, Nat.reduceAdd, Int.reduceEq, Int.reduceLT, Int.reduceLE, Int.reduceAdd, h3], by simp only [go_sem, Nat.reduceBEq, Nat.reduceLeDiff, Nat.reduceEqDiff, Nat.reduceSub, Nat.reduceAdd, Int.reduceEq, Int.reduceLT, Int.reduceLE, Int.reduceAdd, List.map_append, encTok] <;> rfl,
                  by simp only [go_sem, Nat.reduceBEq, Nat.reduceLeDiff, Nat.reduceEqDiff, Nat.reduceSub, Nat.reduceAdd, Int.reduceEq, Int.reduceLT, Int.reduceLE, Int.reduceAdd], by simp only [go_sem, Nat.reduceBEq, Nat.reduceLeDiff, Nat.reduceEqDiff, Nat.reduceSub, Nat.reduceAdd, Int.reduceEq, Int.reduceLT, Int.reduceLE, Int.reduceAdd, hg], by simp only [go_sem, Nat.reduceBEq, Nat.reduceLeDiff, Nat.reduceEqDiff, Nat.reduceSub, Nat.reduceAdd, Int.reduceEq, Int.reduceLT, Int.reduceLE, Int.reduceAdd, hm], by simp only [go_sem, Nat.reduceBEq, Nat.reduceLeDiff, Nat.reduceEqDiff, Nat.reduceSub, Nat.reduceAdd, Int.reduceEq, Int.reduceLT, Int.reduceLE, Int.reduceAdd]⟩
              · have d9 : decide ((9 : Int) < (j : Nat)) = true := by simp; omega
                simp only [go_sem, Nat.reduceBEq, Nat.reduceLeDiff, Nat.reduceEqDiff, Nat.reduceSub, Nat.reduceAdd, Int.reduceEq, Int.reduceLT, Int.reduceLE, Int.reduceAdd, h0, h3, h4, h5, h7, h8, hg, hm, ba_size, hjl', hixj _ hjl, c_rInner, hw, hws, d9]
                rw [hnok (fun hh => h9 hh.1)]; rfl
          · have hjl' : decide (((a + j : Nat) : Int) < (l.length : Nat)) = false := by simp; omega
            have hen : endsNum ((l.drop a).drop j) = true := by rw [List.drop_drop, List.drop_of_length_le (by omega)]; rfl
            by_cases h9 : j ≤ 9
            · have d9 : decide ((9 : Int) < (j : Nat)) = false := by simp; omega
              simp only [go_sem, Nat.reduceBEq, Nat.reduceLeDiff, Nat.reduceEqDiff, Nat.reduceSub, Nat.reduceAdd, Int.reduceEq, Int.reduceLT, Int.reduceLE, Int.reduceAdd, h0, h3, h4, h5, h7, h8, hg, hm, ba_size, hjl', hws, d9, hsl j (by omega), bs1_tok, hap, ho]
              exact ih (l.length - (a + j)) (by omega) _ _ ⟨a + j, acc ++ [⟨1, (l.drop a).take j, a⟩], _, rfl, by omega, by simp; omega, hok h9 hen, by simp only [go_sem, Nat.reduceBEq, Nat.reduceLeDiff, Nat.reduceEqDiff, Nat.reduceSub, Nat.reduceAdd, Int.reduceEq, Int.reduceLT, Int.reduceLE, Int.reduceAdd, h0], by simp only [go_sem, Nat.reduceBEq, Nat.reduceLeDiff, Nat.reduceEqDiff, Nat.reduceSub, Nat.reduceAdd, Int.reduceEq, Int.reduceLT, Int.reduceLE, Int.reduceAdd, h3], by simp only [go_sem, Nat.reduceBEq, Nat.reduceLeDiff, Nat.reduceEqDiff, Nat.reduceSub, Nat.reduceAdd, Int.reduceEq, Int.reduceLT, Int.reduceLE, Int.reduceAdd, List.map_append, encTok] <;> rfl,
                by simp only [go_sem, Nat.reduceBEq, Nat.reduceLeDiff, Nat.reduceEqDiff, Nat.reduceSub, Nat.reduceAdd, Int.reduceEq, Int.reduceLT, Int.reduceLE, Int.reduceAdd], by simp only [go_sem, Nat.reduceBEq, Nat.reduceLeDiff, Nat.reduceEqDiff, Nat.reduceSub, Nat.reduceAdd, Int.reduceEq, Int.reduceLT, Int.reduceLE, Int.reduceAdd, hg], by simp only [go_sem, Nat.reduceBEq, Nat.reduceLeDiff, Nat.reduceEqDiff, Nat.reduceSub, Nat.reduceAdd, Int.reduceEq, Int.reduceLT, Int.reduceLE, Int.reduceAdd, hm], by simp only [go_sem, Nat.reduceBEq, Nat.reduceLeDiff, Nat.reduceEqDiff, Nat.reduceSub, Nat.reduceAdd, Int.reduceEq, Int.reduceLT, Int.reduceLE, Int.reduceAdd]⟩
            · have d9 : decide ((9 : Int) < (j : Nat)) = true := by simp; omega
              simp only [go_sem, Nat.reduceBEq, Nat.reduceLeDiff, Nat.reduceEqDiff, Nat.reduceSub, Nat.reduceAdd, Int.reduceEq, Int.reduceLT, Int.reduceLE, Int.reduceAdd, h0, h3, h4, h5, h7, h8, hg, hm, ba_size, hjl', hws, d9]
              rw [hnok (fun hh => h9 hh.1)]; rfl
      | false =>
      have k5 : cls b.toNat = if isSign b.toNat then 5 else 0 := by
        have k35 : (b.toNat == 35) = false := by simp; omega
        simp [cls, k1, k35, k3, k4]
      cases k6 : isSign b.toNat with
      | true =>
        have c5 : cls b.toNat = 5 := by rw [k5, k6]; rfl
        have hl := lexL_sign (l := l.drop (a + 1)) (at_ := a) c5
        rw [← dc] at hl
        rw [hl, LexR.pre_pre] at hR
        have ht : (l.drop a).take 1 = [b] := by rw [dc]; rfl
        have hsl1 := hsl 1 (by omega)
        rw [ht] at hsl1
        simp only [go_sem, Nat.reduceBEq, Nat.reduceLeDiff, Nat.reduceEqDiff, Nat.reduceSub, Nat.reduceAdd, Int.reduceEq, Int.reduceLT, Int.reduceLE, Int.reduceAdd, h0, h3, h4, h5, hg, hm, ba_size, hlt', hix, c_rBlank, c_rLetter, c_rDigit, c_rSign, k1, d2, k3, k4, k6, hw1, hsl1, bs1_tok, hap, ho]
        exact ih (l.length - (a + 1)) (by omega) _ _ ⟨a + 1, acc ++ [⟨2, [b], a⟩], _, rfl, by omega, by simp; omega, hR, by simp only [go_sem, Nat.reduceBEq, Nat.reduceLeDiff, Nat.reduceEqDiff, Nat.reduceSub, Nat.reduceAdd, Int.reduceEq, Int.reduceLT, Int.reduceLE, Int.reduceAdd, h0], by simp only [go_sem, Nat.reduceBEq, Nat.reduceLeDiff, Nat.reduceEqDiff, Nat.reduceSub, Nat.reduceAdd, Int.reduceEq, Int.reduceLT, Int.reduceLE, Int.reduceAdd, h3],
          by simp only [go_sem, Nat.reduceBEq, Nat.reduceLeDiff, Nat.reduceEqDiff, Nat.reduceSub, Nat.reduceAdd, Int.reduceEq, Int.reduceLT, Int.reduceLE, Int.reduceAdd, List.map_append, encTok] <;> rfl, by simp only [go_sem, Nat.reduceBEq, Nat.reduceLeDiff, Nat.reduceEqDiff, Nat.reduceSub, Nat.reduceAdd, Int.reduceEq, Int.reduceLT, Int.reduceLE, Int.reduceAdd], by simp only [go_sem, Nat.reduceBEq, Nat.reduceLeDiff, Nat.reduceEqDiff, Nat.reduceSub, Nat.reduceAdd, Int.reduceEq, Int.reduceLT, Int.reduceLE, Int.reduceAdd, hg], by simp only [go_sem, Nat.reduceBEq, Nat.reduceLeDiff, Nat.reduceEqDiff, Nat.reduceSub, Nat.reduceAdd, Int.reduceEq, Int.reduceLT, Int.reduceLE, Int.reduceAdd, hm], by simp only [go_sem, Nat.reduceBEq, Nat.reduceLeDiff, Nat.reduceEqDiff, Nat.reduceSub, Nat.reduceAdd, Int.reduceEq, Int.reduceLT, Int.reduceLE, Int.reduceAdd]⟩
      | false =>
        have c6 : cls b.toNat = 0 := by rw [k5, k6]; rfl
        have hl := lexL_other (l := l.drop (a + 1)) (at_ := a) c6
        rw [← dc] at hl
        rw [hl] at hR
        simp only [go_sem, Nat.reduceBEq, Nat.reduceLeDiff, Nat.reduceEqDiff, Nat.reduceSub, Nat.reduceAdd, Int.reduceEq, Int.reduceLT, Int.reduceLE, Int.reduceAdd, h0, h3, h4, h5, hg, hm, ba_size, hlt', hix, c_rBlank, c_rLetter, c_rDigit, c_rSign, k1, d2, k3, k4, k6, hw1]
        rw [← hR]; rfl
    · have hlt' : decide ((a : Int) < (l.length : Nat)) = false := by simp; omega
      rw [List.drop_of_length_le (by omega), lexL_nil] at hR
      simp only [go_sem, Nat.reduceBEq, Nat.reduceLeDiff, Nat.reduceEqDiff, Nat.reduceSub, Nat.reduceAdd, Int.reduceEq, Int.reduceLT, Int.reduceLE, Int.reduceAdd, h0, h3, h4, h5, hg, hm, ba_size, hlt']
      rw [← hR]
      simp [LexR.pre, encLexR, encLex, encFault]
end Go.Proofs.YtghhkbigmmjanaaDoor.VA

/-! La7 -/
namespace Go.Proofs.YtghhkbigmmjanaaDoor.VA
open Go Go.RowKit
set_option linter.unusedSimpArgs false
set_option maxRecDepth 100000

theorem eg_tok : Tryd.prog.eqGuardType Tryd.prog.depth 38 = false := by kernel_rfl
theorem sh_tok : Tryd.prog.stoodInHeld 38 = false := by kernel_rfl
theorem eg_fault : Tryd.prog.eqGuardType Tryd.prog.depth 28 = false := by kernel_rfl
theorem sh_fault : Tryd.prog.stoodInHeld 28 = false := by kernel_rfl
@[go_sem] theorem und_errno : Tryd.prog.underlying 26 = some (.int .i64) := by kernel_rfl
@[go_sem] theorem sz_errno : tSize Tryd.prog 26 = some 1 := by kernel_rfl
@[go_sem] theorem ag_errno : tAgg Tryd.prog 26 = some false := by kernel_rfl
theorem eq_tok (k k' a a' : Int) (t t' : ByteArray) : aEq Tryd.prog 8 38 (.agg [.lit (.int .i64 k), .lit (.string t), .lit (.int .i64 a)]) (.agg [.lit (.int .i64 k'), .lit (.string t'), .lit (.int .i64 a')]) =
    some (decide (k = k') && (decide (t = t') && decide (a = a'))) := by
  simp only [aEq, Tryd.underlying38, sh_tok, if_true, aEqs, go_sem]
  by_cases h1 : k = k' <;> by_cases h2 : t = t' <;> by_cases h3 : a = a' <;> simp [h1, h2, h3, aEqs, aEq, go_sem, strEq_decide]
theorem eq_fault (k k' a a' : Int) : aEq Tryd.prog 8 28 (.agg [.lit (.int .i64 k), .lit (.int .i64 a)]) (.agg [.lit (.int .i64 k'), .lit (.int .i64 a')]) =
    some (decide (k = k') && decide (a = a')) := by
  simp only [aEq, Tryd.underlying28, sh_fault, if_true, aEqs, go_sem]
  by_cases h1 : k = k' <;> by_cases h3 : a = a' <;> simp [h1, h3, aEqs, aEq, go_sem]
@[go_sem] theorem bin_netok (k k' a a' : Int) (t t' : ByteArray) : aBin Tryd.prog .neq 38 (.agg [.lit (.int .i64 k), .lit (.string t), .lit (.int .i64 a)]) (.agg [.lit (.int .i64 k'), .lit (.string t'), .lit (.int .i64 a')]) =
    some (.lit (.bool (!(decide (k = k') && (decide (t = t') && decide (a = a')))))) := by
  simp only [aBin, eg_tok, if_true, eq_tok]
@[go_sem] theorem bin_eqfault (k k' a a' : Int) : aBin Tryd.prog .eql 28 (.agg [.lit (.int .i64 k), .lit (.int .i64 a)]) (.agg [.lit (.int .i64 k'), .lit (.int .i64 a')]) =
    some (.lit (.bool (decide (k = k') && decide (a = a')))) := by
  simp only [aBin, eg_fault, if_true, eq_fault]
end Go.Proofs.YtghhkbigmmjanaaDoor.VA
