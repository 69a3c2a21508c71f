/- What is proved: a function's call in the abstract interpreter (VA), by its body. No condition. -/
import Derived.Test.YtiiaajajhkdemaaVc2
namespace Go.Proofs.Ytiiaajajhkdemaa.VA
open Go Go.RowKit
set_option linter.unusedSimpArgs false

/-- A function's end, with what it answers. -/
def RetQ (P : Program) (rs : List ResultVar) (v : AV) : Post := fun x e H =>
  match x with
  | .nrm | .ret => (aResults P e H rs).map (fun vs => san (oneOr vs)) = some v
  | _ => False
def RetHQ (P : Program) (rs : List ResultVar) (R : AV → Heap → Prop) : Post := fun x e H =>
  match x with
  | .nrm | .ret => ∃ vs, aResults P e H rs = some vs ∧ R (san (oneOr vs)) H
  | _ => False
section
variable {P : Program} {c : Cfg} {rs : List ResultVar} {v : AV} {e : List AV} {H : Heap} {R : AV → Heap → Prop}
@[go_sem] theorem RetQ_nrm : RetQ P rs v .nrm e H = ((aResults P e H rs).map (fun vs => san (oneOr vs)) = some v) := rfl
@[go_sem] theorem RetQ_ret : RetQ P rs v .ret e H = ((aResults P e H rs).map (fun vs => san (oneOr vs)) = some v) := rfl
@[go_sem] theorem RetHQ_nrm : RetHQ P rs R .nrm e H = (∃ vs, aResults P e H rs = some vs ∧ R (san (oneOr vs)) H) := rfl
@[go_sem] theorem RetHQ_ret : RetHQ P rs R .ret e H = (∃ vs, aResults P e H rs = some vs ∧ R (san (oneOr vs)) H) := rfl
@[go_sem] theorem res_nil : aResults P e H [] = some [] := rfl
def resK (x : Option AV) (r : Option (List AV)) : Option (List AV) :=
  match x, r with
  | some v, some vs => some (v :: vs)
  | _, _ => none
@[go_sem] theorem res_tmp (t : Tmp) : aResults P e H (.tmp t :: rs) = resK (some (gget .bad e t)) (aResults P e H rs) := rfl
@[go_sem] theorem res_cell (a : Tmp) (t : TypeId) : aResults P e H (.cell a t :: rs) = resK ((aLoad P t (gget .bad e a) H).map (·.1)) (aResults P e H rs) := rfl
@[go_sem] theorem resK_some (x : AV) (xs : List AV) : resK (some x) (some xs) = some (x :: xs) := rfl
@[go_sem] theorem oneOr_one (x : AV) : oneOr [x] = x := rfl
@[go_sem] theorem oneOr_nil : oneOr [] = .tup [] := rfl
@[go_sem] theorem oneOr_two (x y : AV) (l : List AV) : oneOr (x :: y :: l) = .tup (x :: y :: l) := rfl
@[go_sem] theorem san_lit (u : Value) : san (.lit u) = .lit u := by simp only [san]
@[go_sem] theorem san_sl (o : Own) (es : List (List AV)) : san (.sl o es) = .sl .sh (sanLL es) := by simp only [san]
@[go_sem] theorem san_fn (f : FuncId) (cs : List AV) : san (.fn f cs) = .fn f (sanL cs) := by simp only [san]
@[go_sem] theorem san_ifc (t : TypeId) (v : AV) : san (.ifc t v) = .ifc t (san v) := by simp only [san]
@[go_sem] theorem san_agg (cs : List AV) : san (.agg cs) = .agg (sanL cs) := by simp only [san]
@[go_sem] theorem san_tup (cs : List AV) : san (.tup cs) = .tup (sanL cs) := by simp only [san]
@[go_sem] theorem sanL_nil : sanL [] = [] := rfl
@[go_sem] theorem sanL_cons (x : AV) (l : List AV) : sanL (x :: l) = san x :: sanL l := rfl
@[go_sem] theorem sanLL_nil : sanLL [] = [] := rfl
@[go_sem] theorem sanLL_cons (x : List AV) (l : List (List AV)) : sanLL (x :: l) = sanL x :: sanLL l := rfl
theorem sanLL_app (a b : List (List AV)) : sanLL (a ++ b) = sanLL a ++ sanLL b := by simp [sanLL_map]
/-- A list of elements that say nothing of memory. -/
theorem sanLL_of {α : Type} (f : α → List AV) (h : ∀ x, sanL (f x) = f x) (l : List α) : sanLL (l.map f) = l.map f := by
  rw [sanLL_map]; simp [h, Function.comp_def]
theorem runFn_of_XS {fn : Func} {code : Code} (hb : fn.body = some code) {args : List AV} (hn : args.length ≤ fn.ntmps) {x : Ex} {e1 : List AV} {H1 : Heap}
    (h : XS P c code args H x e1 H1) (hx : x = .nrm ∨ x = .ret) {vs : List AV} (hv : aResults P e1 H1 fn.results.toList = some vs) : ∃ k, runFn P (call P c k) c.imp k fn args H = some (.ret (san (oneOr vs)) H1) := by
  obtain ⟨k, hk⟩ := h.exec
  obtain ⟨n, hn'⟩ := exec_fuel _ _ _ _ _ hk
  have h2 : exec P (call P c (max k n)) c.imp k code args H = some (x, e1, H1) := exec_mono (call_le (Nat.le_max_right k n)) _ _ _ _ _ hn' _ (Nat.le_refl _)
  have h3 := exec_mono (KLe.refl _) _ _ _ _ _ h2 (max k n) (Nat.le_max_left k n)
  refine ⟨max k n, ?_⟩
  unfold runFn
  rcases hx with rfl | rfl <;> simp only [hb, hn, if_true, h3, hv]
/-- A function that leaves its caller's memory alone. -/
theorem calls_pure {f : FuncId} {fn : Func} {code : Code} {args : List AV} (ht : c.told f = none) (hf : c.fn f = some fn) (hi : c.imp f = false) (hb : fn.body = some code) (hn : Nat.ble args.length fn.ntmps = true)
    (h : W P c code [] (sanL args) Heap.empty (RetQ P fn.results.toList v)) (H : Heap) : calls P c f args H = some (.ret v H) := by
  obtain ⟨x, e1, H1, hx, hq⟩ := h
  rw [Fin_nil] at hq
  have hq' : (x = .nrm ∨ x = .ret) ∧ (aResults P e1 H1 fn.results.toList).map (fun vs => san (oneOr vs)) = some v := by
    cases x <;> first | exact ⟨.inl rfl, hq⟩ | exact ⟨.inr rfl, hq⟩ | exact hq.elim
  cases hv : aResults P e1 H1 fn.results.toList with
  | none => simp [hv] at hq'
  | some vs =>
    have hvv : san (oneOr vs) = v := by have := hq'.2; rw [hv] at this; simpa using this
    obtain ⟨k, hk⟩ := runFn_of_XS hb (by rw [length_sanL]; exact Nat.le_of_ble_eq_true hn) hx hq'.1 hv
    refine calls_iff.2 ⟨k + 1, ?_⟩
    simp only [call, ht, hf, hi, hk, hvv]
/-- A function that may write to its caller's memory. -/
theorem calls_imp {f : FuncId} {fn : Func} {code : Code} {args : List AV} (ht : c.told f = none) (hf : c.fn f = some fn) (hi : c.imp f = true) (hb : fn.body = some code) (hn : Nat.ble args.length fn.ntmps = true)
    (h : W P c code [] args H (RetHQ P fn.results.toList R)) : ∃ v H', calls P c f args H = some (.ret v H') ∧ R v H' := by
  obtain ⟨x, e1, H1, hx, hq⟩ := h
  rw [Fin_nil] at hq
  have hq' : (x = .nrm ∨ x = .ret) ∧ ∃ vs, aResults P e1 H1 fn.results.toList = some vs ∧ R (san (oneOr vs)) H1 := by
    cases x <;> first | exact ⟨.inl rfl, hq⟩ | exact ⟨.inr rfl, hq⟩ | exact hq.elim
  obtain ⟨hx2, vs, hv, hr⟩ := hq'
  obtain ⟨k, hk⟩ := runFn_of_XS hb (Nat.le_of_ble_eq_true hn) hx hx2 hv
  refine ⟨_, _, calls_iff.2 ⟨k + 1, ?_⟩, hr⟩
  simp only [call, ht, hf, hi, hk]
/-- A function that is told outright. -/
theorem calls_told {f : FuncId} {args : List AV} {h : List AV → Option AV} (ht : c.told f = some h) (hv : h (sanL args) = some v) (H : Heap) : calls P c f args H = some (.ret v H) :=
  calls_iff.2 ⟨1, by simp only [call, ht, hv]⟩
/-- Appending in place or to nothing. -/
def OwnOk (H : Heap) (o : Own) (e : TypeId) (sz : Nat) : Prop :=
  match o with
  | .nil => True
  | .own s e' z => e' = e ∧ z = sz ∧ H.isLive s = true
  | _ => False
theorem append_ok {t : TypeId} {e : TypeId} {sz bs : Nat} {o o' : Own} {es xs : List (List AV)} {x : List AV} {id : Nat} (ht : tElem P t = some (e, sz, bs)) (ho : OwnOk H o e sz) (hx : x.length = sz) (hs : (sz == 0) = false)
    (hz : zeroOk P e sz = true) (hb : (es.length + (xs.length + 1)) * bs ≤ 140737488355328) (hl : es.length + (xs.length + 1) ≤ 140737488355328) :
    ∃ us rs, aAppend P t (.sl o es) (.sl o' (x :: xs)) H id = some (.sl (.own id e sz) (es ++ sanLL (x :: xs)), us, rs) ∧ OwnOk (appU H us) (.own id e sz) e sz ∧ (appU H us).next = H.next := by
  have hs' : 0 < sz := by have : sz ≠ 0 := by simpa using hs
                          omega
  cases o with
  | nil =>
    refine ⟨[.live id true], [], ?_, ?_, ?_⟩
    · simp only [aAppend, ht]; rw [if_pos ⟨hx, hs', hz, hb, hl⟩]
    · simp [OwnOk, appU, U.app]
    · simp [appU, U.app]
  | own k e' z =>
    obtain ⟨rfl, rfl, h3⟩ := ho
    refine ⟨[.live k false, .live id true], [k], ?_, ?_, ?_⟩
    · simp only [aAppend, ht]; rw [if_pos ⟨hx, hs', hz, hb, hl⟩, if_pos (by simp [h3])]
    · simp [OwnOk, appU, U.app]
    · simp [appU, U.app]
  | sh => exact ho.elim
  | ex => exact ho.elim
end
end Go.Proofs.Ytiiaajajhkdemaa.VA
