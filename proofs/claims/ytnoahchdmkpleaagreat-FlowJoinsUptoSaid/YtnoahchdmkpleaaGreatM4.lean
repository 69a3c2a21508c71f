/- What is proved: from an answer of the abstract interpreter (VA) to the call itself, in a world of which what is there is left alone. No condition.
What is proved: a call that may panic, in the abstract interpreter (VA), by its body. No condition.
What is proved: regions that draw their order, panics and all, in the abstract interpreter (VA), as equations to rewrite with. No condition.
What is proved: a function that one table of the abstract interpreter (VA) answers for may be told in another table; a call that leaves its caller's memory alone adds blocks, no more. No condition but that the tables are the program's.
What is proved: rules for arrays that are written in place, in the abstract interpreter (VA). No condition.
What is proved: facts on this program's types. No condition.
What is proved: slices.SortFunc at []api.Atom, laid off the kit's shelf at this program. No condition. This text was written by the kit's lay-plain tool, its numbers turned into marks.
What is proved: atoms.Compare, in the abstract interpreter (VA), and in whatever world: it draws and lays blocks, no more. No condition.
What is proved: what copy, append of zeros, and the question whether two slices overlap come to at rows of cells. No condition.
What is proved: what slices.Insert of one element does to an array of the abstract interpreter (VA), out of what it does to rows of cells. Its condition: what it does to rows.
What is proved: what slices.SortFunc(l, atoms.Compare) does to an array of the abstract interpreter (VA). No condition.
What is proved: slices.Clone at []api.Atom, walked at this program; so what it does in the abstract interpreter (VA), told as a list and as an array. Conditions: the list's length.
What is proved: atoms.right and slices.DeleteFunc at []api.Atom, in the abstract interpreter (VA). Condition: no longer a list than a machine holds.
What is proved: slices.DeleteFunc at []api.Atom, in the abstract interpreter (VA). Condition: no longer a list than a machine holds.
What is proved: slices.Compact at []api.Atom, in the abstract interpreter (VA). Condition: no longer a list than a machine holds.
What is proved: atoms.Norm, in the abstract interpreter (VA). Condition: no longer a list than a machine holds. -/
import Derived.Test.YtnoahchdmkpleaaGreatM3
import Derived.Sort.Grow
import Derived.Test.YtnoahchdmkpleaaGreatProg
import Derived.Shelf.SlSortCmp.NoneTotal
import Derived.Shelf.SlGeneric
import Derived.Lib.Small
import Derived.Lib.AppendZerosOnto
import Derived.Lib.Overlaps
import Derived.Lib.Walk
import Derived.Lib.SliceRun
import Derived.Laws.Externs
import Derived.Laws.CopyRow
import Derived.Deep.RegionLaw
import Derived.Deep.WholeRow
import Derived.WalkKit
import Derived.BigCall
import Derived.BigGuard
import Derived.Shelf.Abstract
/-! Vd1 -/
namespace Go.Proofs.YtnoahchdmkpleaaGreat.VA
open Go Go.RowKit
set_option linter.unusedSimpArgs false

/-- All that lies in a world may be read. -/
def cellsIn (w : World) (b : Nat) : Nat :=
 match w.heap[b]? with
 | some (.cells vs _ _) => vs.size
 | _ => 0
def ghostC (C : Cond) (w : World) : Gh := { lo := w.heap.size, vis := cellsIn w, box := fun _ => none, own := fun _ => none, cond := C }
def ghost (w : World) : Gh := ghostC Cond.none w
theorem Rel.ghostC {g : Gh} {w : World} {x : AV} {v : Value} (h : Rel g w x v) (C : Cond) : g = ghost w → Rel (ghostC C w) w x v := by
 rintro rfl
 induction h with
 | bad v => exact .bad v
 | lit v => exact .lit v
 | nil => exact .nil
 | sl o es a n cap sz f ho hn hcap hex hown hsz h1 ha hr ih => exact .sl o es a n cap sz f ho hn hcap hex hown hsz h1 ha ih
 | ptr r off b h => exact .ptr r off b h
 | ep cs b off f hv hc hr ih => exact .ep cs b off f hv hc ih
 | fn fid caps vs hl hr ih => exact .fn fid caps vs hl ih
 | bf fid bs vs hl hr ih => exact .bf fid bs vs hl ih
 | ifc t x v h ih => exact .ifc t x v ih
 | mp r b h => exact .mp r b h
 | ar r lo n sz b cap m off c e h ho hn hc hoff => exact .ar r lo n sz b cap m off c e h ho hn hc hoff
 | agg cs vs hl hr ih => exact .agg cs vs hl ih
 | tup cs vs hl hr ih => exact .tup cs vs hl ih
theorem ghost_inv (C : Cond) (w : World) (h : C.holds w.heap.size w) : Inv (ghostC C w) Heap.empty w := by
 constructor
 ·exact Nat.le_refl _
 ·intro b hb
  show cellsIn w b = 0
  unfold cellsIn
  rw [Array.getElem?_eq_none hb]
 ·intro r b h; cases h
 ·intro r b _ h; cases h
 ·intro r r' b _ _ h; cases h
 ·intro r cs b h; simp at h
 ·intro s h; simp at h
 ·intro s s' b x y h; simp at h
 ·intro r ks vs h; simp at h
 ·intro r b n cap e sz h; simp at h
 ·exact h
theorem law_calls {P : Program} {C : Cond} {c : Cfg} (hc : CfgOk P C c) {f : FuncId} {args : List AV} {v : Value} {vs : Array Value} {w : World} (hC : C.holds w.heap.size w) (h : calls P c f args Heap.empty = some (.ret (.lit v) Heap.empty)) (hr : RelL (ghost w) w args vs.toList) :
  Calls P f vs w fun e w' => e = .returned v ∧ Below w.heap.size w w' := by
 obtain ⟨k, hk⟩ := calls_iff.1 h
 refine ((call_ok hc k).calls f args Heap.empty _ hk (ghostC C w) w vs rfl (ghost_inv C w hC) (fun r _ => ⟨rfl, rfl⟩) ⟨hr.1, fun i x v hx hv => (hr.2 i x v hx hv).ghostC C rfl⟩).2.mono ?_
 rintro e w' ⟨u, g', rfl, hp, hrel⟩
 have := hrel.lit_inv
 subst this
 exact ⟨rfl, hp.ext.os, hp.ext.tape, hp.ext.output.1, hp.ext.size, fun b hb => hp.ext.low b hb⟩
end Go.Proofs.YtnoahchdmkpleaaGreat.VA

/-! Vc5 -/
namespace Go.Proofs.YtnoahchdmkpleaaGreat.VA
open Go Go.RowKit
set_option linter.unusedSimpArgs false

/-- A function's end: what it answers, or what it panics with. -/
def EndQ (P : Program) (rs : List ResultVar) (R : AV → Heap → Prop) (Rp : AV → Heap → Prop) : Post := fun x e H =>
 match x with
 | .nrm | .ret => ∃ vs, aResults P e H rs = some vs ∧ R (san (oneOr vs)) H
 | .pan v => Rp (san v) H
 | .exit _ => False
section
variable {P : Program} {c : Cfg} {rs : List ResultVar} {e : List AV} {H : Heap} {R Rp : AV → Heap → Prop}
@[go_sem] theorem EndQ_nrm : EndQ P rs R Rp .nrm e H = (∃ vs, aResults P e H rs = some vs ∧ R (san (oneOr vs)) H) := rfl
@[go_sem] theorem EndQ_ret : EndQ P rs R Rp .ret e H = (∃ vs, aResults P e H rs = some vs ∧ R (san (oneOr vs)) H) := rfl
@[go_sem] theorem EndQ_pan {v : AV} : EndQ P rs R Rp (.pan v) e H = Rp (san v) H := rfl
theorem runFn_of_pan {fn : Func} {code : Code} (hb : fn.body = some code) {args : List AV} (hn : args.length ≤ fn.ntmps) {v : AV} {e1 : List AV} {H1 : Heap}
  (h : XS P c code args H (.pan v) e1 H1) : ∃ k, runFn P (call P c k) c.imp k fn args H = some (.pan (san v) H1) := by
 obtain ⟨k, hk⟩ := h.exec
 obtain ⟨n, hn'⟩ := exec_fuel _ _ _ _ _ hk
 have h2 : exec P (call P c (max k n)) c.imp k code args H = some (.pan v, e1, H1) := exec_mono (call_le (Nat.le_max_right k n)) _ _ _ _ _ hn' _ (Nat.le_refl _)
 have h3 := exec_mono (KLe.refl _) _ _ _ _ _ h2 (max k n) (Nat.le_max_left k n)
 refine ⟨max k n, ?_⟩
 unfold runFn
 simp only [hb, hn, if_true, h3]
/-- A function that may write to its caller's memory, and may panic. -/
theorem calls_end {f : FuncId} {fn : Func} {code : Code} {args : List AV} (ht : c.told f = none) (hf : c.fn f = some fn) (hi : c.imp f = true) (hb : fn.body = some code) (hn : Nat.ble args.length fn.ntmps = true)
  (h : W P c code [] args H (EndQ P fn.results.toList R Rp)) (htr : c.trim f = none := by rfl) (hto : c.tolH f = none := by rfl) (ha : c.arr f = false := by rfl) : (∃ v H', calls P c f args H = some (.ret v H') ∧ R v H') ∨ ∃ v H', calls P c f args H = some (.pan v H') ∧ Rp v H' := by
 obtain ⟨x, e1, H1, hx, hq⟩ := h
 rw [Fin_nil] at hq
 have hth : c.th f = none := by simp only [Cfg.th, hi, hto]
 have hn' := Nat.le_of_ble_eq_true hn
 have good : (x = .nrm ∨ x = .ret) → (∃ vs, aResults P e1 H1 fn.results.toList = some vs ∧ R (san (oneOr vs)) H1) → (∃ v H', calls P c f args H = some (.ret v H') ∧ R v H') := by
  rintro hx2 ⟨vs, hv, hr⟩
  obtain ⟨k, hk⟩ := runFn_of_XS hb hn' hx hx2 hv san
  exact ⟨_, _, calls_iff.2 ⟨k + 1, by simp only [call, ht, hth, hf, hi, ha, hk, htr, trimK]⟩, hr⟩
 cases x with
 | nrm => exact .inl (good (.inl rfl) hq)
 | ret => exact .inl (good (.inr rfl) hq)
 | exit j => exact hq.elim
 | pan v =>
  obtain ⟨k, hk⟩ := runFn_of_pan hb hn' hx
  exact .inr ⟨_, _, calls_iff.2 ⟨k + 1, by simp only [call, ht, hth, hf, hi, ha, hk, htr, trimK]⟩, hq⟩
end
end Go.Proofs.YtnoahchdmkpleaaGreat.VA

/-! Vc6 -/
namespace Go.Proofs.YtnoahchdmkpleaaGreat.VA
open Go Go.RowKit
set_option linter.unusedSimpArgs false

/-- Which operations wait for which one. -/
def deads (ops : Array Oper) : List (List Nat) := (List.range ops.size).map fun k => (List.range ops.size).filter fun i => anc ops k i
theorem gget_map_range (f : Nat → List Nat) (n k : Nat) (h : k < n) : gget [] ((List.range n).map f) k = f k := by
 have h1 : ∀ (l : List (List Nat)) (i : Nat), gget [] l i = (l[i]?).getD [] := by
  intro l
  induction l with
  | nil => intro i; simp [gget]
  | cons x l ih => intro i; cases i with | zero => rfl | succ i => simpa [gget] using ih i
 rw [h1, List.getElem?_map, List.getElem?_range h]
 rfl
theorem deads_anc {ops : Array Oper} {k i : Nat} (hk : k < ops.size) (hi : i < ops.size) : (gget [] (deads ops) k).contains i = anc ops k i := by
 rw [deads, gget_map_range _ _ _ hk, Bool.eq_iff_iff]
 simp [hi]
def memN : List Nat → Nat → Bool
 | [], _ => false
 | a :: l, i => match a == i with | true => true | false => memN l i
@[go_sem] theorem memN_nil (i : Nat) : memN [] i = false := rfl
@[go_sem] theorem memN_cons (a i : Nat) (l : List Nat) : memN (a :: l) i = if a = i then true else memN l i := by
 by_cases h : a = i
 ·subst h; simp [memN]
 ·have h1 : (a == i) = false := by simp [h]
  simp [memN, h1, h]
theorem memN_contains : ∀ (l : List Nat) (i : Nat), memN l i = l.contains i
 | [], i => rfl
 | a :: l, i => by
  simp only [memN, List.contains_cons, memN_contains l i]
  by_cases h : a = i
  ·subst h; simp
  ·have h1 : (a == i) = false := by simp [h]
   have h2 : (i == a) = false := by simp; exact fun h' => h h'.symm
   simp [h1, h2]

/-- One step behind a panic. -/
noncomputable def qStep (P : Program) (c : Cfg) (r : Option Sr) (H : Heap) : Option (Tr × AV) :=
 match r with
 | some (.val v [] rs) => some (.val v [] rs, v)
 | some (.call f args) =>
  match c.imp f with
  | true => none
  | false =>
   match calls P c f args H with
   | some (.ret v _) => some (.val v [] [], v)
   | _ => none
 | _ => none
/-- One step ahead of a panic. -/
noncomputable def eStep (P : Program) (c : Cfg) (r : Option Sr) (H : Heap) : Option ((Tr × AV × Heap) ⊕ (AV × Heap)) :=
 match r with
 | some (.val v us rs) => some (.inl (.val v us rs, v, appU H us))
 | some (.pan v) => some (.inr (v, H))
 | some (.call f args) =>
  match c.imp f with
  | true =>
   match calls P c f args H with
   | some (.ret v H') => some (.inl (.call v H H', v, H'))
   | some (.pan v H') => some (.inr (v, H'))
   | none => none
  | false =>
   match calls P c f args H with
   | some (.ret v _) => some (.inl (.val v [] [], v, H))
   | _ => none
 | none => none
/-- What is left of a region behind a panic. -/
def WX (P : Program) (c : Cfg) (un : List (Nat × Nat)) (ds : List (Option Tmp)) (dl : List Nat) (base : Nat) (st : List Fr) (pv : AV) (pH : Heap) (Q : Post) : List Oper → Nat → List Tr → List AV → Heap → Prop
 | [], _, tr, e, _ => AllOk un tr ∧ Fin P c st (.pan pv) e pH Q
 | o :: os, i, tr, e, H =>
  match memN dl i with
  | true => WX P c un ds dl base st pv pH Q os (i + 1) (tr ++ [.dead]) e H
  | false =>
   match gword ds e o.guard with
   | none => False
   | some false => WX P c un ds dl base st pv pH Q os (i + 1) (tr ++ [.val (.tup []) [] []]) (aput e o.dst (.tup [])) H
   | some true =>
    match qStep P c (astep P (aeval e) H (base + i) o.op) H with
    | none => False
    | some (t, v) => WX P c un ds dl base st pv pH Q os (i + 1) (tr ++ [t]) (aput e o.dst v) H
/-- A region. -/
def WE (P : Program) (c : Cfg) (un : List (Nat × Nat)) (ds : List (Option Tmp)) (dd : List (List Nat)) (base : Nat) (st : List Fr) (Q : Post) : List Oper → Nat → List Tr → List AV → Heap → Prop
 | [], _, tr, e, H => AllOk un tr ∧ Fin P c st .nrm e H Q
 | o :: os, i, tr, e, H =>
  match gword ds e o.guard with
  | none => False
  | some false => WE P c un ds dd base st Q os (i + 1) (tr ++ [.val (.tup []) [] []]) (aput e o.dst (.tup [])) H
  | some true =>
   match eStep P c (astep P (aeval e) H (base + i) o.op) H with
   | none => False
   | some (.inl (t, v, H')) => WE P c un ds dd base st Q os (i + 1) (tr ++ [t]) (aput e o.dst v) H'
   | some (.inr (pv, pH)) => WX P c un ds (gget [] dd i) base st pv pH Q os (i + 1) (tr ++ [.pan]) e H
section
variable {P : Program} {c : Cfg} {un : List (Nat × Nat)} {base : Nat} {st : List Fr} {Q : Post}
theorem WX_run (hno : c.imp hoF = false) {ops : Array Oper} {k : Nat} {pv : AV} {pH : Heap} (hk : k < ops.size) : ∀ (os : List Oper) (i : Nat) (tr : List Tr) (e : List AV) (H : Heap), i + os.length = ops.size →
  WX P c un (dsts ops) (gget [] (deads ops) k) base st pv pH Q os i tr e H →
  ∃ tr' e1 H1, runTr P (calls P c) c.imp ops base os i (some (k, pv, pH)) e H = some (tr', some (k, pv, pH), e1, H1) ∧ AllOk un (tr ++ tr') ∧ Fin P c st (.pan pv) e1 pH Q := by
 intro os
 induction os with
 | nil => intro i tr e H hi h; exact ⟨[], e, H, rfl, by rw [List.append_nil]; exact h.1, h.2⟩
 | cons o os ih =>
  intro i tr e H hi h
  simp only [List.length_cons] at hi
  have hd : memN (gget [] (deads ops) k) i = anc ops k i := by rw [memN_contains, deads_anc hk (by omega)]
  simp only [WX, hd] at h
  have next : ∀ {e : List AV} {t0 : Tr}, WX P c un (dsts ops) (gget [] (deads ops) k) base st pv pH Q os (i + 1) (tr ++ [t0]) e H →
    ∃ tr' e1 H1, (match runTr P (calls P c) c.imp ops base os (i + 1) (some (k, pv, pH)) e H with | some (tr, r) => some (t0 :: tr, r) | none => none) = some (tr', some (k, pv, pH), e1, H1) ∧ AllOk un (tr ++ tr') ∧ Fin P c st (.pan pv) e1 pH Q := by
   intro e t0 h
   obtain ⟨tr', e1, H1, h1, h2, h3⟩ := ih _ _ _ _ (by omega) h
   rw [h1]
   exact ⟨_, _, _, rfl, by simpa using h2, h3⟩
  simp only [runTr, hno, astepD]
  by_cases hb : behind ops (some (k, pv, pH)) i = true
  ·have hb' : anc ops k i = true := hb
   rw [hb'] at h
   rw [if_pos hb]
   exact next h
  ·rw [if_neg hb, aWanted_gword]
   have hb' : anc ops k i = false := by rw [Bool.not_eq_true] at hb; exact hb
   rw [hb'] at h
   simp only at h
   split at h
   ·exact h.elim
   ·rename_i hw
    rw [hw]
    exact next h
   ·rename_i hw
    rw [hw]
    simp only
    cases hs : astep P (aeval e) H (base + i) o.op with
    | none => simp [hs, qStep] at h
    | some sr =>
     rw [hs] at h
     cases sr with
     | val v us rs =>
      cases us with
      | nil =>
       simp only [qStep] at h
       simp only [List.isEmpty_nil, Bool.true_eq_false, and_false, if_false, appU]
       exact next h
      | cons u us => simp [qStep] at h
     | pan v => simp [qStep] at h
     | call f args =>
      simp only [qStep] at h
      cases hi : c.imp f with
      | true => simp [hi] at h
      | false =>
       simp only [hi] at h
       simp only [hi, Bool.false_eq_true, if_false]
       cases hc : calls P c f args H with
       | none => simp [hc] at h
       | some cr =>
        cases cr with
        | pan v H' => simp [hc] at h
        | ret v H' =>
         simp only [hc] at h
         simp only
         exact next h
/-- What a region comes to. -/
def FinP (P : Program) (c : Cfg) (pk : Option (Nat × AV × Heap)) (st : List Fr) (e : List AV) (H : Heap) (Q : Post) : Prop :=
 match pk with
 | none => Fin P c st .nrm e H Q
 | some (_, v, H2) => Fin P c st (.pan v) e H2 Q
theorem WE_run (hno : c.imp hoF = false) {ops : Array Oper} : ∀ (os : List Oper) (i : Nat) (tr : List Tr) (e : List AV) (H : Heap), i + os.length = ops.size →
  WE P c un (dsts ops) (deads ops) base st Q os i tr e H →
  ∃ tr' pk e1 H1, runTr P (calls P c) c.imp ops base os i none e H = some (tr', pk, e1, H1) ∧ AllOk un (tr ++ tr') ∧ FinP P c pk st e1 H1 Q := by
 intro os
 induction os with
 | nil => intro i tr e H hi h; exact ⟨[], none, e, H, rfl, by rw [List.append_nil]; exact h.1, h.2⟩
 | cons o os ih =>
  intro i tr e H hi h
  simp only [List.length_cons] at hi
  simp only [WE] at h
  have next : ∀ {e : List AV} {H : Heap} {t0 : Tr}, WE P c un (dsts ops) (deads ops) base st Q os (i + 1) (tr ++ [t0]) e H →
    ∃ tr' pk e1 H1, (match runTr P (calls P c) c.imp ops base os (i + 1) none e H with | some (tr, r) => some (t0 :: tr, r) | none => none) = some (tr', pk, e1, H1) ∧ AllOk un (tr ++ tr') ∧ FinP P c pk st e1 H1 Q := by
   intro e H t0 h
   obtain ⟨tr', pk, e1, H1, h1, h2, h3⟩ := ih _ _ _ _ (by omega) h
   rw [h1]
   exact ⟨_, _, _, _, rfl, by simpa using h2, h3⟩
  have stop : ∀ {e : List AV} {H pH : Heap} {pv : AV}, WX P c un (dsts ops) (gget [] (deads ops) i) base st pv pH Q os (i + 1) (tr ++ [.pan]) e H →
    ∃ tr' pk e1 H1, (match runTr P (calls P c) c.imp ops base os (i + 1) (some (i, pv, pH)) e H with | some (tr, r) => some (.pan :: tr, r) | none => none) = some (tr', pk, e1, H1) ∧ AllOk un (tr ++ tr') ∧ FinP P c pk st e1 H1 Q := by
   intro e H pH pv h
   obtain ⟨tr', e1, H1, h1, h2, h3⟩ := WX_run hno (by omega) os (i + 1) (tr ++ [.pan]) e H (by omega) h
   rw [h1]
   exact ⟨_, _, _, _, rfl, by simpa using h2, h3⟩
  simp only [runTr, hno, astepD, behind, Bool.false_eq_true, if_false, aWanted_gword]
  split at h
  ·exact h.elim
  ·rename_i hw
   rw [hw]
   exact next h
  ·rename_i hw
   rw [hw]
   simp only
   cases hs : astep P (aeval e) H (base + i) o.op with
   | none => simp [hs, eStep] at h
   | some sr =>
    rw [hs] at h
    cases sr with
    | val v us rs =>
     simp only [eStep] at h
     simp only [Option.isSome_none, Bool.false_eq_true, false_and, if_false]
     exact next h
    | pan v =>
     simp only [eStep] at h
     simp only [Option.isSome_none, Bool.false_eq_true, if_false]
     exact stop h
    | call f args =>
     simp only [eStep] at h
     cases hi : c.imp f with
     | true =>
      simp only [hi] at h
      simp only [hi, if_true, Option.isSome_none, Bool.false_eq_true, if_false]
      cases hc : calls P c f args H with
      | none => simp [hc] at h
      | some cr =>
       cases cr with
       | pan v H' =>
        simp only [hc] at h
        simp only
        exact stop h
       | ret v H' =>
        simp only [hc] at h
        simp only
        exact next h
     | false =>
      simp only [hi] at h
      simp only [hi, Bool.false_eq_true, if_false]
      cases hc : calls P c f args H with
      | none => simp [hc] at h
      | some cr =>
       cases cr with
       | pan v H' => simp [hc] at h
       | ret v H' =>
        simp only [hc] at h
        simp only
        exact next h
theorem W_drawE {id : Nat} {ops : Array Oper} {e : List AV} {H : Heap} (un : List (Nat × Nat)) (dd : List (List Nat)) (hu : (unord ops, deads ops) = (un, dd))
  (h : WE P c un (dsts ops) dd H.next st Q ops.toList 0 [] e (H.up ops.size)) (hno : c.imp hoF = false := by rfl) : W P c (.region id ops true) st e H Q := by
 simp only [Prod.mk.injEq] at hu
 obtain ⟨hu1, hu2⟩ := hu
 rw [← hu2] at h
 obtain ⟨tr, pk, e1, H1, h1, h2, h3⟩ := WE_run hno _ _ _ _ _ (by simp) h
 have h0 : startH P c.imp ops H = H.up ops.size := by unfold startH; rw [hno]; rfl
 have h1 : runTr P (calls P c) c.imp ops H.next ops.toList 0 none e (startH P c.imp ops H) = some (tr, pk, e1, H1) := by rw [h0]; exact h1
 rw [List.nil_append] at h2
 have ht : TrOk ops tr := by rw [TrOk, hu1]; exact h2
 cases pk with
 | none => exact ⟨_, _, _, .draw h1 ht, h3⟩
 | some q => obtain ⟨k, v, H2⟩ := q; exact ⟨_, _, _, .drawP h1 ht, h3⟩

/-! ### equations -/
variable {ds : List (Option Tmp)} {dd : List (List Nat)} {dl : List Nat} {pv : AV} {pH : Heap} {os : List Oper} {i : Nat} {tr : List Tr} {e : List AV} {H : Heap} {dst : Option Tmp} {op : Op}
def xK (P : Program) (c : Cfg) (r : Option CR) (imp : Bool) (un : List (Nat × Nat)) (ds : List (Option Tmp)) (dl : List Nat) (base : Nat) (st : List Fr) (pv : AV) (pH : Heap) (Q : Post) (dst : Option Tmp) (os : List Oper) (i : Nat) (tr : List Tr) (e : List AV) (H : Heap) : Prop :=
 match imp, r with
 | false, some (.ret v _) => WX P c un ds dl base st pv pH Q os (i + 1) (tr ++ [.val v [] []]) (aput e dst v) H
 | _, _ => False
def xS (P : Program) (c : Cfg) (r : Option Sr) (un : List (Nat × Nat)) (ds : List (Option Tmp)) (dl : List Nat) (base : Nat) (st : List Fr) (pv : AV) (pH : Heap) (Q : Post) (dst : Option Tmp) (os : List Oper) (i : Nat) (tr : List Tr) (e : List AV) (H : Heap) : Prop :=
 match r with
 | some (.val v [] rs) => WX P c un ds dl base st pv pH Q os (i + 1) (tr ++ [.val v [] rs]) (aput e dst v) H
 | some (.call f args) => xK P c (calls P c f args H) (c.imp f) un ds dl base st pv pH Q dst os i tr e H
 | _ => False
def xG (P : Program) (c : Cfg) (v : AV) (want : Bool) (op : Op) (un : List (Nat × Nat)) (ds : List (Option Tmp)) (dl : List Nat) (base : Nat) (st : List Fr) (pv : AV) (pH : Heap) (Q : Post) (dst : Option Tmp) (os : List Oper) (i : Nat) (tr : List Tr) (e : List AV) (H : Heap) : Prop :=
 match v with
 | .lit (.bool b) =>
  match b == want with
  | true => xS P c (astep P (aeval e) H (base + i) op) un ds dl base st pv pH Q dst os i tr e H
  | false => WX P c un ds dl base st pv pH Q os (i + 1) (tr ++ [.val (.tup []) [] []]) (aput e dst (.tup [])) H
 | .tup [] => WX P c un ds dl base st pv pH Q os (i + 1) (tr ++ [.val (.tup []) [] []]) (aput e dst (.tup [])) H
 | _ => False
def xGd (P : Program) (c : Cfg) (g : Option (Nat × Bool)) (op : Op) (un : List (Nat × Nat)) (ds : List (Option Tmp)) (dl : List Nat) (base : Nat) (st : List Fr) (pv : AV) (pH : Heap) (Q : Post) (dst : Option Tmp) (os : List Oper) (i : Nat) (tr : List Tr) (e : List AV) (H : Heap) : Prop :=
 match g with
 | none => xS P c (astep P (aeval e) H (base + i) op) un ds dl base st pv pH Q dst os i tr e H
 | some (j, want) =>
  match gget none ds j with
  | some d => xG P c (gget .bad e d) want op un ds dl base st pv pH Q dst os i tr e H
  | none => WX P c un ds dl base st pv pH Q os (i + 1) (tr ++ [.val (.tup []) [] []]) (aput e dst (.tup [])) H
def xM (P : Program) (c : Cfg) (dead : Bool) (g : Option (Nat × Bool)) (op : Op) (un : List (Nat × Nat)) (ds : List (Option Tmp)) (dl : List Nat) (base : Nat) (st : List Fr) (pv : AV) (pH : Heap) (Q : Post) (dst : Option Tmp) (os : List Oper) (i : Nat) (tr : List Tr) (e : List AV) (H : Heap) : Prop :=
 match dead with
 | true => WX P c un ds dl base st pv pH Q os (i + 1) (tr ++ [.dead]) e H
 | false => xGd P c g op un ds dl base st pv pH Q dst os i tr e H
@[go_sem] theorem WX_nil : WX P c un ds dl base st pv pH Q [] i tr e H = (AllOk un tr ∧ Fin P c st (.pan pv) e pH Q) := rfl
theorem xS_eq {r : Option Sr} : (match qStep P c r H with | none => False | some (t, v) => WX P c un ds dl base st pv pH Q os (i + 1) (tr ++ [t]) (aput e dst v) H) = xS P c r un ds dl base st pv pH Q dst os i tr e H := by
 cases r with
 | none => rfl
 | some sr =>
  cases sr with
  | val v us rs => cases us <;> rfl
  | pan v => rfl
  | call f args =>
   simp only [qStep, xS, xK]
   cases c.imp f with
   | true => rfl
   | false =>
    cases calls P c f args H with
    | none => rfl
    | some cr => cases cr <;> rfl
@[go_sem] theorem WX_cons {type : TypeId} {pos : String} {after : Array Edge} {guard : Option (Nat × Bool)} :
  WX P c un ds dl base st pv pH Q ({ dst, op, type, pos, after, guard } :: os) i tr e H = xM P c (memN dl i) guard op un ds dl base st pv pH Q dst os i tr e H := by
 simp only [WX, xS_eq]
 cases memN dl i with
 | true => rfl
 | false =>
  simp only [xM]
  cases guard with
  | none => rfl
  | some g =>
   obtain ⟨j, want⟩ := g
   simp only [gword, xGd]
   cases gget none ds j with
   | none => rfl
   | some d =>
    simp only
    generalize gget AV.bad e d = v
    unfold xG
    cases v with
    | lit u =>
     cases u with
     | bool b => simp only; cases b == want <;> rfl
     | _ => rfl
    | tup vs => cases vs <;> rfl
    | _ => rfl
@[go_sem] theorem xM_true {g : Option (Nat × Bool)} : xM P c true g op un ds dl base st pv pH Q dst os i tr e H = WX P c un ds dl base st pv pH Q os (i + 1) (tr ++ [.dead]) e H := rfl
@[go_sem] theorem xM_none : xM P c false none op un ds dl base st pv pH Q dst os i tr e H = xS P c (astep P (aeval e) H (base + i) op) un ds dl base st pv pH Q dst os i tr e H := rfl
@[go_sem] theorem xM_some {j : Nat} {want : Bool} {d : Tmp} (hd : gget none ds j = some d) : xM P c false (some (j, want)) op un ds dl base st pv pH Q dst os i tr e H = xG P c (gget .bad e d) want op un ds dl base st pv pH Q dst os i tr e H := by
 simp only [xM, xGd, hd]
@[go_sem] theorem xG_tt : xG P c (.lit (.bool true)) true op un ds dl base st pv pH Q dst os i tr e H = xS P c (astep P (aeval e) H (base + i) op) un ds dl base st pv pH Q dst os i tr e H := rfl
@[go_sem] theorem xG_ff : xG P c (.lit (.bool false)) false op un ds dl base st pv pH Q dst os i tr e H = xS P c (astep P (aeval e) H (base + i) op) un ds dl base st pv pH Q dst os i tr e H := rfl
@[go_sem] theorem xG_tf : xG P c (.lit (.bool true)) false op un ds dl base st pv pH Q dst os i tr e H = WX P c un ds dl base st pv pH Q os (i + 1) (tr ++ [.val (.tup []) [] []]) (aput e dst (.tup [])) H := rfl
@[go_sem] theorem xG_ft : xG P c (.lit (.bool false)) true op un ds dl base st pv pH Q dst os i tr e H = WX P c un ds dl base st pv pH Q os (i + 1) (tr ++ [.val (.tup []) [] []]) (aput e dst (.tup [])) H := rfl
@[go_sem] theorem xG_tup {want : Bool} : xG P c (.tup []) want op un ds dl base st pv pH Q dst os i tr e H = WX P c un ds dl base st pv pH Q os (i + 1) (tr ++ [.val (.tup []) [] []]) (aput e dst (.tup [])) H := rfl
@[go_sem] theorem xS_val {v : AV} {rs : List Nat} : xS P c (some (.val v [] rs)) un ds dl base st pv pH Q dst os i tr e H = WX P c un ds dl base st pv pH Q os (i + 1) (tr ++ [.val v [] rs]) (aput e dst v) H := rfl
@[go_sem] theorem xS_call {f : FuncId} {args : List AV} : xS P c (some (.call f args)) un ds dl base st pv pH Q dst os i tr e H = xK P c (calls P c f args H) (c.imp f) un ds dl base st pv pH Q dst os i tr e H := rfl
@[go_sem] theorem xK_ret {v : AV} {H' : Heap} : xK P c (some (.ret v H')) false un ds dl base st pv pH Q dst os i tr e H = WX P c un ds dl base st pv pH Q os (i + 1) (tr ++ [.val v [] []]) (aput e dst v) H := rfl

def eK (P : Program) (c : Cfg) (r : Option CR) (imp : Bool) (un : List (Nat × Nat)) (ds : List (Option Tmp)) (dd : List (List Nat)) (base : Nat) (st : List Fr) (Q : Post) (dst : Option Tmp) (os : List Oper) (i : Nat) (tr : List Tr) (e : List AV) (H : Heap) : Prop :=
 match imp, r with
 | false, some (.ret v _) => WE P c un ds dd base st Q os (i + 1) (tr ++ [.val v [] []]) (aput e dst v) H
 | true, some (.ret v H') => WE P c un ds dd base st Q os (i + 1) (tr ++ [.call v H H']) (aput e dst v) H'
 | true, some (.pan v H') => WX P c un ds (gget [] dd i) base st v H' Q os (i + 1) (tr ++ [.pan]) e H
 | _, _ => False
def eS (P : Program) (c : Cfg) (r : Option Sr) (un : List (Nat × Nat)) (ds : List (Option Tmp)) (dd : List (List Nat)) (base : Nat) (st : List Fr) (Q : Post) (dst : Option Tmp) (os : List Oper) (i : Nat) (tr : List Tr) (e : List AV) (H : Heap) : Prop :=
 match r with
 | some (.val v us rs) => WE P c un ds dd base st Q os (i + 1) (tr ++ [.val v us rs]) (aput e dst v) (appU H us)
 | some (.pan v) => WX P c un ds (gget [] dd i) base st v H Q os (i + 1) (tr ++ [.pan]) e H
 | some (.call f args) => eK P c (calls P c f args H) (c.imp f) un ds dd base st Q dst os i tr e H
 | none => False
def eG (P : Program) (c : Cfg) (v : AV) (want : Bool) (op : Op) (un : List (Nat × Nat)) (ds : List (Option Tmp)) (dd : List (List Nat)) (base : Nat) (st : List Fr) (Q : Post) (dst : Option Tmp) (os : List Oper) (i : Nat) (tr : List Tr) (e : List AV) (H : Heap) : Prop :=
 match v with
 | .lit (.bool b) =>
  match b == want with
  | true => eS P c (astep P (aeval e) H (base + i) op) un ds dd base st Q dst os i tr e H
  | false => WE P c un ds dd base st Q os (i + 1) (tr ++ [.val (.tup []) [] []]) (aput e dst (.tup [])) H
 | .tup [] => WE P c un ds dd base st Q os (i + 1) (tr ++ [.val (.tup []) [] []]) (aput e dst (.tup [])) H
 | _ => False
theorem eS_eq {r : Option Sr} : (match eStep P c r H with
   | none => False
   | some (.inl (t, v, H')) => WE P c un ds dd base st Q os (i + 1) (tr ++ [t]) (aput e dst v) H'
   | some (.inr (pv, pH)) => WX P c un ds (gget [] dd i) base st pv pH Q os (i + 1) (tr ++ [.pan]) e H) = eS P c r un ds dd base st Q dst os i tr e H := by
 cases r with
 | none => rfl
 | some sr =>
  cases sr with
  | val v us rs => rfl
  | pan v => rfl
  | call f args =>
   simp only [eStep, eS, eK]
   cases c.imp f with
   | true =>
    cases calls P c f args H with
    | none => rfl
    | some cr => cases cr <;> rfl
   | false =>
    cases calls P c f args H with
    | none => rfl
    | some cr => cases cr <;> rfl
@[go_sem] theorem WE_nil : WE P c un ds dd base st Q [] i tr e H = (AllOk un tr ∧ Fin P c st .nrm e H Q) := rfl
@[go_sem] theorem WE_plain {type : TypeId} {pos : String} {after : Array Edge} :
  WE P c un ds dd base st Q ({ dst, op, type, pos, after, guard := none } :: os) i tr e H = eS P c (astep P (aeval e) H (base + i) op) un ds dd base st Q dst os i tr e H := by
 rw [← eS_eq]; rfl
@[go_sem] theorem WE_guard {j : Nat} {d : Tmp} {want : Bool} {type : TypeId} {pos : String} {after : Array Edge} (hd : gget none ds j = some d) :
  WE P c un ds dd base st Q ({ dst, op, type, pos, after, guard := some (j, want) } :: os) i tr e H = eG P c (gget .bad e d) want op un ds dd base st Q dst os i tr e H := by
 simp only [WE, gword, hd, eS_eq]
 generalize gget AV.bad e d = v
 unfold eG
 cases v with
 | lit u =>
  cases u with
  | bool b => simp only; cases b == want <;> rfl
  | _ => rfl
 | tup vs => cases vs <;> rfl
 | _ => rfl
@[go_sem] theorem eG_tt : eG P c (.lit (.bool true)) true op un ds dd base st Q dst os i tr e H = eS P c (astep P (aeval e) H (base + i) op) un ds dd base st Q dst os i tr e H := rfl
@[go_sem] theorem eG_ff : eG P c (.lit (.bool false)) false op un ds dd base st Q dst os i tr e H = eS P c (astep P (aeval e) H (base + i) op) un ds dd base st Q dst os i tr e H := rfl
@[go_sem] theorem eG_tf : eG P c (.lit (.bool true)) false op un ds dd base st Q dst os i tr e H = WE P c un ds dd base st Q os (i + 1) (tr ++ [.val (.tup []) [] []]) (aput e dst (.tup [])) H := rfl
@[go_sem] theorem eG_ft : eG P c (.lit (.bool false)) true op un ds dd base st Q dst os i tr e H = WE P c un ds dd base st Q os (i + 1) (tr ++ [.val (.tup []) [] []]) (aput e dst (.tup [])) H := rfl
@[go_sem] theorem eG_tup {want : Bool} : eG P c (.tup []) want op un ds dd base st Q dst os i tr e H = WE P c un ds dd base st Q os (i + 1) (tr ++ [.val (.tup []) [] []]) (aput e dst (.tup [])) H := rfl
@[go_sem] theorem eS_val {v : AV} {us : List U} {rs : List Nat} : eS P c (some (.val v us rs)) un ds dd base st Q dst os i tr e H = WE P c un ds dd base st Q os (i + 1) (tr ++ [.val v us rs]) (aput e dst v) (appU H us) := rfl
@[go_sem] theorem eS_pan {v : AV} : eS P c (some (.pan v)) un ds dd base st Q dst os i tr e H = WX P c un ds (gget [] dd i) base st v H Q os (i + 1) (tr ++ [.pan]) e H := rfl
@[go_sem] theorem eS_call {f : FuncId} {args : List AV} : eS P c (some (.call f args)) un ds dd base st Q dst os i tr e H = eK P c (calls P c f args H) (c.imp f) un ds dd base st Q dst os i tr e H := rfl
@[go_sem] theorem eK_pure {v : AV} {H' : Heap} : eK P c (some (.ret v H')) false un ds dd base st Q dst os i tr e H = WE P c un ds dd base st Q os (i + 1) (tr ++ [.val v [] []]) (aput e dst v) H := rfl
@[go_sem] theorem eK_imp {v : AV} {H' : Heap} : eK P c (some (.ret v H')) true un ds dd base st Q dst os i tr e H = WE P c un ds dd base st Q os (i + 1) (tr ++ [.call v H H']) (aput e dst v) H' := rfl
@[go_sem] theorem eK_pan {v : AV} {H' : Heap} : eK P c (some (.pan v H')) true un ds dd base st Q dst os i tr e H = WX P c un ds (gget [] dd i) base st v H' Q os (i + 1) (tr ++ [.pan]) e H := rfl
end

/-! ### what a trace may be -/
@[go_sem] theorem AllOk_nil (tr : List Tr) : AllOk [] tr = True := by simp [AllOk]
@[go_sem] theorem AllOk_cons (i j : Nat) (un : List (Nat × Nat)) (tr : List Tr) : AllOk ((i, j) :: un) tr = (NoConf (gget .dead tr i) (gget .dead tr j) ∧ AllOk un tr) := by
 have h : ∀ (l : List Tr) (i : Nat), l.getD i .dead = gget .dead l i := by
  intro l
  induction l with
  | nil => intro i; simp [gget]
  | cons x l ih => intro i; cases i with | zero => rfl | succ i => simpa [gget] using ih i
 simp only [AllOk, List.forall_mem_cons, h]
@[go_sem] theorem NoConf_quiet (v v' : AV) (rs rs' : List Nat) : NoConf (.val v [] rs) (.val v' [] rs') = True := by simp [NoConf]
@[go_sem] theorem NoConf_vc (v u : AV) (rs : List Nat) (Hb Ha : Heap) : NoConf (.val v [] rs) (.call u Hb Ha) = ∀ r ∈ rs, Keeps Hb Ha r := by simp [NoConf]
@[go_sem] theorem NoConf_cv (v u : AV) (rs : List Nat) (Hb Ha : Heap) : NoConf (.call u Hb Ha) (.val v [] rs) = ∀ r ∈ rs, Keeps Hb Ha r := by simp [NoConf]
@[go_sem] theorem NoConf_vp (v : AV) (rs : List Nat) : NoConf (.val v [] rs) .pan = True := by simp [NoConf]
@[go_sem] theorem NoConf_pv (v : AV) (rs : List Nat) : NoConf .pan (.val v [] rs) = True := by simp [NoConf]
@[go_sem] theorem NoConf_xd (t : Tr) : NoConf t .dead = True := by cases t <;> simp [NoConf]
@[go_sem] theorem NoConf_dx (t : Tr) : NoConf .dead t = True := by cases t <;> simp [NoConf]
theorem memN_false {l : List Nat} {k : Nat} : (memN l k = false) = (k ∉ l) := by rw [memN_contains]; simp
attribute [go_sem] not_false_eq_true
@[go_sem] theorem key_box (r : Nat) (cs : List AV) : (U.box r cs).key = r := rfl
@[go_sem] theorem key_live (r : Nat) (b : Bool) : (U.live r b).key = r := rfl
@[go_sem] theorem NoConf_wl (v v' : AV) (u : U) (rs rs' : List Nat) : NoConf (.val v [u] rs) (.val v' [] rs') = (memN rs' u.key = false) := by rw [memN_false]; simp [NoConf]
@[go_sem] theorem NoConf_lw (v v' : AV) (u : U) (rs rs' : List Nat) : NoConf (.val v [] rs) (.val v' [u] rs') = (memN rs u.key = false) := by rw [memN_false]; simp [NoConf]
@[go_sem] theorem NoConf_ww (v v' : AV) (u u' : U) (rs rs' : List Nat) : NoConf (.val v [u] rs) (.val v' [u'] rs') = (¬ u.key = u'.key ∧ memN rs' u.key = false ∧ memN rs u'.key = false) := by
 rw [memN_false, memN_false]; simp [NoConf, and_assoc]
@[go_sem] theorem forall_nil (p : Nat → Prop) : (∀ r ∈ ([] : List Nat), p r) = True := by simp
@[go_sem] theorem forall_one (p : Nat → Prop) (a : Nat) (l : List Nat) : (∀ r ∈ a :: l, p r) = (p a ∧ ∀ r ∈ l, p r) := by simp
end Go.Proofs.YtnoahchdmkpleaaGreat.VA

/-! Ve1 -/
namespace Go.Proofs.YtnoahchdmkpleaaGreat.VA
open Go Go.RowKit
set_option linter.unusedSimpArgs false

/-- What another table answers. -/
noncomputable def toldBy (P : Program) (c : Cfg) (f : FuncId) (args : List AV) : Option AV :=
 match calls P c f (sanL args) Heap.empty with
 | some (.ret v _) => some (san v)
 | _ => none
theorem toldBy_ok {P : Program} {C : Cond} {c : Cfg} (hc : CfgOk P C c) {f : FuncId} {fn : Func} {code : Code} (hf : P.funcs[f]? = some fn) (hn : (fn.name == "runtime.NumGoroutine") = false) (hb : fn.body = some code) : ToldOk P C f (toldBy P c f) := by
 refine ⟨callFunc_enter hf hn hb, fun args v h g H w vs hC hi hr => ?_⟩
 unfold toldBy at h
 split at h
 ·rename_i u H' hu
  simp only [Option.some.injEq] at h
  subst h
  obtain ⟨k, hk⟩ := calls_iff.1 hu
  refine ((call_ok hc k).calls f (sanL args) Heap.empty _ hk (g.sub w) w vs hC (inv_empty hi) (fun _ _ => ⟨rfl, rfl⟩) (hr.san (fun _ => Nat.le_refl _))).2.mono fun en w' hp => ?_
  obtain ⟨x, g', rfl, hp, hrel⟩ := hp
  obtain ⟨h1, h2⟩ := pure_core hi hp g'.vis (fun _ => Nat.le_refl _) (fun _ _ => rfl) hp.inv.fresh
  exact ⟨x, _, rfl, h1, h2, rfl, rfl, hrel.san (fun _ => Nat.le_refl _)⟩
 ·cases h
theorem calls_by {P : Program} {c c0 : Cfg} {f : FuncId} {args : List AV} {v : AV} (ht : c.told f = some (toldBy P c0 f)) (h : ∀ H, calls P c0 f (sanL args) H = some (.ret v H)) (hv : san v = v) (H : Heap) :
  calls P c f args H = some (.ret v H) := calls_told ht (by unfold toldBy; rw [sanL_san, h]; simp only [hv]) H
theorem calls_grow {P : Program} {C : Cond} {c : Cfg} (hc : CfgOk P C c) {f : FuncId} {args : List AV} {v : Value} {H' : Heap} {vs : Array Value} {w : World} (hC : C.holds w.heap.size w) (h : calls P c f args Heap.empty = some (.ret (.lit v) H'))
  (hr : RelL (ghost w) w args vs.toList) : Calls P f vs w fun e w' => e = .returned v ∧ ∃ q os', w' = Sort.grow (w.drewN q) os' := by
 obtain ⟨k, hk⟩ := calls_iff.1 h
 refine ((call_ok hc k).calls f args Heap.empty _ hk (ghostC C w) w vs rfl (ghost_inv C w hC) (fun r _ => ⟨rfl, rfl⟩) ⟨hr.1, fun i x v hx hv => (hr.2 i x v hx hv).ghostC C rfl⟩).2.mono ?_
 rintro e w' ⟨u, g', rfl, hp, hrel⟩
 have := hrel.lit_inv
 subst this
 have hx := hp.ext
 refine ⟨rfl, w'.drawn - w.drawn, w'.heap.extract w.heap.size w'.heap.size, ?_⟩
 have h1 : w'.heap = w.heap ++ w'.heap.extract w.heap.size w'.heap.size := by
  apply Array.ext_getElem?
  intro i
  by_cases hi : i < w.heap.size
  ·rw [Array.getElem?_append_left hi]; exact hx.low i hi
  ·rw [Array.getElem?_append_right (by omega), Array.getElem?_extract]
   by_cases hj : i < w'.heap.size
   ·have : w.heap.size + (i - w.heap.size) = i := by omega
    simp [this]
    omega
   ·rw [Array.getElem?_eq_none (by omega)]
    simp
    omega
 have h2 : w'.drawn = w.drawn + (w'.drawn - w.drawn) := by have := hx.output.2; omega
 have h3 := hx.os
 have h4 := hx.tape
 have h5 := hx.output.1
 cases w' with
 | mk heap tape drawn os output =>
  simp only at h1 h2 h3 h4 h5
  unfold Sort.grow World.drewN
  subst h3 h4 h5
  simp only [World.mk.injEq, true_and, and_true]
  exact ⟨h1, h2⟩
/-- A table of a list. -/
def tabT {β : Type} : List (FuncId × β) → FuncId → Option β
 | [], _ => none
 | (k, h) :: l, f => if f = k then some h else tabT l f
theorem tabT_mem {β : Type} : ∀ {l : List (FuncId × β)} {f : FuncId} {h : β}, tabT l f = some h → (f, h) ∈ l
 | [], _, _, h => by cases h
 | (k, x) :: l, f, h, e => by
  unfold tabT at e
  split at e
  ·rename_i hf
   simp only [Option.some.injEq] at e
   subst hf e
   exact List.mem_cons_self ..
  ·exact List.mem_cons_of_mem _ (tabT_mem e)
def fnOk (P : Program) (f : FuncId) : Bool :=
 match P.funcs[f]? with
 | some fn => !(fn.name == "runtime.NumGoroutine") && (match fn.body with | some code => codeOk fn.ntmps code | none => true)
 | none => true
noncomputable def mkC (P : Program) (runs writes arrs : List FuncId) (told : List (FuncId × (List AV → Option AV))) (tolH : List (FuncId × (List AV → Heap → Option (AV × List U)))) : Cfg where
 fn := fun f => if (runs.contains f || writes.contains f) = true then P.funcs[f]? else none
 imp := fun f => writes.contains f
 told := tabT told
 arr := fun f => arrs.contains f
 tolH := tabT tolH
theorem mkC_ok {P : Program} {C : Cond} {runs writes arrs : List FuncId} {told : List (FuncId × (List AV → Option AV))} {tolH : List (FuncId × (List AV → Heap → Option (AV × List U)))} (hm : P.follows .mixedOrders = true) (hr : (runs ++ writes).all (fnOk P) = true)
  (ht : ∀ p, p ∈ told → ToldOk P C p.1 p.2) (hh : ∀ p, p ∈ tolH → TolHOk P C p.1 p.2) : CfgOk P C (mkC P runs writes arrs told tolH) := by
 refine ⟨hm, ?_, fun f h hf => ht _ (tabT_mem hf), fun f h hf => hh _ (tabT_mem hf)⟩
 intro f fn h
 have h' : (if (runs.contains f || writes.contains f) = true then P.funcs[f]? else none) = some fn := h
 split at h'
 ·rename_i hmm
  have hok := List.all_eq_true.1 hr f (by simpa using hmm)
  unfold fnOk at hok
  rw [h'] at hok
  simp only [Bool.and_eq_true, Bool.not_eq_true'] at hok
  refine ⟨h', hok.1, fun code hb => ?_⟩
  have := hok.2
  rw [hb] at this
  exact this
 ·cases h'
@[go_sem] theorem bxx_eq (v : AV) (id : Nat) : bxx v id = if v.cells.all AV.one = true then some (.val (.ptr id 0) [.box id v.cells] []) else none := rfl
@[go_sem] theorem iad_cons0 (t : TypeId) (n b : Nat) (o : Own) (e : List AV) (es : List (List AV)) : iad (some (t, n, b)) (.sl o (e :: es)) (some 0) = if e.length = n then some (.ep e) else none := rfl
@[go_sem] theorem iad_consS (t : TypeId) (n b i : Nat) (o : Own) (e : List AV) (es : List (List AV)) : iad (some (t, n, b)) (.sl o (e :: es)) (some (i + 1)) = iad (some (t, n, b)) (.sl o es) (some i) := rfl
end Go.Proofs.YtnoahchdmkpleaaGreat.VA

/-! Ar1 -/
namespace Go.Proofs.YtnoahchdmkpleaaGreat.VA
open Go Go.RowKit
set_option linter.unusedSimpArgs false

@[go_sem] theorem omap_none {α β : Type} (f : α → β) : (none : Option α).map f = none := rfl
/-! ### rows of elements -/
def Unif (sz : Nat) (es : List (List AV)) : Prop := ∀ e, e ∈ es → e.length = sz
theorem Unif.take {sz : Nat} {es : List (List AV)} (h : Unif sz es) (i : Nat) : Unif sz (es.take i) := fun e he => h e (List.mem_of_mem_take he)
theorem Unif.drop {sz : Nat} {es : List (List AV)} (h : Unif sz es) (i : Nat) : Unif sz (es.drop i) := fun e he => h e (List.mem_of_mem_drop he)
theorem Unif.append {sz : Nat} {a b : List (List AV)} (h : Unif sz a) (k : Unif sz b) : Unif sz (a ++ b) := fun e he => (List.mem_append.1 he).elim (h e) (k e)
theorem Unif.nil (sz : Nat) : Unif sz [] := fun e he => by cases he
theorem Unif.cons {sz : Nat} {x : List AV} {es : List (List AV)} (h : x.length = sz) (k : Unif sz es) : Unif sz (x :: es) := fun e he => (List.mem_cons.1 he).elim (fun q => q ▸ h) (k e)
theorem Unif.rep {sz : Nat} {x : List AV} (h : x.length = sz) (n : Nat) : Unif sz (List.replicate n x) := fun e he => by rw [List.eq_of_mem_replicate he]; exact h
theorem Unif.map {α : Type} {sz : Nat} {f : α → List AV} (h : ∀ x, (f x).length = sz) (l : List α) : Unif sz (l.map f) := fun e he => by obtain ⟨x, _, rfl⟩ := List.mem_map.1 he; exact h x
theorem Unif.set {sz : Nat} {es : List (List AV)} (h : Unif sz es) {x : List AV} (hx : x.length = sz) (i : Nat) : Unif sz (es.set i x) := fun e he => by
 rcases List.mem_or_eq_of_mem_set he with h1 | h1
 ·exact h e h1
 ·rw [h1]; exact hx
theorem flat_len {sz : Nat} : ∀ {es : List (List AV)}, Unif sz es → es.flatten.length = es.length * sz
 | [], _ => by simp
 | e :: es, h => by
  rw [List.flatten_cons, List.length_append, flat_len (es := es) (fun x hx => h x (List.mem_cons_of_mem _ hx)), h e (List.mem_cons_self ..), List.length_cons, Nat.add_mul, Nat.one_mul, Nat.add_comm]
theorem flat_cut {sz : Nat} {es : List (List AV)} (h : Unif sz es) (i : Nat) (hi : i ≤ es.length) : es.flatten.take (i * sz) = (es.take i).flatten ∧ es.flatten.drop (i * sz) = (es.drop i).flatten := by
 have e : es.flatten = (es.take i).flatten ++ (es.drop i).flatten := by rw [← List.flatten_append, List.take_append_drop]
 have l : (es.take i).flatten.length = i * sz := by rw [flat_len (h.take i), List.length_take, Nat.min_eq_left hi]
 exact ⟨by rw [e]; exact List.take_left' l, by rw [e]; exact List.drop_left' l⟩
theorem flat_at {sz : Nat} {es : List (List AV)} (h : Unif sz es) {i : Nat} {x : List AV} (hx : es[i]? = some x) : (es.flatten.drop (i * sz)).take sz = x := by
 obtain ⟨hi, hx'⟩ := List.getElem?_eq_some_iff.1 hx
 rw [(flat_cut h i (by omega)).2, List.drop_eq_getElem_cons hi, List.flatten_cons, hx']
 exact List.take_left' (h x (by rw [← hx']; exact List.getElem_mem hi))
theorem flat_set {sz : Nat} {es : List (List AV)} (h : Unif sz es) {i : Nat} (hi : i < es.length) {x : List AV} : es.flatten.take (i * sz) ++ (x ++ es.flatten.drop (i * sz + sz)) = (es.set i x).flatten := by
 have h1 := (flat_cut h i (by omega)).1
 have h2 := (flat_cut h (i + 1) (by omega)).2
 rw [Nat.add_mul, Nat.one_mul] at h2
 rw [h1, h2, List.set_eq_take_append_cons_drop, if_pos hi, List.flatten_append, List.flatten_cons]
theorem flat_clear {sz : Nat} {es : List (List AV)} (h : Unif sz es) {i n : Nat} (hi : i + n ≤ es.length) (z : List AV) :
  es.flatten.take (i * sz) ++ ((List.replicate n z).flatten ++ es.flatten.drop ((i + n) * sz)) = (es.take i ++ List.replicate n z ++ es.drop (i + n)).flatten := by
 rw [(flat_cut h i (by omega)).1, (flat_cut h (i + n) hi).2, List.flatten_append, List.flatten_append, List.append_assoc]
theorem chunk_flat {sz : Nat} : ∀ {es : List (List AV)} (n : Nat), Unif sz es → n ≤ es.length → chunk n sz es.flatten = es.take n
 | es, 0, _, _ => by simp [chunk]
 | [], n + 1, _, h => by simp at h
 | e :: es, n + 1, hu, h => by
  have he := hu e (List.mem_cons_self ..)
  simp only [chunk, List.flatten_cons, List.take_succ_cons]
  rw [List.take_left' he, List.drop_left' he, chunk_flat n (fun x hx => hu x (List.mem_cons_of_mem _ hx)) (by simp at h; omega)]

/-! ### what a call leaves as it was -/
/-- What was there stays. -/
structure Frm (H H' : Heap) : Prop where
 nx : H.next ≤ H'.next
 ho : ∀ k, k < H.next → H'.ho k = H.ho k
theorem Frm.refl (H : Heap) : Frm H H := ⟨Nat.le_refl _, fun _ _ => rfl⟩
theorem Frm.trans {H H1 H2 : Heap} (h : Frm H H1) (k : Frm H1 H2) : Frm H H2 := ⟨Nat.le_trans h.nx k.nx, fun i hi => (k.ho i (Nat.lt_of_lt_of_le hi h.nx)).trans (h.ho i hi)⟩
theorem Frm.up {H H1 : Heap} (h : Frm H H1) (n : Nat) : Frm H (H1.up n) := ⟨Nat.le_trans h.nx (Nat.le_add_right _ _), h.ho⟩
theorem Frm.put {H H1 : Heap} (h : Frm H H1) {b : Nat} (cs : List AV) (hb : H.next ≤ b) : Frm H (H1.put b cs) :=
 ⟨h.nx, fun k hk => by simp only [Heap.put, Heap.ho_set]; rw [if_neg (by omega)]; exact h.ho k hk⟩
theorem Frm.get {H H' : Heap} (h : Frm H H') {r : Nat} (hr : r < H.next) : H'.get r = H.get r := by rw [Heap.get, Heap.get, h.ho r hr]
/-- An array in memory, and what else was there stays. -/
structure Arr (H0 : Heap) (r : Nat) (H : Heap) (es : List (List AV)) : Prop where
 get : H.get r = some es.flatten
 nx : H0.next ≤ H.next
 ho : ∀ k, k < H0.next → k ≠ r → H.ho k = H0.ho k
 rl : r < H0.next
section
variable {H0 H H' : Heap} {r : Nat} {es es' : List (List AV)}
theorem Arr.start (g : H.get r = some es.flatten) (hr : r < H.next) : Arr H r H es := ⟨g, Nat.le_refl _, fun _ _ _ => rfl, hr⟩
theorem Arr.up (h : Arr H0 r H es) (n : Nat) : Arr H0 r (H.up n) es := ⟨h.get, Nat.le_trans h.nx (Nat.le_add_right _ _), h.ho, h.rl⟩
theorem Arr.put (h : Arr H0 r H es) {b : Nat} (cs : List AV) (hb : H0.next ≤ b) : Arr H0 r (H.put b cs) es :=
 ⟨by rw [Heap.get_put, if_neg (by have := h.rl; omega)]; exact h.get, h.nx, fun k hk hr => by simp only [Heap.put, Heap.ho_set]; rw [if_neg (by omega)]; exact h.ho k hk hr, h.rl⟩
theorem Arr.write (h : Arr H0 r H es) {cs : List AV} (hc : cs = es'.flatten) : Arr H0 r (H.put r cs) es' :=
 ⟨by rw [Heap.get_put, if_pos rfl, hc], h.nx, fun k hk hr => by simp only [Heap.put, Heap.ho_set]; rw [if_neg (fun e => hr e.symm)]; exact h.ho k hk hr, h.rl⟩
theorem Arr.frm (h : Arr H0 r H es) (k : Frm H H') : Arr H0 r H' es :=
 ⟨by rw [k.get (Nat.lt_of_lt_of_le h.rl h.nx)]; exact h.get, Nat.le_trans h.nx k.nx, fun i hi hr => (k.ho i (Nat.lt_of_lt_of_le hi h.nx)).trans (h.ho i hi hr), h.rl⟩
theorem Arr.trans (h : Arr H0 r H es) (k : Arr H r H' es') : Arr H0 r H' es' :=
 ⟨k.get, Nat.le_trans h.nx k.nx, fun i hi hr => (k.ho i (Nat.lt_of_lt_of_le hi h.nx) hr).trans (h.ho i hi hr), h.rl⟩
theorem Arr.old (h : Arr H0 r H es) {k : Nat} (hk : k < H0.next) (hr : k ≠ r) : H.get k = H0.get k := by rw [Heap.get, Heap.get, h.ho k hk hr]
theorem Arr.frm_of (h : Arr H0 r H es) (g : H0.get r = some es.flatten) : Frm H0 H := ⟨h.nx, fun k hk => by
 by_cases hr : k = r
 ·subst hr
  have a := h.get
  unfold Heap.get at a g
  rw [HO.cells_some] at a g
  rw [a, g]
 ·exact h.ho k hk hr⟩
end
section
variable {P : Program} {c : Cfg} {st : List Fr} {Q : Post} {ds : List (Option Tmp)} {base : Nat} {dst : Option Tmp} {os : List Oper} {i : Nat} {f : FuncId} {args : List AV} {e : List AV} {H : Heap} {R : AV → Heap → Prop}
theorem goC_ex (h : ∃ v H', calls P c f args H = some (.ret v H') ∧ R v H') (k : ∀ v H', R v H' → WO P c ds base os i st (aput e dst v) H' Q) : goC P c (calls P c f args H) ds base dst os i st e Q := by
 obtain ⟨v, H', h1, h2⟩ := h
 rw [h1]; exact k v H' h2
end
theorem wrapI {n : Int} (h : -9223372036854775808 ≤ n ∧ n ≤ 9223372036854775807) : IntKind.i64.wrap n = n := by rw [IntKind.wrap_i64]; omega
end Go.Proofs.YtnoahchdmkpleaaGreat.VA

/-! Ty -/
namespace Go.Proofs.YtnoahchdmkpleaaGreat.VA
open Go Go.RowKit
set_option linter.unusedSimpArgs false
set_option maxRecDepth 100000
@[go_sem] theorem und_int : Tryz.prog.underlying 3 = some (.int .i64) := by kernel_rfl
@[go_sem] theorem und_errno : Tryz.prog.underlying 39 = some (.int .i64) := by kernel_rfl
@[go_sem] theorem und_bool : Tryz.prog.underlying 4 = some .bool := by kernel_rfl
@[go_sem] theorem und_u8 : Tryz.prog.underlying 5 = some (.int .u8) := by kernel_rfl
@[go_sem] theorem und_string : Tryz.prog.underlying 9 = some .string := by kernel_rfl
@[go_sem] theorem el_str : tElem Tryz.prog 28 = some (9, 1, 16) := by kernel_rfl
@[go_sem] theorem zo_str : zeroOk Tryz.prog 9 1 = true := by kernel_rfl
@[go_sem] theorem el_ints : tElem Tryz.prog 141 = some (3, 1, 8) := by kernel_rfl
@[go_sem] theorem zo_ints : zeroOk Tryz.prog 3 1 = true := by kernel_rfl
@[go_sem] theorem sz_int : tSize Tryz.prog 3 = some 1 := by kernel_rfl
@[go_sem] theorem ag_int : tAgg Tryz.prog 3 = some false := by kernel_rfl
@[go_sem] theorem zr_int : tZero Tryz.prog 3 = some [.lit (.int .i64 0)] := by kernel_rfl
@[go_sem] theorem sz_bool : tSize Tryz.prog 4 = some 1 := by kernel_rfl
@[go_sem] theorem ag_bool : tAgg Tryz.prog 4 = some false := by kernel_rfl
@[go_sem] theorem zr_bool : tZero Tryz.prog 4 = some [.lit (.bool false)] := by kernel_rfl
@[go_sem] theorem sz_string : tSize Tryz.prog 9 = some 1 := by kernel_rfl
@[go_sem] theorem ag_string : tAgg Tryz.prog 9 = some false := by kernel_rfl
@[go_sem] theorem zr_string : tZero Tryz.prog 9 = some [.lit (.string ⟨#[]⟩)] := by kernel_rfl
@[go_sem] theorem sz_Errno : tSize Tryz.prog 39 = some 1 := by kernel_rfl
@[go_sem] theorem ag_Errno : tAgg Tryz.prog 39 = some false := by kernel_rfl
@[go_sem] theorem zr_Errno : tZero Tryz.prog 39 = some [.lit (.int .i64 0)] := by kernel_rfl
@[go_sem] theorem fl_atom0 : tField Tryz.prog 81 0 = some (0, 1, false) := by kernel_rfl
@[go_sem] theorem fl_atom1 : tField Tryz.prog 81 1 = some (1, 1, false) := by kernel_rfl
@[go_sem] theorem bl_atom : tBuild Tryz.prog 81 = some ([(0, 1), (1, 1)], [.lit (.int .i64 0), .lit (.int .i64 0)]) := by kernel_rfl
@[go_sem] theorem zr_atom : tZero Tryz.prog 81 = some [.lit (.int .i64 0), .lit (.int .i64 0)] := by kernel_rfl
@[go_sem] theorem sz_atom : tSize Tryz.prog 81 = some 2 := by kernel_rfl
@[go_sem] theorem ag_atom : tAgg Tryz.prog 81 = some true := by kernel_rfl
@[go_sem] theorem fl_bind0 : tField Tryz.prog 76 0 = some (0, 1, false) := by kernel_rfl
@[go_sem] theorem fl_bind1 : tField Tryz.prog 76 1 = some (1, 1, false) := by kernel_rfl
@[go_sem] theorem bl_bind : tBuild Tryz.prog 76 = some ([(0, 1), (1, 1)], [.lit (.string ⟨#[]⟩), .sl .nil []]) := by kernel_rfl
@[go_sem] theorem zr_bind : tZero Tryz.prog 76 = some [.lit (.string ⟨#[]⟩), .sl .nil []] := by kernel_rfl
@[go_sem] theorem sz_bind : tSize Tryz.prog 76 = some 2 := by kernel_rfl
@[go_sem] theorem ag_bind : tAgg Tryz.prog 76 = some true := by kernel_rfl
@[go_sem] theorem fl_fld0 : tField Tryz.prog 85 0 = some (0, 1, false) := by kernel_rfl
@[go_sem] theorem fl_fld1 : tField Tryz.prog 85 1 = some (1, 1, false) := by kernel_rfl
@[go_sem] theorem fl_fld2 : tField Tryz.prog 85 2 = some (2, 1, false) := by kernel_rfl
@[go_sem] theorem bl_fld : tBuild Tryz.prog 85 = some ([(0, 1), (1, 1), (2, 1)], [.lit (.string ⟨#[]⟩), .lit (.bool false), .sl .nil []]) := by kernel_rfl
@[go_sem] theorem zr_fld : tZero Tryz.prog 85 = some [.lit (.string ⟨#[]⟩), .lit (.bool false), .sl .nil []] := by kernel_rfl
@[go_sem] theorem sz_fld : tSize Tryz.prog 85 = some 3 := by kernel_rfl
@[go_sem] theorem ag_fld : tAgg Tryz.prog 85 = some true := by kernel_rfl
@[go_sem] theorem fl_shp0 : tField Tryz.prog 79 0 = some (0, 1, false) := by kernel_rfl
@[go_sem] theorem fl_shp1 : tField Tryz.prog 79 1 = some (1, 1, false) := by kernel_rfl
@[go_sem] theorem bl_shp : tBuild Tryz.prog 79 = some ([(0, 1), (1, 1)], [.sl .nil [], .sl .nil []]) := by kernel_rfl
@[go_sem] theorem zr_shp : tZero Tryz.prog 79 = some [.sl .nil [], .sl .nil []] := by kernel_rfl
@[go_sem] theorem sz_shp : tSize Tryz.prog 79 = some 2 := by kernel_rfl
@[go_sem] theorem ag_shp : tAgg Tryz.prog 79 = some true := by kernel_rfl
@[go_sem] theorem fl_loc0 : tField Tryz.prog 83 0 = some (0, 2, true) := by kernel_rfl
@[go_sem] theorem fl_loc1 : tField Tryz.prog 83 1 = some (2, 2, true) := by kernel_rfl
@[go_sem] theorem bl_loc : tBuild Tryz.prog 83 = some ([(0, 2), (2, 2)], [.lit (.int .i64 0), .lit (.int .i64 0), .sl .nil [], .sl .nil []]) := by kernel_rfl
@[go_sem] theorem zr_loc : tZero Tryz.prog 83 = some [.lit (.int .i64 0), .lit (.int .i64 0), .sl .nil [], .sl .nil []] := by kernel_rfl
@[go_sem] theorem sz_loc : tSize Tryz.prog 83 = some 4 := by kernel_rfl
@[go_sem] theorem ag_loc : tAgg Tryz.prog 83 = some true := by kernel_rfl
@[go_sem] theorem fl_sta0 : tField Tryz.prog 26 0 = some (0, 1, false) := by kernel_rfl
@[go_sem] theorem fl_sta1 : tField Tryz.prog 26 1 = some (1, 1, false) := by kernel_rfl
@[go_sem] theorem fl_sta2 : tField Tryz.prog 26 2 = some (2, 1, false) := by kernel_rfl
@[go_sem] theorem bl_sta : tBuild Tryz.prog 26 = some ([(0, 1), (1, 1), (2, 1)], [.lit (.bool false), .sl .nil [], .sl .nil []]) := by kernel_rfl
@[go_sem] theorem zr_sta : tZero Tryz.prog 26 = some [.lit (.bool false), .sl .nil [], .sl .nil []] := by kernel_rfl
@[go_sem] theorem sz_sta : tSize Tryz.prog 26 = some 3 := by kernel_rfl
@[go_sem] theorem ag_sta : tAgg Tryz.prog 26 = some true := by kernel_rfl
@[go_sem] theorem fl_opd0 : tField Tryz.prog 48 0 = some (0, 1, false) := by kernel_rfl
@[go_sem] theorem fl_opd1 : tField Tryz.prog 48 1 = some (1, 1, false) := by kernel_rfl
@[go_sem] theorem fl_opd2 : tField Tryz.prog 48 2 = some (2, 1, false) := by kernel_rfl
@[go_sem] theorem bl_opd : tBuild Tryz.prog 48 = some ([(0, 1), (1, 1), (2, 1)], [.lit (.int .i64 0), .lit (.int .i64 0), .lit (.string ⟨#[]⟩)]) := by kernel_rfl
@[go_sem] theorem zr_opd : tZero Tryz.prog 48 = some [.lit (.int .i64 0), .lit (.int .i64 0), .lit (.string ⟨#[]⟩)] := by kernel_rfl
@[go_sem] theorem sz_opd : tSize Tryz.prog 48 = some 3 := by kernel_rfl
@[go_sem] theorem ag_opd : tAgg Tryz.prog 48 = some true := by kernel_rfl
@[go_sem] theorem fl_stm0 : tField Tryz.prog 31 0 = some (0, 1, false) := by kernel_rfl
@[go_sem] theorem fl_stm1 : tField Tryz.prog 31 1 = some (1, 1, false) := by kernel_rfl
@[go_sem] theorem fl_stm2 : tField Tryz.prog 31 2 = some (2, 1, false) := by kernel_rfl
@[go_sem] theorem fl_stm3 : tField Tryz.prog 31 3 = some (3, 1, false) := by kernel_rfl
@[go_sem] theorem fl_stm4 : tField Tryz.prog 31 4 = some (4, 1, false) := by kernel_rfl
@[go_sem] theorem fl_stm5 : tField Tryz.prog 31 5 = some (5, 1, false) := by kernel_rfl
@[go_sem] theorem fl_stm6 : tField Tryz.prog 31 6 = some (6, 1, false) := by kernel_rfl
@[go_sem] theorem fl_stm7 : tField Tryz.prog 31 7 = some (7, 1, false) := by kernel_rfl
@[go_sem] theorem bl_stm : tBuild Tryz.prog 31 = some ([(0, 1), (1, 1), (2, 1), (3, 1), (4, 1), (5, 1), (6, 1), (7, 1)], [.lit (.int .i64 0), .lit (.string ⟨#[]⟩), .lit (.string ⟨#[]⟩), .lit (.string ⟨#[]⟩), .sl .nil [], .sl .nil [], .sl .nil [], .sl .nil []]) := by kernel_rfl
@[go_sem] theorem zr_stm : tZero Tryz.prog 31 = some [.lit (.int .i64 0), .lit (.string ⟨#[]⟩), .lit (.string ⟨#[]⟩), .lit (.string ⟨#[]⟩), .sl .nil [], .sl .nil [], .sl .nil [], .sl .nil []] := by kernel_rfl
@[go_sem] theorem sz_stm : tSize Tryz.prog 31 = some 8 := by kernel_rfl
@[go_sem] theorem ag_stm : tAgg Tryz.prog 31 = some true := by kernel_rfl
@[go_sem] theorem fl_cst0 : tField Tryz.prog 71 0 = some (0, 1, false) := by kernel_rfl
@[go_sem] theorem fl_cst1 : tField Tryz.prog 71 1 = some (1, 1, false) := by kernel_rfl
@[go_sem] theorem fl_cst2 : tField Tryz.prog 71 2 = some (2, 1, false) := by kernel_rfl
@[go_sem] theorem fl_cst3 : tField Tryz.prog 71 3 = some (3, 1, false) := by kernel_rfl
@[go_sem] theorem fl_cst4 : tField Tryz.prog 71 4 = some (4, 1, false) := by kernel_rfl
@[go_sem] theorem fl_cst5 : tField Tryz.prog 71 5 = some (5, 1, false) := by kernel_rfl
@[go_sem] theorem bl_cst : tBuild Tryz.prog 71 = some ([(0, 1), (1, 1), (2, 1), (3, 1), (4, 1), (5, 1)], [.lit (.int .i64 0), .lit (.int .i64 0), .lit (.int .i64 0), .lit (.int .i64 0), .lit (.string ⟨#[]⟩), .lit (.int .i64 0)]) := by kernel_rfl
@[go_sem] theorem zr_cst : tZero Tryz.prog 71 = some [.lit (.int .i64 0), .lit (.int .i64 0), .lit (.int .i64 0), .lit (.int .i64 0), .lit (.string ⟨#[]⟩), .lit (.int .i64 0)] := by kernel_rfl
@[go_sem] theorem sz_cst : tSize Tryz.prog 71 = some 6 := by kernel_rfl
@[go_sem] theorem ag_cst : tAgg Tryz.prog 71 = some true := by kernel_rfl
@[go_sem] theorem fl_sig0 : tField Tryz.prog 74 0 = some (0, 1, false) := by kernel_rfl
@[go_sem] theorem fl_sig1 : tField Tryz.prog 74 1 = some (1, 1, false) := by kernel_rfl
@[go_sem] theorem fl_sig2 : tField Tryz.prog 74 2 = some (2, 1, false) := by kernel_rfl
@[go_sem] theorem bl_sig : tBuild Tryz.prog 74 = some ([(0, 1), (1, 1), (2, 1)], [.lit (.string ⟨#[]⟩), .lit (.int .i64 0), .sl .nil []]) := by kernel_rfl
@[go_sem] theorem zr_sig : tZero Tryz.prog 74 = some [.lit (.string ⟨#[]⟩), .lit (.int .i64 0), .sl .nil []] := by kernel_rfl
@[go_sem] theorem sz_sig : tSize Tryz.prog 74 = some 3 := by kernel_rfl
@[go_sem] theorem ag_sig : tAgg Tryz.prog 74 = some true := by kernel_rfl
@[go_sem] theorem fl_doer0 : tField Tryz.prog 99 0 = some (0, 1, false) := by kernel_rfl
@[go_sem] theorem fl_doer1 : tField Tryz.prog 99 1 = some (1, 3, true) := by kernel_rfl
@[go_sem] theorem fl_doer2 : tField Tryz.prog 99 2 = some (4, 8, true) := by kernel_rfl
@[go_sem] theorem fl_doer3 : tField Tryz.prog 99 3 = some (12, 1, false) := by kernel_rfl
@[go_sem] theorem fl_doer4 : tField Tryz.prog 99 4 = some (13, 1, false) := by kernel_rfl
@[go_sem] theorem fl_doer5 : tField Tryz.prog 99 5 = some (14, 1, false) := by kernel_rfl
@[go_sem] theorem bl_doer : tBuild Tryz.prog 99 = some ([(0, 1), (1, 3), (4, 8), (12, 1), (13, 1), (14, 1)], [.sl .nil [], .lit (.bool false), .sl .nil [], .sl .nil [], .lit (.int .i64 0), .lit (.string ⟨#[]⟩), .lit (.string ⟨#[]⟩), .lit (.string ⟨#[]⟩), .sl .nil [], .sl .nil [], .sl .nil [], .sl .nil [], .lit (.int .i64 0), .sl .nil [], .lit (.int .i64 0)]) := by kernel_rfl
@[go_sem] theorem zr_doer : tZero Tryz.prog 99 = some [.sl .nil [], .lit (.bool false), .sl .nil [], .sl .nil [], .lit (.int .i64 0), .lit (.string ⟨#[]⟩), .lit (.string ⟨#[]⟩), .lit (.string ⟨#[]⟩), .sl .nil [], .sl .nil [], .sl .nil [], .sl .nil [], .lit (.int .i64 0), .sl .nil [], .lit (.int .i64 0)] := by kernel_rfl
@[go_sem] theorem sz_doer : tSize Tryz.prog 99 = some 15 := by kernel_rfl
@[go_sem] theorem ag_doer : tAgg Tryz.prog 99 = some true := by kernel_rfl
@[go_sem] theorem fl_at0 : tField Tryz.prog 45 0 = some (0, 8, true) := by kernel_rfl
@[go_sem] theorem fl_at1 : tField Tryz.prog 45 1 = some (8, 1, false) := by kernel_rfl
@[go_sem] theorem bl_at : tBuild Tryz.prog 45 = some ([(0, 8), (8, 1)], [.lit (.int .i64 0), .lit (.string ⟨#[]⟩), .lit (.string ⟨#[]⟩), .lit (.string ⟨#[]⟩), .sl .nil [], .sl .nil [], .sl .nil [], .sl .nil [], .lit (.int .i64 0)]) := by kernel_rfl
@[go_sem] theorem zr_at : tZero Tryz.prog 45 = some [.lit (.int .i64 0), .lit (.string ⟨#[]⟩), .lit (.string ⟨#[]⟩), .lit (.string ⟨#[]⟩), .sl .nil [], .sl .nil [], .sl .nil [], .sl .nil [], .lit (.int .i64 0)] := by kernel_rfl
@[go_sem] theorem sz_at : tSize Tryz.prog 45 = some 9 := by kernel_rfl
@[go_sem] theorem ag_at : tAgg Tryz.prog 45 = some true := by kernel_rfl
@[go_sem] theorem fl_two0 : tField Tryz.prog 33 0 = some (0, 3, true) := by kernel_rfl
@[go_sem] theorem fl_two1 : tField Tryz.prog 33 1 = some (3, 3, true) := by kernel_rfl
@[go_sem] theorem fl_two2 : tField Tryz.prog 33 2 = some (6, 8, true) := by kernel_rfl
@[go_sem] theorem fl_two3 : tField Tryz.prog 33 3 = some (14, 1, false) := by kernel_rfl
@[go_sem] theorem bl_two : tBuild Tryz.prog 33 = some ([(0, 3), (3, 3), (6, 8), (14, 1)], [.lit (.bool false), .sl .nil [], .sl .nil [], .lit (.bool false), .sl .nil [], .sl .nil [], .lit (.int .i64 0), .lit (.string ⟨#[]⟩), .lit (.string ⟨#[]⟩), .lit (.string ⟨#[]⟩), .sl .nil [], .sl .nil [], .sl .nil [], .sl .nil [], .lit (.int .i64 0)]) := by kernel_rfl
@[go_sem] theorem zr_two : tZero Tryz.prog 33 = some [.lit (.bool false), .sl .nil [], .sl .nil [], .lit (.bool false), .sl .nil [], .sl .nil [], .lit (.int .i64 0), .lit (.string ⟨#[]⟩), .lit (.string ⟨#[]⟩), .lit (.string ⟨#[]⟩), .sl .nil [], .sl .nil [], .sl .nil [], .sl .nil [], .lit (.int .i64 0)] := by kernel_rfl
@[go_sem] theorem sz_two : tSize Tryz.prog 33 = some 15 := by kernel_rfl
@[go_sem] theorem ag_two : tAgg Tryz.prog 33 = some true := by kernel_rfl
@[go_sem] theorem el_sAtm : tElem Tryz.prog 50 = some (81, 2, 16) := by kernel_rfl
@[go_sem] theorem zo_sAtm : zeroOk Tryz.prog 81 2 = true := by kernel_rfl
@[go_sem] theorem el_sBnd : tElem Tryz.prog 23 = some (76, 2, 40) := by kernel_rfl
@[go_sem] theorem zo_sBnd : zeroOk Tryz.prog 76 2 = true := by kernel_rfl
@[go_sem] theorem el_sFld : tElem Tryz.prog 77 = some (85, 3, 48) := by kernel_rfl
@[go_sem] theorem zo_sFld : zeroOk Tryz.prog 85 3 = true := by kernel_rfl
@[go_sem] theorem el_sLoc : tElem Tryz.prog 24 = some (83, 4, 64) := by kernel_rfl
@[go_sem] theorem zo_sLoc : zeroOk Tryz.prog 83 4 = true := by kernel_rfl
@[go_sem] theorem el_sOpd : tElem Tryz.prog 27 = some (48, 3, 32) := by kernel_rfl
@[go_sem] theorem zo_sOpd : zeroOk Tryz.prog 48 3 = true := by kernel_rfl
@[go_sem] theorem el_sStm : tElem Tryz.prog 29 = some (31, 8, 152) := by kernel_rfl
@[go_sem] theorem zo_sStm : zeroOk Tryz.prog 31 8 = true := by kernel_rfl
@[go_sem] theorem el_sCst : tElem Tryz.prog 38 = some (71, 6, 56) := by kernel_rfl
@[go_sem] theorem zo_sCst : zeroOk Tryz.prog 71 6 = true := by kernel_rfl
@[go_sem] theorem el_sSig : tElem Tryz.prog 22 = some (74, 3, 48) := by kernel_rfl
@[go_sem] theorem zo_sSig : zeroOk Tryz.prog 74 3 = true := by kernel_rfl
@[go_sem] theorem sz_sAtm : tSize Tryz.prog 50 = some 1 := by kernel_rfl
@[go_sem] theorem ag_sAtm : tAgg Tryz.prog 50 = some false := by kernel_rfl
@[go_sem] theorem zr_sAtm : tZero Tryz.prog 50 = some [.sl .nil []] := by kernel_rfl
@[go_sem] theorem sz_sBnd : tSize Tryz.prog 23 = some 1 := by kernel_rfl
@[go_sem] theorem ag_sBnd : tAgg Tryz.prog 23 = some false := by kernel_rfl
@[go_sem] theorem zr_sBnd : tZero Tryz.prog 23 = some [.sl .nil []] := by kernel_rfl
@[go_sem] theorem sz_sFld : tSize Tryz.prog 77 = some 1 := by kernel_rfl
@[go_sem] theorem ag_sFld : tAgg Tryz.prog 77 = some false := by kernel_rfl
@[go_sem] theorem zr_sFld : tZero Tryz.prog 77 = some [.sl .nil []] := by kernel_rfl
@[go_sem] theorem sz_sLoc : tSize Tryz.prog 24 = some 1 := by kernel_rfl
@[go_sem] theorem ag_sLoc : tAgg Tryz.prog 24 = some false := by kernel_rfl
@[go_sem] theorem zr_sLoc : tZero Tryz.prog 24 = some [.sl .nil []] := by kernel_rfl
@[go_sem] theorem sz_sOpd : tSize Tryz.prog 27 = some 1 := by kernel_rfl
@[go_sem] theorem ag_sOpd : tAgg Tryz.prog 27 = some false := by kernel_rfl
@[go_sem] theorem zr_sOpd : tZero Tryz.prog 27 = some [.sl .nil []] := by kernel_rfl
@[go_sem] theorem sz_sStm : tSize Tryz.prog 29 = some 1 := by kernel_rfl
@[go_sem] theorem ag_sStm : tAgg Tryz.prog 29 = some false := by kernel_rfl
@[go_sem] theorem zr_sStm : tZero Tryz.prog 29 = some [.sl .nil []] := by kernel_rfl
@[go_sem] theorem sz_sCst : tSize Tryz.prog 38 = some 1 := by kernel_rfl
@[go_sem] theorem ag_sCst : tAgg Tryz.prog 38 = some false := by kernel_rfl
@[go_sem] theorem zr_sCst : tZero Tryz.prog 38 = some [.sl .nil []] := by kernel_rfl
@[go_sem] theorem sz_sSig : tSize Tryz.prog 22 = some 1 := by kernel_rfl
@[go_sem] theorem ag_sSig : tAgg Tryz.prog 22 = some false := by kernel_rfl
@[go_sem] theorem zr_sSig : tZero Tryz.prog 22 = some [.sl .nil []] := by kernel_rfl
@[go_sem] theorem sz_sStr : tSize Tryz.prog 28 = some 1 := by kernel_rfl
@[go_sem] theorem ag_sStr : tAgg Tryz.prog 28 = some false := by kernel_rfl
@[go_sem] theorem zr_sStr : tZero Tryz.prog 28 = some [.sl .nil []] := by kernel_rfl
@[go_sem] theorem sz_pDoer : tSize Tryz.prog 96 = some 1 := by kernel_rfl
@[go_sem] theorem ag_pDoer : tAgg Tryz.prog 96 = some false := by kernel_rfl
@[go_sem] theorem zr_pDoer : tZero Tryz.prog 96 = some [.lit (.pointer none)] := by kernel_rfl
@[go_sem] theorem sz_sInt : tSize Tryz.prog 141 = some 1 := by kernel_rfl
@[go_sem] theorem ag_sInt : tAgg Tryz.prog 141 = some false := by kernel_rfl
@[go_sem] theorem zr_sInt : tZero Tryz.prog 141 = some [.sl .nil []] := by kernel_rfl
end Go.Proofs.YtnoahchdmkpleaaGreat.VA

/-! Sf1 -/
namespace Go.Proofs
open Go.Shelf
def Tryz.sortAtom_ren : Go.Shelf.Ren := ⟨fun | 6 => 104 | 15 => 151 | 14 => 150 | 28 => 199 | 29 => 200 | 20 => 191 | 21 => 192 | 22 => 193 | 23 => 194 | 24 => 195 | 25 => 196 | 26 => 197 | 27 => 198 | 46 => 216 | 47 => 217 | 48 => 218 | 49 => 219 | 50 => 220 | 57 => 234 | n => n, fun | 22 => 50 | 24 => 81 | 25 => 116 | 3 => 3 | 39 => 173 | 0 => 0 | 53 => 212 | 55 => 175 | 4 => 4 | 46 => 206 | 45 => 205 | 50 => 157 | 5 => 5 | 9 => 9 | 66 => 223 | 70 => 227 | 76 => 237 | 77 => 238 | n => n, fun | n => n⟩
theorem Tryz.sortAtom : Go.Proofs.SlLaysF0.n6 Tryz.prog Tryz.sortAtom_ren := {
 mixed := by kernel_rfl
 f6 := ⟨Tryz.f104.name, by decide, Tryz.func104.trans (congrArg some (by kernel_rfl))⟩
 f14 := ⟨Tryz.f150.name, by decide, Tryz.func150.trans (congrArg some (by kernel_rfl))⟩
 f15 := Tryz.func151.trans (congrArg some (by kernel_rfl))
 f20 := ⟨Tryz.f191.name, by decide, Tryz.func191.trans (congrArg some (by kernel_rfl))⟩
 f21 := ⟨Tryz.f192.name, by decide, Tryz.func192.trans (congrArg some (by kernel_rfl))⟩
 f22 := ⟨Tryz.f193.name, by decide, Tryz.func193.trans (congrArg some (by kernel_rfl))⟩
 f23 := ⟨Tryz.f194.name, by decide, Tryz.func194.trans (congrArg some (by kernel_rfl))⟩
 f24 := ⟨Tryz.f195.name, by decide, Tryz.func195.trans (congrArg some (by kernel_rfl))⟩
 f25 := ⟨Tryz.f196.name, by decide, Tryz.func196.trans (congrArg some (by kernel_rfl))⟩
 f26 := ⟨Tryz.f197.name, by decide, Tryz.func197.trans (congrArg some (by kernel_rfl))⟩
 f27 := ⟨Tryz.f198.name, by decide, Tryz.func198.trans (congrArg some (by kernel_rfl))⟩
 f28 := Tryz.func199.trans (congrArg some (by kernel_rfl))
 f29 := Tryz.func200.trans (congrArg some (by kernel_rfl))
 f46 := ⟨Tryz.f216.name, by decide, Tryz.func216.trans (congrArg some (by kernel_rfl))⟩
 f47 := Tryz.func217.trans (congrArg some (by kernel_rfl))
 f48 := Tryz.func218.trans (congrArg some (by kernel_rfl))
 f49 := ⟨Tryz.f219.name, by decide, Tryz.func219.trans (congrArg some (by kernel_rfl))⟩
 f50 := ⟨Tryz.f220.name, by decide, Tryz.func220.trans (congrArg some (by kernel_rfl))⟩
 f57 := ⟨Tryz.f234.name, by decide, Tryz.func234.trans (congrArg some (by kernel_rfl))⟩
 t0 := Tryz.underlying0
 a0 := Tryz.isAgg0
 z0 := Tryz.sizeOf0
 v0 := Tryz.zeroValue0
 t3 := Tryz.underlying3
 a3 := Tryz.isAgg3
 z3 := Tryz.sizeOf3
 v3 := Tryz.zeroValue3
 t4 := Tryz.underlying4
 a4 := Tryz.isAgg4
 z4 := Tryz.sizeOf4
 v4 := Tryz.zeroValue4
 t5 := Tryz.underlying5
 a5 := Tryz.isAgg5
 z5 := Tryz.sizeOf5
 v5 := Tryz.zeroValue5
 t9 := Tryz.underlying9
 a9 := Tryz.isAgg9
 z9 := Tryz.sizeOf9
 v9 := Tryz.zeroValue9
 t22 := Tryz.underlying50
 a22 := Tryz.isAgg50
 z22 := Tryz.sizeOf50
 v22 := Tryz.zeroValue50
 t25 := Tryz.underlying116
 a25 := Tryz.isAgg116
 z25 := Tryz.sizeOf116
 v25 := Tryz.zeroValue116
 t39 := Tryz.underlying173
 a39 := Tryz.isAgg173
 z39 := Tryz.sizeOf173
 v39 := Tryz.zeroValue173
 t45 := Tryz.underlying205
 a45 := Tryz.isAgg205
 z45 := Tryz.sizeOf205
 v45 := Tryz.zeroValue205
 t46 := Tryz.underlying206
 a46 := Tryz.isAgg206
 z46 := Tryz.sizeOf206
 v46 := Tryz.zeroValue206
 t50 := Tryz.underlying157
 a50 := Tryz.isAgg157
 z50 := Tryz.sizeOf157
 v50 := Tryz.zeroValue157
 t53 := Tryz.underlying212
 a53 := Tryz.isAgg212
 z53 := Tryz.sizeOf212
 v53 := Tryz.zeroValue212
 t55 := Tryz.underlying175
 a55 := Tryz.isAgg175
 z55 := Tryz.sizeOf175
 v55 := Tryz.zeroValue175
 t66 := Tryz.underlying223
 a66 := Tryz.isAgg223
 z66 := Tryz.sizeOf223
 v66 := Tryz.zeroValue223
 t70 := Tryz.underlying227
 a70 := Tryz.isAgg227
 z70 := Tryz.sizeOf227
 v70 := Tryz.zeroValue227
 t76 := Tryz.underlying237
 a76 := Tryz.isAgg237
 z76 := Tryz.sizeOf237
 v76 := Tryz.zeroValue237
 t77 := Tryz.underlying238
 a77 := Tryz.isAgg238
 z77 := Tryz.sizeOf238
 v77 := Tryz.zeroValue238 }
end Go.Proofs

/-! Sf3 -/
namespace Go.Proofs.YtnoahchdmkpleaaGreat.VA
open Go Go.RowKit Go.Lib Go.Sort
attribute [local go_sem] Nat.add_eq_left Nat.left_eq_add true_and and_true ite_true if_false Int.cast_ofNat_Int eq_self Nat.add_assoc Option.some.injEq decide_true decide_false Bool.not_true Bool.not_false List.size_toArray List.length_cons List.length_nil
set_option linter.unusedSimpArgs false
set_option maxRecDepth 100000

def orInt (a b : Int) : Int := if a ≠ 0 then a else b
def cmpA (x y : Int × Int) : Int := orInt (compareInt x.1 y.1) (compareInt x.2 y.2)
def encA (x : Int × Int) : List Value := [.int .i64 x.1, .int .i64 x.2]
def avA (x : Int × Int) : List AV := [.lit (.int .i64 x.1), .lit (.int .i64 x.2)]
/-- The table for atoms.Compare. -/
noncomputable def cfg0 : Cfg := mkC Tryz.prog [157, 114, 113, 72] [] [] [] []
theorem cfg0_ok : CfgOk Tryz.prog Cond.none cfg0 := mkC_ok (by kernel_rfl) (by kernel_rfl) (by simp) (by simp)
theorem c_nan (x : Int) (H : Heap) : calls Tryz.prog cfg0 157 [.lit (.int .i64 x)] H = some (.ret (.lit (.bool false)) H) := by
 refine calls_pure (fn := Tryz.f157) rfl rfl rfl rfl rfl ?_ H
 have rs : Tryz.f157.results.toList = [.tmp 2] := rfl
 have e1 : decide (x = x) = true := by simp
 simp only [go_sem, simprocAttr, rs, e1]
theorem c_cmpInt (x y : Int) (H : Heap) : calls Tryz.prog cfg0 114 [.lit (.int .i64 x), .lit (.int .i64 y)] H = some (.ret (.lit (.int .i64 (compareInt x y))) H) := by
 refine calls_pure (fn := Tryz.f114) rfl rfl rfl rfl rfl ?_ H
 have rs : Tryz.f114.results.toList = [.tmp 4] := rfl
 rcases Int.lt_trichotomy x y with h | h | h
 ·have e1 : decide (x < y) = true := by simpa using h
  have e3 : compareInt x y = -1 := by simp [compareInt, h]
  simp only [go_sem, simprocAttr, rs, c_nan, e1, e3]
 ·subst h
  have e1 : decide (x < x) = false := by simp
  have e3 : compareInt x x = 0 := by simp [compareInt]
  simp only [go_sem, simprocAttr, rs, c_nan, e1, e3]
 ·have e1 : decide (x < y) = false := by simp; omega
  have e2 : decide (y < x) = true := by simpa using h
  have e3 : compareInt x y = 1 := by simp [compareInt, h]; omega
  simp only [go_sem, simprocAttr, rs, c_nan, e1, e2, e3]
@[go_sem] theorem iad_one (t : TypeId) (n b : Nat) (o : Own) (x : List AV) (e : List AV) (es : List (List AV)) : iad (some (t, n, b)) (.sl o (x :: e :: es)) (some 1) = if e.length = n then some (.ep e) else none := rfl
theorem c_or (x y : Int) (o : Own) (H : Heap) : calls Tryz.prog cfg0 113 [.sl o [[.lit (.int .i64 x)], [.lit (.int .i64 y)]]] H = some (.ret (.lit (.int .i64 (orInt x y))) H) := by
 refine calls_pure (fn := Tryz.f113) rfl rfl rfl rfl rfl ?_ H
 have rs : Tryz.f113.results.toList = [.tmp 2] := rfl
 have d1 : decide ((0 : Int) < 2) = true := rfl
 have d2 : decide ((1 : Int) < 2) = true := rfl
 have d3 : decide ((2 : Int) < 2) = false := rfl
 have w1 : IntKind.i64.wrap 1 = 1 := by decide
 have w2 : IntKind.i64.wrap 2 = 2 := by decide
 simp only [go_sem, simprocAttr, rs]
 rw [W_loop]
 by_cases hx : x = 0
 ·subst hx
  have e0 : decide ((0 : Int) = 0) = true := rfl
  have ho : orInt 0 y = y := by simp [orInt]
  simp only [go_sem, simprocAttr, rs, d1, e0]
  rw [W_loop]
  by_cases hy : y = 0
  ·subst hy
   have ho : orInt 0 0 = 0 := by simp [orInt]
   simp only [go_sem, simprocAttr, rs, w1, d2, e0]
   rw [W_loop]
   simp only [go_sem, simprocAttr, rs, w2, d3, ho]
  ·have e1 : decide (y = 0) = false := by simpa using hy
   simp only [go_sem, simprocAttr, rs, w1, d2, e1, ho]
 ·have e1 : decide (x = 0) = false := by simpa using hx
  have ho : orInt x y = x := by simp [orInt, hx]
  simp only [go_sem, simprocAttr, rs, d1, e1, ho]
@[go_sem] theorem bs2_int (x y : Int) : aBuildSlice Tryz.prog 141 2 [(0, .lit (.int .i64 x)), (1, .lit (.int .i64 y))] = some (.sl .ex [[.lit (.int .i64 x)], [.lit (.int .i64 y)]]) := by
 simp [aBuildSlice, el_ints, zr_int, aFill, chunk, AV.cells, AV.one, List.replicate_succ, Value.oneCell']
theorem c_compare (x y : Int × Int) (H : Heap) : calls Tryz.prog cfg0 72 [.agg (avA x), .agg (avA y)] H = some (.ret (.lit (.int .i64 (cmpA x y))) H) := by
 refine calls_pure (fn := Tryz.f72) rfl rfl rfl rfl rfl ?_ H
 have rs : Tryz.f72.results.toList = [.tmp 4] := rfl
 have i1 : cfg0.imp 114 = false := rfl
 have i2 : cfg0.imp 113 = false := rfl
 unfold cmpA avA
 simp only [go_sem, simprocAttr, rs]
 refine W_draw [(1, 3), (1, 6), (3, 6), (4, 6), (1, 8), (3, 8), (4, 8), (6, 8)] (by kernel_rfl) ?_
 simp only [go_sem, simprocAttr, rs, c_cmpInt, c_or, i1, i2]
theorem cmpAtom (x y : Int × Int) (W : World) : Calls Tryz.prog 72 #[.agg #[.int .i64 x.1, .int .i64 x.2], .agg #[.int .i64 y.1, .int .i64 y.2]] W fun e w' =>
  e = .returned (.int .i64 (cmpA x y)) ∧ ∃ q os', w' = grow (W.drewN q) os' := by
 have ha : ∀ z : Int × Int, Rel (ghost W) W (.agg (avA z)) (.agg #[.int .i64 z.1, .int .i64 z.2]) := fun z => Rel.mk_agg (RelL.cons (.lit _) (RelL.cons (.lit _) (RelL.nil _ _)))
 exact calls_grow cfg0_ok trivial (c_compare x y Heap.empty) (RelL.cons (ha x) (RelL.cons (ha y) (RelL.nil _ _)))
end Go.Proofs.YtnoahchdmkpleaaGreat.VA

/-! In1 -/
namespace Go.Proofs.YtnoahchdmkpleaaGreat.VA
open Go Go.RowKit
set_option linter.unusedSimpArgs false

theorem run_overlaps_row {P : Program} (w : World) (tS tR e : TypeId) (ht : P.underlying tS = some (.slice e)) (size : Nat) (hz : ∀ w, (sizeOf e).run P w = .ok size w)
  (a b : Addr) (la ca lb cb : Nat) (hne : a.block ≠ b.block) (x : Value) (hca : w.cell? a = some x) (vs : Array Value) (t : TypeId) (hb : w.heap[b.block]? = some (.cells vs t (0, 0))) (h0 : 0 < vs.size) :
  (Extern.SlicesOverlaps.overlaps #[tS, tS] #[tR] #[.slice (some a) la ca, .slice (some b) lb cb]).run P w = .ok (.bool false) w := by
 have hnb : (a.block != b.block) = true := by simpa using hne
 have hnb' : (a.block == b.block) = false := by simpa using hne
 have hsb : w.shape? b.block = some (t, vs.size) := by simp [World.shape?, hb]
 have hfb : w.frozen? b = false := by simp [World.frozen?, hb]
 have hfe : w.frozen? { block := b.block, off := vs.size } = false := by simp [World.frozen?, hb]
 obtain ⟨tA, kA, hsa⟩ : ∃ tA kA, w.shape? a.block = some (tA, kA + 1) := by
  unfold World.cell? at hca
  split at hca
  ·rename_i c t' fr hh
   have h0 : 0 < c.size := by
    split at hca
    ·cases hca
    ·have := (Array.getElem?_eq_some_iff.1 hca).1; omega
   exact ⟨t', c.size - 1, by simp [World.shape?, hh]; omega⟩
  ·cases hca
 change Sem.run P (α := Value) (do
  let some t := (#[tS, tS] : Array TypeId)[0]? | stuck "slices.overlaps: no parameter types"
  let .slice elem ← underlying t | stuck "slices.overlaps: slice type expected"
  let size ← sizeOf elem
  match (some a : Option Addr), (some b : Option Addr) with
  | some a, some b =>
   if la = 0 ∨ lb = 0 ∨ size = 0 then pure (Value.bool false)
   else if a.block != b.block && (← frozen a) && (← frozen b) then unsupported .addressObserved
   else do
    if a.block != b.block then do
     noView a; noView b
     if ← mayBeOne a b then return Value.bool ((← choose (.extern "sameAddr.stringBytes" 2)) == 1)
    pure (Value.bool (a.block == b.block && a.off < b.off + lb * size && b.off < a.off + la * size))
  | _, _ => pure (Value.bool false)) w = _
 by_cases hq : la = 0 ∨ lb = 0 ∨ size = 0
 ·simp [run_underlying ht, hz, hq]
 ·obtain ⟨k, hk⟩ : ∃ k, vs.size = k + 1 := ⟨vs.size - 1, by omega⟩
  rw [hk] at hsb hfe
  cases hfa : w.frozen? a <;> cases hfz : w.frozen? { block := a.block, off := kA + 1 } <;>
   simp [run_underlying ht, hz, hq, hnb, hnb', frozen, noView, viewAt, mayBeOne, stringish, shape, Sem.run, hsa, hsb, hfa, hfb, hfe, hfz]
/-- copy into a row, elements of any size. -/
theorem run_copy_rowK {P : Program} (w : World) (dT sT ty elem : TypeId) (i : TypeInfo) (g o dLen dCap : Nat) (a : Addr) (sLen sCap n : Nat) (cur : Array Value) (t : TypeId) (cs : List Value)
  (hu : P.underlying dT = some (.slice elem)) (hi : P.info? elem = some i)
  (hg : w.heap[g]? = some (.cells cur t (0, 0))) (hm : Nat.min sLen dLen = n) (hn : cs.length = n * i.size)
  (hsrc : ∀ j v, cs[j]? = some v → w.cell? (a.add j) = some v) (hfit : o + cs.length ≤ cur.size) (h1 : ∀ v ∈ cs, v.oneCell' = true) :
  (Builtin.copy_ #[dT, sT] ty #[.slice (some ⟨g, o, none⟩) dLen dCap, .slice (some a) sLen sCap]).run P w =
   .ok (goInt n) (w.setRow g (cur.toList.take o ++ cs ++ cur.toList.drop (o + cs.length)).toArray) := by
 have hf := run_firstCells_some (P := P) w i.size n a sLen sCap cs hn hsrc
 have hst := run_storeCells_at P g o t cs 0 cur w hg (by simpa using hfit) h1
 simp only [Nat.add_zero] at hst
 simp [Builtin.copy_, run_underlying hu, Builtin.lenOf, sizeOf, typeInfo, hi, hm, hf, hst]
theorem wp_copy_runI {P : Program} (w : World) {o : Oper} {a : Act} {K : Act → World → Prop} {Q : Exit → Act → World → Prop} (d s : Operand) (t t' : TypeId)
  (ho : o.op = .call { callee := .builtin .copy, args := #[d, s], argTypes := #[t, t'] }) (v u : Value) (hd : a.eval d = v) (hs : a.eval s = u) {v' : Value} {w' : World}
  (hr : (Builtin.copy_ #[t, t'] o.type #[v, u]).run P w = .ok v' w') (h : K (a.put o.dst v') w') : o.wp P a w K Q := by
 unfold Oper.wp execOp
 simp only [ho, resolve, invoke, builtin, Sem.run_bind, Sem.run_pure, Result.andThen_ok, List.map_toArray, List.map_cons, List.map_nil, hd, hs, hr]
 exact h
theorem wpList_copy_runI {P : Program} (w : World) {ops : Array Oper} {rest : List Oper} {o : Oper} {a : Act} {Q : Exit → Act → World → Prop} (hgd : o.guard = none) (d s : Operand) (t t' : TypeId)
  (ho : o.op = .call { callee := .builtin .copy, args := #[d, s], argTypes := #[t, t'] }) (v u : Value) (hd : a.eval d = v) (hs : a.eval s = u) {v' : Value} {w' : World}
  (hr : (Builtin.copy_ #[t, t'] o.type #[v, u]).run P w = .ok v' w') (h : wpList P ops Q rest (a.put o.dst v') w') : wpList P ops Q (o :: rest) a w :=
 wpList_plain hgd fun _ hK => wp_copy_runI w d s t t' ho v u hd hs hr (hK _ _ h)
theorem step_copy_runI {P : Program} {ops : Array Oper} {o : Oper} {a : Act} {w : World} {K : Act → World → Prop} {Q : Exit → Act → World → Prop} {E : Prop}
  (hg : o.guard = none) (d x : Operand) (dT sT : TypeId) (hop : o.op = Op.call { callee := Callee.builtin Builtin.copy, args := #[d, x], argTypes := #[dT, sT] })
  (v u : Value) (hd : a.eval d = v) (hx : a.eval x = u) {v' : Value} {w' : World} (hr : (Builtin.copy_ #[dT, sT] o.type #[v, u]).run P w = .ok v' w') (hK : K (a.put o.dst v') w') :
  if Region.wanted o (yielded ops a.tmps) = true then Oper.wp P o a w K Q else E := by
 have hw : Region.wanted o (yielded ops a.tmps) = true := by simp [Region.wanted, hg]
 rw [if_pos hw]
 unfold Oper.wp
 simp [execOp, hop, resolve, invoke, builtin, hd, hx, hr, Result.andThen]
 exact hK
theorem alloc_setRow (w : World) (b : Nat) (h : b = w.heap.size) (c c' : Array Value) (t : TypeId) : (w.alloc (.cells c t)).setRow b c' = w.alloc (.cells c' t) := by
 subst h; exact World.setRow_alloc_new w c c' t
theorem out_set {α : Type} (l cs : List α) (o : Nat) (h : o + cs.length ≤ l.length) : (l.take o ++ cs ++ l.drop (o + cs.length)).length = l.length := by
 simp only [List.length_append, List.length_take, List.length_drop]; omega
end Go.Proofs.YtnoahchdmkpleaaGreat.VA

/-! In2 -/
namespace Go.Proofs.YtnoahchdmkpleaaGreat.VA
open Go Go.RowKit
set_option linter.unusedSimpArgs false

def insRow {α : Type} (l nv : List α) (a m : Nat) : List α := l.take a ++ nv ++ ((l.take m).drop a ++ l.drop (m + nv.length))
theorem insRow_two {α : Type} (l nv : List α) (a m : Nat) (h1 : a ≤ m) (h2 : m + nv.length ≤ l.length) :
  (l.take (a + nv.length) ++ (l.take m).drop a ++ l.drop (a + nv.length + ((l.take m).drop a).length)).take a ++ nv ++
   (l.take (a + nv.length) ++ (l.take m).drop a ++ l.drop (a + nv.length + ((l.take m).drop a).length)).drop (a + nv.length) = insRow l nv a m := by
 have e1 : ((l.take m).drop a).length = m - a := by rw [List.length_drop, List.length_take]; omega
 have e2 : (l.take (a + nv.length)).length = a + nv.length := by rw [List.length_take]; omega
 unfold insRow
 rw [e1, List.append_assoc (l.take (a + nv.length))]
 congr 1
 ·congr 1
  rw [List.take_append_of_le_length (by omega), List.take_take, Nat.min_eq_left (by omega)]
 ·rw [List.drop_append_of_le_length (by omega), List.drop_eq_nil_of_le (by omega), List.nil_append]
  congr 2; omega
theorem insRow_length {α : Type} (l nv : List α) (a m : Nat) (h1 : a ≤ m) (h2 : m + nv.length ≤ l.length) : (insRow l nv a m).length = l.length := by
 unfold insRow
 simp only [List.length_append, List.length_take, List.length_drop]; omega
/-- What slices.Insert of one element does to rows. -/
structure InsWalks (P : Program) (f : FuncId) (t e : TypeId) (sz : Nat) : Prop where
 enters : ∀ vs w, (callFunc f vs).run P w = .ok (.enter f vs) w
 shift : ∀ (b n c i vc : Nat) (ad : Addr) (vs : Array Value) (nv : List Value) (t' : TypeId) (w : World), i < n → n + 1 ≤ c → c ≤ 9223372036854775807 → w.heap[b]? = some (.cells vs t' (0, 0)) → vs.size = c * sz → nv.length = sz →
  (∀ j u, nv[j]? = some u → w.cell? (ad.add j) = some u) → (∀ u, u ∈ nv → u.oneCell' = true) → (∀ u, u ∈ vs.toList.take (n * sz) → u.oneCell' = true) → ad.block ≠ b → ad.spot = none →
  Calls P f #[.slice (some ⟨b, 0, none⟩) n c, .int .i64 i, .slice (some ad) 1 vc] w fun en w' =>
   en = .returned (.slice (some ⟨b, 0, none⟩) (n + 1) c) ∧ w' = w.drew.setRow b (insRow vs.toList nv (i * sz) (n * sz)).toArray
 grow : ∀ (b n c i vc : Nat) (ad : Addr) (vs : Array Value) (nv : List Value) (t' : TypeId) (z : Value) (w : World), i < n → n ≤ c → c < n + 1 → n + 1 ≤ 1000000000000 → ((P.info? e).bind fun i => i.zero) = some z → w.heap[b]? = some (.cells vs t' (0, 0)) → vs.size = c * sz → nv.length = sz →
  (∀ j u, nv[j]? = some u → w.cell? (ad.add j) = some u) → (∀ u, u ∈ nv → u.oneCell' = true) → (∀ u, u ∈ vs.toList.take (n * sz) → u.oneCell' = true) → ad.spot = none →
  Calls P f #[.slice (some ⟨b, 0, none⟩) n c, .int .i64 i, .slice (some ad) 1 vc] w fun en w' => ∃ G, G = grownCap w (n + 1) c e ∧
   en = .returned (.slice (some ⟨w.heap.size, 0, none⟩) (n + 1) G) ∧
   w' = w.drew.drew.alloc (.cells ((vs.toList.take (i * sz) ++ nv ++ (vs.toList.take (n * sz)).drop (i * sz)).toArray ++ Builtin.zeroCells z.cells (G - (n + 1))) e)
 fin : ∀ (a : Option Addr) (n c vc : Nat) (ad : Option Addr) (w w' : World) (q : Value), n ≤ c → (Builtin.append_ #[t, t] t #[.slice a n c, .slice ad 1 vc]).run P w = .ok q w' →
  Calls P f #[.slice a n c, .int .i64 n, .slice ad 1 vc] w fun en w'' => en = .returned q ∧ w'' = w'

/-- Insert of one element, at a place of an array, or into nothing. -/
def insB (P : Program) (t : TypeId) (args : List AV) (H : Heap) : Option (AV × List U) :=
 match args with
 | [.ar r 0 n z, .lit (.int .i64 i), .sl o [x]] =>
  if i = (n : Int) then (aAppend P t (.ar r 0 n z) (.sl o [x]) H H.next).map fun q => (q.1, q.2.1)
  else
   match tElem P t, H.get r with
   | some (e, sz, _), some cs =>
    if z = sz ∧ 0 ≤ i ∧ i < n ∧ n * sz ≤ cs.length ∧ x.length = sz ∧ 0 < sz ∧ zeroOk P e sz = true ∧ n + 1 ≤ 1000000000000 ∧ x.all AV.one = true ∧ (cs.take (n * sz)).all AV.one = true then
     some (.ar H.next 0 (n + 1) sz, [.del r, .box H.next (cs.take (i.toNat * sz) ++ x ++ (cs.take (n * sz)).drop (i.toNat * sz))])
    else none
   | _, _ => none
 | [.sl .nil [], .lit (.int .i64 i), .sl o [x]] => if i = 0 then (aAppend P t (.sl .nil []) (.sl o [x]) H H.next).map fun q => (q.1, q.2.1) else none
 | _ => none
theorem relL3 {g : Gh} {w : World} {x y z : AV} {l : List Value} (h : RelL g w [x, y, z] l) : ∃ a b c, l = [a, b, c] ∧ Rel g w x a ∧ Rel g w y b ∧ Rel g w z c := by
 obtain ⟨h1, h2⟩ := h
 match l, h1 with
 | [a, b, c], _ => exact ⟨a, b, c, rfl, h2 0 x a rfl rfl, h2 1 y b rfl rfl, h2 2 z c rfl rfl⟩
/-- A list of one element, and its block. -/
theorem one_in {g : Gh} {w : World} {o : Own} {x : List AV} {v : Value} (h : Rel g w (.sl o [x]) v) :
  ∃ b off vc nv, v = .slice (some ⟨b, off, none⟩) 1 vc ∧ nv.length = x.length ∧ (∀ j u, nv[j]? = some u → w.cell? ((⟨b, off, none⟩ : Addr).add j) = some u) ∧ RelL g w x nv ∧ (x ≠ [] → 0 < g.vis b) := by
 cases h with
 | sl o es a n cap sz f ho hn hcap hex hown hsz hone ha hr =>
  simp at hn
  subst hn
  obtain ⟨b, off, rfl, hv, hc⟩ := ha (by omega)
  have hx := hsz x (List.mem_cons_self ..)
  refine ⟨b, off, cap, (List.range sz).map f, rfl, by simp [hx], ?_, ⟨by simp [hx], fun j y u hy hu => ?_⟩, fun hne => ?_⟩
  ·intro j u hu
   rw [addr_add]
   simp only [List.getElem?_map, Option.map_eq_some_iff] at hu
   obtain ⟨a, h1, rfl⟩ := hu
   have hj : j < sz := by have := (List.getElem?_eq_some_iff.1 h1).1; simpa using this
   rw [List.getElem?_range hj] at h1
   simp at h1; subst h1
   exact hc j (by omega)
  ·have hj : j < sz := by rw [← hx]; exact (List.getElem?_eq_some_iff.1 hy).1
   rw [List.getElem?_map, List.getElem?_range hj] at hu
   simp at hu; subst hu
   have := hr 0 x j y rfl hy
   simpa using this
  ·have : 0 < sz := by rw [← hx]; exact List.length_pos_iff.2 hne
   omega
theorem appU_at (H : Heap) (k : Nat) (us : List U) : ∀ r, (appU { H with next := k } us).ho r = (appU H us).ho r ∧ (appU { H with next := k } us).isLive r = (appU H us).isLive r := by
 suffices h : ∀ (us : List U) (H : Heap), appU { H with next := k } us = { appU H us with next := k } by
  intro r; rw [h us H]; exact ⟨rfl, rfl⟩
 intro us
 induction us with
 | nil => intro H; rfl
 | cons u us ih =>
  intro H
  have : u.app { H with next := k } = { u.app H with next := k } := by cases u <;> rfl
  show appU (u.app { H with next := k }) us = { appU (u.app H) us with next := k }
  rw [this, ih]
theorem tolH_past {g g' : Gh} {H : Heap} {w w' : World} {us : List U} (ht : Top g H.next) (he : Ext g w g' w') (hi : Inv g' (appU H us) w') (hn : ∀ r, r ≠ H.next → g'.box r = g.box r ∧ g'.own r = g.own r) :
  Past H.next g w g' (appU { H with next := H.next + 1 } us) w' := by
 refine ⟨he, hi.next (fun r => (appU_at H _ us r).1) (fun r => (appU_at H _ us r).2), ?_, fun r hr => hn r (by omega), by rw [appU_next]; exact Nat.le_succ _⟩
 intro r hr
 rw [appU_next] at hr
 have hr' : H.next + 1 ≤ r := hr
 rw [(hn r (by omega)).1, (hn r (by omega)).2]
 exact ht r (by omega)
theorem fresh_next {g : Gh} {H : Heap} {w : World} (hi : Inv g H w) (ht : Top g H.next) : Fresh g H H.next := hi.fresh_of (ht _ (Nat.le_refl _)).1 (ht _ (Nat.le_refl _)).2
theorem insB_ok {P : Program} {C : Cond} {f : FuncId} {t e : TypeId} {sz by_ : Nat} (hW : InsWalks P f t e sz) (het : tElem P t = some (e, sz, by_)) : TolHOk P C f (insB P t) := by
 refine ⟨hW.enters, fun args H v us h g w vs hC hi ht hr => ?_⟩
 have hfr := fresh_next hi ht
 obtain ⟨hu, info, hinfo, hsz, hbb⟩ := tElem_spec het
 unfold insB at h
 split at h
 ·rename_i r n z i o x
  obtain ⟨a1, a2, a3, hvs, r1, r2, r3⟩ := relL3 hr
  have hvs' : vs = #[a1, a2, a3] := by rw [← Array.toArray_toList (xs := vs), hvs]
  subst hvs'
  have hi2 := r2.lit_inv
  subst hi2
  have r1' := r1
  have r3' := r3
  obtain ⟨b, cap, m0, off, c, e1, rfl, hbx, hown, hnc, hcc, hoff⟩ := r1.ar_inv
  obtain ⟨vb, voff, vc, nv, rfl, hnl, hnc', hnr, hvis⟩ := one_in r3
  split at h
  ·rename_i hin
   subst hin
   simp only [Option.map_eq_some_iff] at h
   obtain ⟨q, hq, he⟩ := h
   obtain ⟨y, us', rs⟩ := q
   simp only [Prod.mk.injEq] at he
   obtain ⟨rfl, rfl⟩ := he
   obtain ⟨g', w', u, p1, p2, p3, p4, p5⟩ := aAppend_sound t hq hi hfr r1' r3'
   refine (hW.fin _ n c vc _ w w' u hnc p1).mono fun en w'' hp => ?_
   obtain ⟨rfl, rfl⟩ := hp
   exact ⟨u, g', rfl, tolH_past ht p2 p3 p5, p4⟩
  ·rename_i hin
   split at h
   ·rename_i e' sz' _ cs het' hcs
    rw [het] at het'
    simp only [Option.some.injEq, Prod.mk.injEq] at het'
    obtain ⟨rfl, rfl, rfl⟩ := het'
    split at h
    ·rename_i hc0
     obtain ⟨rfl, h0, hlt, hcl, hxl, hpos, hz, hlen, hxo, hco⟩ := hc0
     simp only [Option.some.injEq, Prod.mk.injEq] at h
     obtain ⟨rfl, rfl⟩ := h
     obtain ⟨k, rfl⟩ : ∃ k : Nat, i = (k : Int) := ⟨i.toNat, by omega⟩
     have hkn : k < n := by omega
     simp only [Int.toNat_natCast]
     obtain ⟨info', zv, hinfo', hiz, hzsz⟩ := zeroOk_spec hz
     obtain ⟨b', vs, t', q1, q2, q3⟩ := hi.boxE hcs hbx
     rw [hbx] at q1
     simp at q1; subst q1
     obtain ⟨ha1, us0, ha2, ha3⟩ := hi.arr r b m0 cap e1 z (by rw [hcs]; rfl) hbx hown
     rw [q2] at ha2
     simp only [Option.some.injEq, Obj.cells.injEq] at ha2
     obtain ⟨rfl, rfl, _⟩ := ha2
     have hcap : cap = c := by omega
     subst hcap
     have ho : off = 0 := by have := hoff (by omega); omega
     subst ho
     have hcl2 : cs.length ≤ vs.toList.length := by have := q3.1; rw [List.length_take] at this; omega
     have hvl : vs.toList.length = cap * z := by simpa using ha3
     have hmax : maxLen = 9223372036854775807 := rfl
     have hkz : k * z ≤ n * z := Nat.mul_le_mul_right z (by omega)
     have hn1 := Nat.add_mul n 1 z
     have hvb : vb ≠ b := by
      rintro rfl
      have := hi.boxB r vb (Heap.live_get hcs) hbx
      have := hvis (by intro e; subst e; simp at hxl; omega)
      omega
     have hq4 : RelL g w (cs.take (n * z)) (vs.toList.take (n * z)) := by
      have := q3.take (n * z)
      rwa [List.take_take, Nat.min_eq_left (by omega)] at this
     have hpre : RelL g w (cs.take (k * z)) (vs.toList.take (k * z)) := by
      have := q3.take (k * z)
      rwa [List.take_take, Nat.min_eq_left (by omega)] at this
     have hnv1 := relL_one hnr hxo
     have hold1 := relL_one hq4 hco
     have hnew : RelL g w (cs.take (k * z) ++ x ++ (cs.take (n * z)).drop (k * z)) (vs.toList.take (k * z) ++ nv ++ (vs.toList.take (n * z)).drop (k * z)) := (hpre.append hnr).append (hq4.drop (k * z))
     have hnewl : (vs.toList.take (k * z) ++ nv ++ (vs.toList.take (n * z)).drop (k * z)).length = (n + 1) * z := by
      simp only [List.length_append, List.length_take, List.length_drop]; omega
     by_cases hroom : n + 1 ≤ cap
     ·refine (hW.shift b n cap k vc ⟨vb, voff, none⟩ vs nv t' w hkn hroom (by omega) q2 (by simpa using hvl) (by omega) hnc' hnv1 hold1 hvb rfl).mono fun en w' hp => ?_
      obtain ⟨rfl, rfl⟩ := hp
      have hm2 := Nat.mul_le_mul_right z hroom
      have hrl : (insRow vs.toList nv (k * z) (n * z)).length = vs.toList.length := insRow_length _ _ _ _ hkz (by omega)
      obtain ⟨hd1, hd2⟩ := hi.drew
      have q2' : w.drew.heap[b]? = some (.cells vs t' (0, 0)) := q2
      obtain ⟨he, hinv⟩ := inv_arrRoom (m := n + 1) (vs' := (insRow vs.toList nv (k * z) (n * z)).toArray) (cs := cs.take (k * z) ++ x ++ (cs.take (n * z)).drop (k * z)) hd2 hfr hcs hbx hown q2' (by simpa using hrl) (by
       have e1 : (insRow vs.toList nv (k * z) (n * z)).toArray.toList.take (cs.take (k * z) ++ x ++ (cs.take (n * z)).drop (k * z)).length = vs.toList.take (k * z) ++ nv ++ (vs.toList.take (n * z)).drop (k * z) := by
        rw [hnew.1]
        unfold insRow
        simp only [← List.append_assoc]
        exact List.take_left
       rw [e1]; exact hnew.ext hd1)
      exact ⟨_, _, rfl, tolH_past (us := [.del r, .box H.next _]) ht (hd1.trans he) hinv (fun r hr => Gh.addArr_ne g H.next _ _ hr), .ar H.next 0 (n + 1) z b cap (n + 1) 0 cap t' (Gh.addArr_box ..) (Gh.addArr_own ..) hroom (by omega) (fun _ => by omega)⟩
     ·have hG := grownCap_ge w (n + 1) cap e
      have hGm := grownCap_le_maxLen w (n + 1) cap e (by rw [hmax]; omega)
      refine (hW.grow b n cap k vc ⟨vb, voff, none⟩ vs nv t' zv w hkn hnc (by omega) hlen (by rw [hinfo']; exact hiz) q2 (by simpa using hvl) (by omega) hnc' hnv1 hold1 rfl).mono fun en w' hp => ?_
      obtain ⟨G, hGe, rfl, rfl⟩ := hp
      rw [← hGe] at hG hGm
      obtain ⟨hd1, hd2⟩ := hi.drew
      obtain ⟨hd3, hd4⟩ := hd2.drew
      have hde := hd1.trans hd3
      obtain ⟨he, hinv⟩ := inv_arrNew (m := n + 1) (sz := z) (e := e) (cap := G) (vs := (vs.toList.take (k * z) ++ nv ++ (vs.toList.take (n * z)).drop (k * z)).toArray ++ Builtin.zeroCells zv.cells (G - (n + 1)))
       (cs := cs.take (k * z) ++ x ++ (cs.take (n * z)).drop (k * z)) (inv_del hd4 r) (hfr.del r) hGm (by
        rw [Array.size_append, List.size_toArray, hnewl, size_zeroCells, hzsz, ← Nat.add_mul]; congr 1; omega) (by
       have e1 : ((vs.toList.take (k * z) ++ nv ++ (vs.toList.take (n * z)).drop (k * z)).toArray ++ Builtin.zeroCells zv.cells (G - (n + 1))).toList.take (cs.take (k * z) ++ x ++ (cs.take (n * z)).drop (k * z)).length =
         vs.toList.take (k * z) ++ nv ++ (vs.toList.take (n * z)).drop (k * z) := by
        rw [hnew.1, Array.toList_append]
        exact List.take_left
       rw [e1]; exact hnew.ext hde)
      exact ⟨_, _, rfl, tolH_past (us := [.del r, .box H.next _]) ht (hde.trans he) hinv (fun r hr => Gh.addArr_ne g H.next _ _ hr), .ar H.next 0 (n + 1) z w.heap.size G (n + 1) 0 G e (Gh.addArr_box ..) (Gh.addArr_own ..) hG (by omega) (fun _ => by omega)⟩
    ·cases h
   ·cases h
 ·rename_i i o x
  obtain ⟨a1, a2, a3, hvs, r1, r2, r3⟩ := relL3 hr
  have hvs' : vs = #[a1, a2, a3] := by rw [← Array.toArray_toList (xs := vs), hvs]
  subst hvs'
  have hi2 := r2.lit_inv
  subst hi2
  have r1' := r1
  have r3' := r3
  obtain ⟨vb, voff, vc, nv, rfl, hnl, hnc', hnr, hvis⟩ := one_in r3
  split at h
  ·rename_i hin
   subst hin
   simp only [Option.map_eq_some_iff] at h
   obtain ⟨q, hq, he⟩ := h
   obtain ⟨y, us', rs⟩ := q
   simp only [Prod.mk.injEq] at he
   obtain ⟨rfl, rfl⟩ := he
   have ha1 : a1 = .slice none 0 0 := by
    cases r1 with
    | nil => rfl
    | sl o es a n cap sz f ho _ _ _ _ _ _ _ _ => exact absurd rfl ho
   subst ha1
   obtain ⟨g', w', u, p1, p2, p3, p4, p5⟩ := aAppend_sound t hq hi hfr r1' r3'
   refine (hW.fin none 0 0 vc _ w w' u (Nat.le_refl _) p1).mono fun en w'' hp => ?_
   obtain ⟨rfl, rfl⟩ := hp
   exact ⟨u, g', rfl, tolH_past ht p2 p3 p5, p4⟩
  ·cases h
 ·cases h
end Go.Proofs.YtnoahchdmkpleaaGreat.VA

/-! Sf4 -/
namespace Go.Proofs.YtnoahchdmkpleaaGreat.VA
open Go Go.Shelf Go.RowKit Go.Lib Go.Sort
set_option linter.unusedVariables false
set_option linter.unusedSimpArgs false

theorem cmpA_lt (x y : Int × Int) : ltOf cmpA x y = decide (x.1 < y.1 ∨ (x.1 = y.1 ∧ x.2 < y.2)) := by
 unfold ltOf cmpA orInt compareInt
 congr 1
 apply propext
 repeat' split
 all_goals constructor <;> intro h <;> omega
theorem cmpA_swo : SWO (ltOf cmpA) where
 irrefl x := by rw [cmpA_lt]; simp
 trans x y z h1 h2 := by rw [cmpA_lt] at *; simp only [decide_eq_true_eq] at *; omega
 ntrans x y z h1 h2 := by rw [cmpA_lt] at *; simp only [decide_eq_false_iff_not] at *; omega
theorem cmpA_total (x y : Int × Int) (h1 : ltOf cmpA x y = false) (h2 : ltOf cmpA y x = false) : x = y := by
 rw [cmpA_lt] at *
 simp only [decide_eq_false_iff_not] at *
 exact Prod.ext (by omega) (by omega)
def leA (x y : Int × Int) : Bool := !(ltOf cmpA y x)
def srt (d : List (Int × Int)) : List (Int × Int) := d.mergeSort leA
def avAs (d : List (Int × Int)) : List AV := d.flatMap avA
def valA (d : List (Int × Int)) : List Value := d.flatMap encA
theorem avAs_length (d : List (Int × Int)) : (avAs d).length = d.length * 2 := by
 induction d with
 | nil => rfl
 | cons x d ih => simp only [avAs, List.flatMap_cons, List.length_append, List.length_cons] at *; rw [ih]; simp [avA]; omega
theorem valA_length (d : List (Int × Int)) : (valA d).length = d.length * 2 := by
 induction d with
 | nil => rfl
 | cons x d ih => simp only [valA, List.flatMap_cons, List.length_append, List.length_cons] at *; rw [ih]; simp [encA]; omega
theorem avAs_rel (g : Gh) (w : World) (d : List (Int × Int)) : RelL g w (avAs d) (valA d) := by
 induction d with
 | nil => exact RelL.nil g w
 | cons x d ih =>
  have : RelL g w (avA x) (encA x) := RelL.cons (.lit _) (RelL.cons (.lit _) (RelL.nil g w))
  exact this.append ih
theorem avAs_val {g : Gh} {w : World} : ∀ {d : List (Int × Int)} {vs : List Value}, RelL g w (avAs d) vs → vs = valA d := by
 intro d
 induction d with
 | nil => intro vs h; exact List.length_eq_zero_iff.1 h.1.symm
 | cons x d ih =>
  intro vs h
  match vs, h with
  | [], h => simp [avAs, avA] at h; exact absurd h.1 (by simp)
  | [a], h => have := h.1; simp [avAs, avA] at this
  | a :: b :: vs, h =>
   have h1 : Rel g w (.lit (.int .i64 x.1)) a := h.2 0 _ _ rfl rfl
   have h2 : Rel g w (.lit (.int .i64 x.2)) b := h.2 1 _ _ rfl rfl
   have h3 : vs = valA d := ih (RelL.tail (RelL.tail (h : RelL g w (.lit (.int .i64 x.1) :: .lit (.int .i64 x.2) :: avAs d) (a :: b :: vs))))
   rw [h1.lit_inv, h2.lit_inv, h3]
   rfl
theorem valA_get : ∀ (d : List (Int × Int)) (t : Nat), t < d.length * 2 → (valA d)[t]? = some ((encA (d.toArray[t / 2]!))[t % 2]!)
 | [], t, h => by simp at h
 | x :: d, 0, _ => by simp [valA, encA]
 | x :: d, 1, _ => by simp [valA, encA]
 | x :: d, t + 2, h => by
  have e1 : (t + 2) / 2 = t / 2 + 1 := by omega
  have e2 : (t + 2) % 2 = t % 2 := by omega
  have e3 : (valA (x :: d))[t + 2]? = (valA d)[t]? := by simp [valA, encA]
  rw [e1, e2, e3, valA_get d t (by simp at h; omega)]
  simp
theorem flat_valA (d : List (Int × Int)) : flatK encA 2 d.toArray = (valA d).toArray := by
 apply Array.ext_getElem?
 intro t
 by_cases h : t < d.length * 2
 ·have h2 := valA_get d t h
  have e : (valA d).toArray[t]? = (valA d)[t]? := by simp
  rw [e, h2]
  simp [flatK, h]
 ·rw [Array.getElem?_eq_none (by simp; omega), Array.getElem?_eq_none (by simp [valA_length]; omega)]
def decA : List AV → Option (List (Int × Int))
 | [] => some []
 | .lit (.int .i64 a) :: .lit (.int .i64 b) :: l => (decA l).map ((a, b) :: ·)
 | _ => none
theorem decA_some : ∀ {cs : List AV} {d : List (Int × Int)}, decA cs = some d → cs = avAs d := by
 intro cs
 induction cs using decA.induct with
 | case1 => intro d h; simp [decA] at h; subst h; rfl
 | case2 a b l ih =>
  intro d h
  simp only [decA, Option.map_eq_some_iff] at h
  obtain ⟨d', h1, rfl⟩ := h
  rw [ih h1]; rfl
 | case3 l h1 h2 =>
  intro d h
  unfold decA at h
  split at h
  ·exact absurd rfl h1
  ·exact absurd rfl (h2 _ _ _)
  ·cases h
theorem decA_av (d : List (Int × Int)) : decA (avAs d) = some d := by
 induction d with
 | nil => rfl
 | cons x d ih =>
  show (decA (avAs d)).map _ = _
  rw [ih]; rfl
/-- slices.SortFunc(l, atoms.Compare). -/
def srtA (f : FuncId) (args : List AV) (H : Heap) : Option (AV × List U) :=
 match args with
 | [.ar r 0 n 2, .fn k []] =>
  if k = f then
   match H.get r with
   | some cs =>
    if n * 2 ≤ cs.length ∧ n ≤ 1000000000000 then
     match decA (cs.take (n * 2)) with
     | some d => some (.tup [], [.box r (avAs (srt d) ++ cs.drop (n * 2))])
     | none => none
    else none
   | none => none
  else none
 | [.sl _ [], _] => some (.tup [], [])
 | _ => none
theorem inv_grow {H : Heap} (os : List Obj) : ∀ {g : Gh} {w : World}, Inv g H w → ∃ g', Ext g w g' (grow w os.toArray) ∧ Inv g' H (grow w os.toArray) ∧ g'.box = g.box ∧ g'.own = g.own := by
 induction os with
 | nil => intro g w hi; exact ⟨g, by simpa using Ext.refl g w, by simpa using hi, rfl, rfl⟩
 | cons o os ih =>
  intro g w hi
  obtain ⟨he, hi2⟩ := inv_see hi o 0
  obtain ⟨g', h1, h2, h3, h4⟩ := ih hi2
  have e : grow (w.alloc o) os.toArray = grow w (o :: os).toArray := by
   rw [alloc_eq_grow, grow_grow]; simp
  rw [e] at h1 h2
  exact ⟨g', he.trans h1, h2, h3, h4⟩
theorem put_row {w : World} {b : Nat} {vs : Array Value} {t : TypeId} (hb : w.heap[b]? = some (.cells vs t (0, 0))) (F : List Value) (hF : F.length ≤ vs.size) :
  putRow id w b 0 F.toArray = w.setRow b (F ++ vs.toList.drop F.length).toArray := by
 unfold putRow
 rw [mapBlock_congr w b _ (fun _ => (F ++ vs.toList.drop F.length).toArray) (fun c e fr hc => by
  rw [hb] at hc
  simp only [Option.some.injEq, Obj.cells.injEq] at hc
  obtain ⟨rfl, _, _⟩ := hc
  apply Array.ext_getElem?
  intro k
  simp only [putCells, Array.getElem?_mapIdx, List.getElem?_toArray, Nat.zero_add, Nat.sub_zero, List.size_toArray, Nat.zero_le, true_and]
  by_cases hk : k < F.length
  ·rw [List.getElem?_append_left hk]
   have hk2 : k < vs.size := by omega
   simp [hk, hk2]
  ·rw [List.getElem?_append_right (by omega), List.getElem?_drop]
   have : F.length + (k - F.length) = k := by omega
   rw [this]
   simp [hk])]
 rfl
theorem relL2 {g : Gh} {w : World} {x y : AV} {l : List Value} (h : RelL g w [x, y] l) : ∃ a b, l = [a, b] ∧ Rel g w x a ∧ Rel g w y b := by
 obtain ⟨h1, h2⟩ := h
 match l, h1 with
 | [a, b], _ => exact ⟨a, b, rfl, h2 0 x a rfl rfl, h2 1 y b rfl rfl⟩
theorem ahead_drew (w : World) : ∀ n, ∃ k, Sort.ahead w n = w.drewN k := fun n => ⟨n, rfl⟩
theorem inv_ahead {g : Gh} {H : Heap} {w : World} (hi : Inv g H w) (n : Nat) : Ext g w g (Sort.ahead w n) ∧ Inv g H (Sort.ahead w n) := hi.same_heap rfl rfl rfl rfl (Nat.le_add_right _ _)
theorem srtA_ok (C : Cond) : TolHOk Tryz.prog C 104 (srtA 72) := by
 refine ⟨fun vs w => callFunc_enter (fn := Tryz.f104) (by kernel_rfl) (by kernel_rfl) rfl vs w, fun args H v us h g w vs hC hi ht hr => ?_⟩
 unfold srtA at h
 split at h
 ·rename_i r n k
  obtain ⟨a1, a2, hvs, r1, r2⟩ := relL2 hr
  have hvs' : vs = #[a1, a2] := by rw [← Array.toArray_toList (xs := vs), hvs]
  subst hvs'
  split at h
  ·rename_i hk
   subst hk
   split at h
   ·rename_i cs hcs
    split at h
    ·rename_i hle
     obtain ⟨hle, hbig⟩ := hle
     split at h
     ·rename_i d hd
      simp only [Option.some.injEq, Prod.mk.injEq] at h
      obtain ⟨rfl, rfl⟩ := h
      obtain ⟨b, cap, m0, off, c, e1, rfl, hbx, hown, hnc, hcc, hoff⟩ := r1.ar_inv
      have hcd := decA_some hd
      have hdl : d.length = n := by have := congrArg List.length hcd; rw [avAs_length, List.length_take] at this; omega
      have ha2 : a2 = .func (.func 72) #[] #[] := by
       cases r2 with
       | fn fid caps vs hl hr => simp at hl; have : vs = #[] := Array.eq_empty_of_size_eq_zero hl.symm; rw [this]
      subst ha2
      obtain ⟨b', vs, t', q1, q2, q3⟩ := hi.boxE hcs hbx
      rw [hbx] at q1
      simp at q1; subst q1
      obtain ⟨ha1, us0, ha2, ha3⟩ := hi.arr r b m0 cap e1 2 (by rw [hcs]; rfl) hbx hown
      rw [q2] at ha2
      simp only [Option.some.injEq, Obj.cells.injEq] at ha2
      obtain ⟨rfl, rfl, _⟩ := ha2
      have hcl : cs.length ≤ vs.toList.length := by have := q3.1; rw [List.length_take] at this; omega
      have hvl : vs.toList.length = vs.size := by simp
      have hpast : ∀ g' w', Ext g w g' w' → Inv g' (H.put r (avAs (srt d) ++ cs.drop (n * 2))) w' → g'.box = g.box → g'.own = g.own → Past H.next g w g' (appU { H with next := H.next + 1 } [.box r (avAs (srt d) ++ cs.drop (n * 2))]) w' :=
       fun g' w' h1 h2 h3 h4 => tolH_past (us := [.box r _]) ht h1 h2 (fun i _ => by rw [h3, h4]; exact ⟨rfl, rfl⟩)
      by_cases h0 : n = 0
      ·subst h0
       have hd0 : d = [] := List.length_eq_zero_iff.1 hdl
       subst hd0
       have hc := AnyF.slices_SortFunc_none Tryz.sortAtom (some ⟨b, off, none⟩) c (.func (.func 72) #[] #[]) w
       change Calls Tryz.prog 104 _ _ _ at hc
       refine hc.mono fun en w' hp => ?_
       obtain ⟨rfl, hw⟩ := hp
       rw [hw]
       have es : avAs (srt []) ++ cs.drop (0 * 2) = cs := by simp [srt, avAs]
       have := inv_store (vs' := vs) hi hcs hbx q2 rfl q3
       rw [setRow_self w b vs t' (0, 0) q2] at this
       exact ⟨_, g, rfl, hpast g w (Ext.refl g w) (by rw [es]; exact this.2) rfl rfl, .tup [] #[] rfl (by simp)⟩
      ·have ho : off = 0 := by have := hoff (by omega); omega
       subst ho
       have hq4 : RelL g w (avAs d) (vs.toList.take (n * 2)) := by
        rw [← hcd]
        have := q3.take (n * 2)
        rwa [List.take_take, Nat.min_eq_left (by omega)] at this
       have hvv := avAs_val hq4
       have hH : HoldsK encA 2 w b 0 d.toArray := by
        intro j hj
        rw [size_flatK] at hj
        have hj' : j < d.length * 2 := by simpa using hj
        refine ⟨?_, by simp [World.frozen?, q2]⟩
        rw [Nat.zero_add, cell_of_row w b j vs t' (0, 0) q2, flat_valA]
        have e1 := valA_get d j hj'
        have e2 : (valA d).toArray[j]! = (encA (d.toArray[j / 2]!))[j % 2]! := by
         rw [getElem!_def, List.getElem?_toArray, e1]
        rw [id, e2, ← e1, ← hvv, List.getElem?_take, if_pos (by omega), Array.getElem?_toList]
       have hblk : b < w.heap.size := (Array.getElem?_eq_some_iff.1 q2).1
       have hc := AnyQ.slices_SortFunc_total Tryz.sortAtom 2 (Tryz.isAgg81) (Tryz.sizeOf81) encA (fun _ => rfl) (fun x v hv => by simp [encA] at hv; rcases hv with rfl | rfl <;> rfl) cmpA cmpA_swo
        72 #[] b 0 c d.toArray w (fun vs w => callFunc_enter (fn := Tryz.f72) (by kernel_rfl) (by kernel_rfl) rfl vs w) (fun m os dk _ x y => cmpAtom x y _) hH hblk (by simp; omega) cmpA_total
       change Calls Tryz.prog 104 _ _ _ at hc
       rw [List.size_toArray, hdl] at hc
       refine hc.mono fun en w' hp => ?_
       obtain ⟨rfl, m, os, hw'⟩ := hp
       have es : (d.toArray.toList.mergeSort fun x y => !(ltOf cmpA) y x) = srt d := rfl
       rw [es] at hw'
       have hsl : (srt d).length = n := by rw [srt, List.length_mergeSort, hdl]
       have hvsl := valA_length (srt d)
       have hw2 : w' = grow ((Sort.ahead w m).setRow b (valA (srt d) ++ vs.toList.drop (n * 2)).toArray) os := by
        rw [hw']
        unfold sortWorldK putRowK
        rw [flat_valA, put_row (w := Sort.ahead w m) (b := b) (vs := vs) (t := t') q2 (valA (srt d)) (by omega), hvsl, hsl]
       obtain ⟨hx1, hx2⟩ := inv_ahead hi m
       have hrel : RelL g (Sort.ahead w m) (avAs (srt d) ++ cs.drop (n * 2)) ((valA (srt d) ++ vs.toList.drop (n * 2)).toArray.toList.take (avAs (srt d) ++ cs.drop (n * 2)).length) := by
        have hd2 := q3.drop (n * 2)
        rw [List.drop_take] at hd2
        have e5 : (valA (srt d) ++ vs.toList.drop (n * 2)).toArray.toList.take (avAs (srt d) ++ cs.drop (n * 2)).length = valA (srt d) ++ (vs.toList.drop (n * 2)).take (cs.length - n * 2) := by
         rw [List.toList_toArray, List.length_append, avAs_length, List.length_drop, ← hvsl, List.take_append]
         rw [List.take_of_length_le (by omega)]
         congr 2
         omega
        rw [e5]
        exact (avAs_rel g _ _).append (hd2.ext hx1)
       obtain ⟨hy1, hy2⟩ := inv_store (vs' := (valA (srt d) ++ vs.toList.drop (n * 2)).toArray) hx2 hcs hbx (w := Sort.ahead w m) q2 (by
        simp only [List.size_toArray, List.length_append, List.length_drop, hvsl, hsl]; omega) hrel
       obtain ⟨g', hz1, hz2, hz3, hz4⟩ := inv_grow (H := H.put r (avAs (srt d) ++ cs.drop (n * 2))) os.toList hy2
       rw [Array.toArray_toList] at hz1 hz2
       rw [← hw2] at hz1 hz2
       exact ⟨_, g', rfl, hpast g' w' ((hx1.trans hy1).trans hz1) hz2 hz3 hz4, .tup [] #[] rfl (by simp)⟩
     ·cases h
    ·cases h
   ·cases h
  ·cases h
 ·rename_i o f
  obtain ⟨a1, a2, hvs, r1, r2⟩ := relL2 hr
  have hvs' : vs = #[a1, a2] := by rw [← Array.toArray_toList (xs := vs), hvs]
  subst hvs'
  simp only [Option.some.injEq, Prod.mk.injEq] at h
  obtain ⟨rfl, rfl⟩ := h
  obtain ⟨a, cap, rfl, _⟩ := r1.sl_inv
  have hc := AnyF.slices_SortFunc_none Tryz.sortAtom a cap a2 w
  change Calls Tryz.prog 104 _ _ _ at hc
  refine hc.mono fun en w' hp => ?_
  obtain ⟨rfl, hw⟩ := hp
  rw [hw]
  exact ⟨_, g, rfl, tolH_past (us := []) ht (Ext.refl g w) hi (fun _ _ => ⟨rfl, rfl⟩), .tup [] #[] rfl (by simp)⟩
 ·cases h
end Go.Proofs.YtnoahchdmkpleaaGreat.VA

/-! Cn1 -/
namespace Go.Proofs.YtnoahchdmkpleaaGreat.VA
open Go Go.Shelf Go.RowKit
set_option linter.unusedVariables false
set_option linter.unusedSimpArgs false
theorem clone_nil (c : Nat) (w : World) : Calls Tryz.prog 74 #[.slice none 0 c] w fun en w' => en = .returned (.slice none 0 0) ∧ w' = w := by
 have ht : Tryz.prog.underlying 50 = some (.slice 81) := by kernel_rfl
 have hn := fun (w : World) (a : Option Addr) (n c : Nat) => Lib.run_eql_slice_nil (P := Tryz.prog) w 50 81 a n c 0 0 ht
 go_enter Tryz.func74, Tryz.ntmps74
 go_wp2_with (simp only [hn])
 go_ret
 exact ⟨rfl, rfl⟩
set_option maxRecDepth 100000 in
theorem clone_some (a : Addr) (n c : Nat) (w w' : World) (q : Value) (hr : (Builtin.append_ #[50, 50] 50 #[.slice (some ⟨w.heap.size, 0, none⟩) 0 0, .slice (some a) n c]).run Tryz.prog (w.alloc (.cells #[] 81)) = .ok q w') :
  Calls Tryz.prog 74 #[.slice (some a) n c] w fun en w'' => en = .returned q ∧ w'' = w' := by
 have ht : Tryz.prog.underlying 50 = some (.slice 81) := by kernel_rfl
 have hn := fun (w : World) (a : Option Addr) (n c : Nat) => Lib.run_eql_slice_nil (P := Tryz.prog) w 50 81 a n c 0 0 ht
 go_enter Tryz.func74, Tryz.ntmps74
 go_wp2_with (first | (simp only [hn]) | (refine Lib.wpList_append_run _ rfl _ _ 50 50 rfl (.slice (some ⟨w.heap.size, 0, none⟩) 0 0) (.slice (some a) n c) (by first | rfl | simp [Act.eval, Act.put]) (by first | rfl | simp [Act.eval, Act.put]) _ _ hr ?_))
 go_ret
 exact ⟨rfl, rfl⟩
theorem el_atm' : tElem Tryz.prog 50 = some (81, 2, 16) := by kernel_rfl
theorem clone_empty {g : Gh} {w : World} {o : Own} {v : Value} (hr : Rel g w (.sl o []) v) :
  Calls Tryz.prog 74 #[v] w fun en w' => ∃ a, en = .returned (.slice a 0 0) ∧ (w' = w ∨ w' = w.alloc (.cells #[] 81)) := by
 obtain ⟨a, c, rfl, _⟩ := hr.sl_inv
 obtain ⟨hu, i, hinfo, hsz, hby⟩ := tElem_spec el_atm'
 cases a with
 | none => exact (clone_nil c w).mono fun en w' hp => ⟨none, hp.1, .inl hp.2⟩
 | some a =>
  have h := run_append_zero (P := Tryz.prog) (w := w.alloc (.cells #[] 81)) (t := 50) 50 hu (by simp [sizeOf, typeInfo, hinfo, hsz]; rfl) (a := some ⟨w.heap.size, 0, none⟩) (a' := some a) (n := 0) (cap := 0) (c' := c) (Nat.le_refl _)
  exact (clone_some a 0 c w _ _ h).mono fun en w' hp => ⟨_, hp.1, .inr hp.2⟩
theorem clone_more {g : Gh} {w : World} {o : Own} {es : List (List AV)} {v : Value} (hes : es ≠ []) (hl : ∀ x, x ∈ es → x.length = 2) (hlen : es.length ≤ 1000000000000) (hr : Rel g w (.sl o es) v) :
  ∃ (f : Nat → Value) (zv : Value) (G : Nat), zv.cells.size = 2 ∧ (∀ k, k < es.length * 2 → (f k).oneCell' = true) ∧ (∀ (i : Nat) (el : List AV) (j : Nat) (x : AV), es[i]? = some el → el[j]? = some x → Rel g w x (f (i * 2 + j))) ∧
   G = grownCap (w.alloc (.cells #[] 81)) (0 + es.length) 0 81 ∧
   Calls Tryz.prog 74 #[v] w fun en w' => en = .returned (.slice (some ⟨w.heap.size + 1, 0, none⟩) (0 + es.length) G) ∧
    w' = (w.alloc (.cells #[] 81)).drew.alloc (.cells (([] : List Value).toArray ++ ((List.range (es.length * 2)).map f).toArray ++ Builtin.zeroCells zv.cells (G - (0 + es.length))) 81) := by
 obtain ⟨ad, c, sz, f, rfl, h2, h3, h4, h5⟩ := news_of hr hes
 have hs2 : sz = 2 := by
  cases es with
  | nil => exact absurd rfl hes
  | cons e l => rw [← hl e (List.mem_cons_self ..), h2 e (List.mem_cons_self ..)]
 subst hs2
 obtain ⟨hu, i, hinfo, hsz, hby⟩ := tElem_spec el_atm'
 have hzo : zeroOk Tryz.prog 81 2 = true := by kernel_rfl
 obtain ⟨i', zv, hinfo', hiz, hzsz⟩ := zeroOk_spec hzo
 rw [hinfo] at hinfo'
 simp only [Option.some.injEq] at hinfo'
 subst hinfo'
 have h0 : 0 < es.length := List.length_pos_iff.2 hes
 refine ⟨f, zv, _, hzsz, h4, h5, rfl, ?_⟩
 have hrun := run_append_grow (P := Tryz.prog) (w.alloc (.cells #[] 81)) 50 50 81 i zv hu hinfo hiz ⟨w.heap.size, 0, none⟩ 0 0 [] (by simp) (fun j v hv => by simp at hv) ad es.length c ((List.range (es.length * 2)).map f)
  (by simp [hsz]) (fun j u hu => ?_) (by omega) (by omega) (by rw [hby]; exact growslice_fits (by omega) (by omega))
 ·refine (clone_some ad es.length c w _ _ hrun).mono fun en w' hp => ?_
  obtain ⟨rfl, rfl⟩ := hp
  exact ⟨by simp, rfl⟩
 ·have := h3 j u hu
  rw [World.cell?_alloc_lt w _ _ (block_lt_of_cell this)]
  exact this
/-- slices.Clone, told as a list. -/
def tClone (args : List AV) : Option AV :=
 match args with
 | [.sl _ es] => if (es.all fun x => x.length == 2) = true ∧ es.length ≤ 1000000000000 then some (.sl .sh es) else none
 | _ => none
/-- slices.Clone, told as an array. -/
def clnA (args : List AV) (H : Heap) : Option (AV × List U) :=
 match args with
 | [.sl _ []] => some (.sl .sh [], [])
 | [.sl _ (x :: es)] => if ((x :: es).all fun x => x.length == 2) = true ∧ (x :: es).length ≤ 1000000000000 then some (.ar H.next 0 (es.length + 1) 2, [.box H.next (x :: es).flatten]) else none
 | _ => none
theorem relL1 {g : Gh} {w : World} {x : AV} {l : List Value} (h : RelL g w [x] l) : ∃ a, l = [a] ∧ Rel g w x a := by
 obtain ⟨h1, h2⟩ := h
 match l, h1 with
 | [a], _ => exact ⟨a, rfl, h2 0 x a rfl rfl⟩
theorem relL1' {g : Gh} {w : World} {x : AV} {vs : Array Value} (h : RelL g w [x] vs.toList) : ∃ a, vs = #[a] ∧ Rel g w x a := by
 obtain ⟨a, h1, h2⟩ := relL1 h
 exact ⟨a, by rw [← Array.toArray_toList (xs := vs), h1], h2⟩
theorem see_zero {g : Gh} {H : Heap} {w : World} (hi : Inv g H w) : g.see w.heap.size 0 = g := by
 have : (fun i => if i = w.heap.size then 0 else g.vis i) = g.vis := by
  funext i
  split
  ·rename_i h; subst h; exact (hi.fresh _ (Nat.le_refl _)).symm
  ·rfl
 unfold Gh.see
 rw [this]
theorem sl_sh_nil (g : Gh) (w : World) (a : Option Addr) : Rel g w (.sl .sh []) (.slice a 0 0) :=
 .sl .sh [] a 0 0 0 (fun _ => undef) (by simp) rfl (Nat.le_refl _) (by simp) (by simp) (by simp) (by simp) (fun h => absurd rfl h) (by simp)
theorem tClone_ok (C : Cond) : ToldOk Tryz.prog C 74 tClone := by
 refine ⟨fun vs w => callFunc_enter (fn := Tryz.f74) (by kernel_rfl) (by kernel_rfl) rfl vs w, fun args v h g H w vs hC hi hr => ?_⟩
 unfold tClone at h
 split at h
 ·rename_i o es
  split at h
  ·rename_i hc
   obtain ⟨hl, hlen⟩ := hc
   simp only [Option.some.injEq] at h
   subst h
   obtain ⟨a0, rfl, ha⟩ := relL1' hr
   have hi2 := inv_see hi (.cells #[] 81) 0
   rw [see_zero hi] at hi2
   by_cases hes : es = []
   ·subst hes
    refine (clone_empty ha).mono fun en w' hp => ?_
    obtain ⟨a, rfl, hw⟩ := hp
    rcases hw with hw | hw
    ·rw [hw]; exact ⟨_, g, rfl, Ext.refl g w, hi, rfl, rfl, sl_sh_nil g w a⟩
    ·rw [hw]; exact ⟨_, g, rfl, hi2.1, hi2.2, rfl, rfl, sl_sh_nil g _ a⟩
   ·have hl' : ∀ x, x ∈ es → x.length = 2 := fun x hx => by simpa using List.all_eq_true.1 hl x hx
    obtain ⟨f, zv, G, hz, h1, h2, hG, hcall⟩ := clone_more hes hl' hlen ha
    refine hcall.mono fun en w' hp => ?_
    obtain ⟨rfl, rfl⟩ := hp
    obtain ⟨hd1, hd2⟩ := hi2.2.drew
    have hge := grownCap_ge (w.alloc (.cells #[] 81)) (0 + es.length) 0 81
    rw [← hG] at hge
    obtain ⟨hs1, hs2⟩ := inv_see hd2 (.cells (([] : List Value).toArray ++ ((List.range (es.length * 2)).map f).toArray ++ Builtin.zeroCells zv.cells (G - (0 + es.length))) 81) (es.length * 2)
    have hext := (hi2.1.trans hd1).trans hs1
    refine ⟨_, _, rfl, hext, hs2, rfl, rfl, ?_⟩
    refine .sl .sh es _ (0 + es.length) G 2 f (by simp) (by omega) hge (by simp) (by simp) hl' (fun k hk => h1 k (by omega)) (fun _ => ⟨w.heap.size + 1, 0, rfl, ?_, fun k hk => ?_⟩) (fun i el j x hel hx => (h2 i el j x hel hx).ext hext)
    ·have : (w.alloc (.cells #[] 81)).drew.heap.size = w.heap.size + 1 := by simp
     simp only [Gh.see, this, if_true]
     omega
    ·have hk' : k < es.length * 2 := by omega
     rw [Nat.zero_add, World.cell?_alloc_at _ _ _ _ (by simp)]
     simp only [List.append_toArray, List.nil_append]
     rw [Array.getElem?_append_left (by simpa using hk')]
     simp [hk']
  ·cases h
 ·cases h
theorem clnA_ok (C : Cond) : TolHOk Tryz.prog C 74 clnA := by
 refine ⟨fun vs w => callFunc_enter (fn := Tryz.f74) (by kernel_rfl) (by kernel_rfl) rfl vs w, fun args H v us h g w vs hC hi ht hr => ?_⟩
 have hi2 := inv_see hi (.cells #[] 81) 0
 rw [see_zero hi] at hi2
 unfold clnA at h
 split at h
 ·rename_i o
  simp only [Option.some.injEq, Prod.mk.injEq] at h
  obtain ⟨rfl, rfl⟩ := h
  obtain ⟨a0, rfl, ha⟩ := relL1' hr
  refine (clone_empty ha).mono fun en w' hp => ?_
  obtain ⟨a, rfl, hw⟩ := hp
  rcases hw with hw | hw
  ·rw [hw]; exact ⟨_, g, rfl, tolH_past (us := []) ht (Ext.refl g w) hi (fun _ _ => ⟨rfl, rfl⟩), sl_sh_nil g w a⟩
  ·rw [hw]; exact ⟨_, g, rfl, tolH_past (us := []) ht hi2.1 hi2.2 (fun _ _ => ⟨rfl, rfl⟩), sl_sh_nil g _ a⟩
 ·rename_i o x es
  split at h
  ·rename_i hc
   obtain ⟨hl, hlen⟩ := hc
   simp only [Option.some.injEq, Prod.mk.injEq] at h
   obtain ⟨rfl, rfl⟩ := h
   obtain ⟨a0, rfl, ha⟩ := relL1' hr
   have hl' : ∀ y, y ∈ x :: es → y.length = 2 := fun y hy => by simpa using List.all_eq_true.1 hl y hy
   obtain ⟨f, zv, G, hz, h1, h2, hG, hcall⟩ := clone_more (by simp) hl' hlen ha
   refine hcall.mono fun en w' hp => ?_
   obtain ⟨rfl, rfl⟩ := hp
   have hrel := relL_flatten (g := g) (w := w) (sz := 2) (x :: es) f hl' h2
   obtain ⟨g', p1, p2, p3, p4⟩ := arr_grow (n := 0) (m := (x :: es).length) (sz := 2) (old := 0) (e := 81) (zv := zv) (id := H.next) hi2.2 ⟨(ht _ (Nat.le_refl _)).1, (ht _ (Nat.le_refl _)).2, (fresh_next hi ht).2.2⟩ (RelL.nil g _) (hrel.ext hi2.1) rfl (by simp) hz (by omega) hG
   refine ⟨_, g', rfl, tolH_past (us := [.box H.next _]) ht (hi2.1.trans p1) p2 p4, ?_⟩
   have e : (w.alloc (.cells #[] 81)).heap.size = w.heap.size + 1 := by simp
   rw [e, Nat.zero_add] at p3
   rw [Nat.zero_add]
   exact p3
  ·cases h
 ·cases h
end Go.Proofs.YtnoahchdmkpleaaGreat.VA

/-! No1 -/
namespace Go.Proofs.YtnoahchdmkpleaaGreat.VA
open Go Go.RowKit
attribute [local go_sem] Nat.add_eq_left Nat.left_eq_add true_and and_true ite_true if_false Int.cast_ofNat_Int eq_self Nat.add_assoc Option.some.injEq decide_true decide_false Bool.not_true Bool.not_false List.size_toArray List.length_cons List.length_nil
set_option linter.unusedSimpArgs false
set_option maxRecDepth 100000

theorem wrap1 {a : Nat} (h : a + 1 ≤ 9223372036854775807) : IntKind.wrap .i64 ((a : Int) + 1) = ((a + 1 : Nat) : Int) := by
 rw [wrapI (by omega)]; omega
/-- The table for atoms.Norm. -/
noncomputable def cfg1 : Cfg := mkC Tryz.prog [103, 102, 60] [149, 101, 105,
 74, 104] [60, 101, 105] []
 [(74, clnA), (104, srtA 72)]
theorem cfg1_ok : CfgOk Tryz.prog Cond.none cfg1 := mkC_ok (by kernel_rfl) (by kernel_rfl) (by simp) (by
 intro p hp
 simp only [List.mem_cons, List.not_mem_nil, or_false] at hp
 rcases hp with rfl | rfl
 ·exact clnA_ok _
 ·exact srtA_ok _)
def rightA (x : Int × Int) : Bool := if x.1 = 3 ∨ x.1 = 4 ∨ x.1 = 5 then decide (0 ≤ x.2) else if x.1 = 0 ∨ x.1 = 1 ∨ x.1 = 2 ∨ x.1 = 6 then decide (x.2 = 0) else false
theorem c_right (x : Int × Int) (H : Heap) : calls Tryz.prog cfg1 103 [.agg (avA x)] H = some (.ret (.lit (.bool (rightA x))) H) := by
 refine calls_pure (fn := Tryz.f103) rfl rfl rfl rfl rfl ?_ H
 have rs : Tryz.f103.results.toList = [.tmp 2] := rfl
 obtain ⟨k, n⟩ := x
 generalize hr : rightA (k, n) = r
 unfold rightA at hr
 simp only at hr
 unfold avA
 by_cases h3 : k = 3
 ·subst h3
  have hr' : decide (0 ≤ n) = r := by simpa using hr
  simp only [go_sem, simprocAttr, rs, hr']
 ·by_cases h4 : k = 4
  ·subst h4
   have hr' : decide (0 ≤ n) = r := by simpa using hr
   simp only [go_sem, simprocAttr, rs, hr']
  ·by_cases h5 : k = 5
   ·subst h5
    have hr' : decide (0 ≤ n) = r := by simpa using hr
    simp only [go_sem, simprocAttr, rs, hr']
   ·have e3 : decide (k = 3) = false := by simpa using h3
    have e4 : decide (k = 4) = false := by simpa using h4
    have e5 : decide (k = 5) = false := by simpa using h5
    rw [if_neg (by omega)] at hr
    by_cases h0 : k = 0
    ·subst h0
     have hr' : decide (n = 0) = r := by simpa using hr
     simp only [go_sem, simprocAttr, rs, e3, e4, e5, hr']
    ·by_cases h1 : k = 1
     ·subst h1
      have hr' : decide (n = 0) = r := by simpa using hr
      simp only [go_sem, simprocAttr, rs, e3, e4, e5, hr']
     ·by_cases h2 : k = 2
      ·subst h2
       have hr' : decide (n = 0) = r := by simpa using hr
       simp only [go_sem, simprocAttr, rs, e3, e4, e5, hr']
      ·by_cases h6 : k = 6
       ·subst h6
        have hr' : decide (n = 0) = r := by simpa using hr
        simp only [go_sem, simprocAttr, rs, e3, e4, e5, hr']
       ·have e0 : decide (k = 0) = false := by simpa using h0
        have e1 : decide (k = 1) = false := by simpa using h1
        have e2 : decide (k = 2) = false := by simpa using h2
        have e6 : decide (k = 6) = false := by simpa using h6
        rw [if_neg (by omega)] at hr
        subst hr
        simp only [go_sem, simprocAttr, rs, e0, e1, e2, e3, e4, e5, e6]
theorem c_norm1 (x : Int × Int) (H : Heap) : calls Tryz.prog cfg1 102 [.agg (avA x)] H = some (.ret (.lit (.bool (!rightA x))) H) := by
 refine calls_pure (fn := Tryz.f102) rfl rfl rfl rfl rfl ?_ H
 have rs : Tryz.f102.results.toList = [.tmp 2] := rfl
 have hc : ∀ H, calls Tryz.prog cfg1 103 [.agg [.lit (.int .i64 x.1), .lit (.int .i64 x.2)]] H = some (.ret (.lit (.bool (rightA x))) H) := c_right x
 unfold avA
 simp only [go_sem, simprocAttr, rs, hc]
/-! ### lists of atoms -/
def encAs (d : List (Int × Int)) : List (List AV) := d.map avA
theorem encAs_unif (d : List (Int × Int)) : Unif 2 (encAs d) := Unif.map (f := avA) (fun _ => rfl) d
theorem encAs_flat (d : List (Int × Int)) : (encAs d).flatten = avAs d := by unfold encAs avAs; rw [List.flatMap_def]
theorem encAs_get {d : List (Int × Int)} {i : Nat} (h : i < d.length) : (encAs d)[i]? = some (avA d[i]) := by simp [encAs, h]
theorem atm_load {H0 H : Heap} {r : Nat} {d : List (Int × Int)} (h : Arr H0 r H (encAs d)) {i : Nat} (hi : i < d.length) : ldK (some true) (some 2) (H.get r) r (i * 2) = some (.agg (avA d[i]), [r]) := by
 rw [h.get, ldK_true, flat_at (encAs_unif d) (encAs_get hi), if_pos (by rw [flat_len (encAs_unif d)]; simp [encAs]; omega)]
theorem c_idxAtm (d : List (Int × Int)) (H0 : Heap) (r n : Nat) (h0 : Arr H0 r H0 (encAs d)) (hn : n ≤ d.length) (hlen : d.length ≤ 1000000000000) : ∃ v H', calls Tryz.prog cfg1 149 [.ar r 0 n 2, .fn 102 []] H0 = some (.ret v H') ∧
  (Frm H0 H' ∧ ((v = .lit (.int .i64 (-1)) ∧ (d.take n).all rightA = true) ∨ ∃ (i : Nat) (hi : i < d.length), v = .lit (.int .i64 (i : Nat)) ∧ i < n ∧ (d.take i).all rightA = true ∧ rightA d[i] = false)) := by
 refine calls_imp (fn := Tryz.f149) rfl rfl rfl rfl rfl ?_
 have rs : Tryz.f149.results.toList = [.tmp 4] := rfl
 simp only [go_sem, simprocAttr, rs]
 refine W_loop_ind (fun k e H => ∃ i : Nat, k = n - i ∧ i ≤ n ∧ (d.take i).all rightA = true ∧ Arr H0 r H (encAs d) ∧ gget .bad e 0 = .ar r 0 n 2 ∧ gget .bad e 1 = .fn 102 [] ∧ gget .bad e 7 = .lit (.int .i64 (n : Nat)) ∧ gget .bad e 8 = .lit (.int .i64 (i : Nat)))
  n ⟨0, rfl, by omega, by simp, (h0.up _).up _, by simp only [go_sem, simprocAttr], by simp only [go_sem, simprocAttr], by simp only [go_sem, simprocAttr], by simp only [go_sem, simprocAttr]⟩ ?_
 rintro k ih e H ⟨i, rfl, hle, hR, hA, g0, g1, g7, g8⟩
 by_cases hlt : i < n
 ·have hlt' : decide ((i : Int) < (n : Nat)) = true := by simp; omega
  have hid : i < d.length := by omega
  have ha := iad_ar (t := 81) (b := 16) (r := r) (a := 0) (sz := 2) hlt
  rw [Nat.zero_add] at ha
  have hl0 := atm_load hA hid
  have hw1 := wrap1 (show i + 1 ≤ 9223372036854775807 by omega)
  cases hx : rightA d[i] with
  | true =>
   simp only [go_sem, simprocAttr, g0, g1, g7, g8, hlt', ha, hl0, c_norm1, hx, hw1]
   exact ih (n - (i + 1)) (by omega) _ _ ⟨i + 1, rfl, by omega, by rw [List.take_succ_eq_append_getElem hid, List.all_append, hR]; simp [hx], by repeat (first | exact hA | refine Arr.up ?_ _),
    by simp only [go_sem, simprocAttr, g0], by simp only [go_sem, simprocAttr, g1], by simp only [go_sem, simprocAttr, g7], by simp only [go_sem, simprocAttr]⟩
  | false =>
   simp only [go_sem, simprocAttr, g0, g1, g7, g8, hlt', ha, hl0, c_norm1, hx, hw1, rs]
   exact ⟨_, rfl, (Arr.frm_of (by repeat (first | exact hA | refine Arr.up ?_ _)) h0.get), .inr ⟨i, hid, rfl, hlt, hR, hx⟩⟩
 ·have hlt' : decide ((i : Int) < (n : Nat)) = false := by simp; omega
  have hin : i = n := by omega
  subst hin
  simp only [go_sem, simprocAttr, g0, g1, g7, g8, hlt', rs]
  exact ⟨_, rfl, (Arr.frm_of (by repeat (first | exact hA | refine Arr.up ?_ _)) h0.get), .inl ⟨rfl, hR⟩⟩
end Go.Proofs.YtnoahchdmkpleaaGreat.VA

/-! No2 -/
namespace Go.Proofs.YtnoahchdmkpleaaGreat.VA
open Go Go.RowKit
attribute [local go_sem] Nat.add_eq_left Nat.left_eq_add true_and and_true ite_true if_false Int.cast_ofNat_Int eq_self Nat.add_assoc Option.some.injEq decide_true decide_false Bool.not_true Bool.not_false List.size_toArray List.length_cons List.length_nil
set_option linter.unusedSimpArgs false
set_option maxRecDepth 100000

theorem take_set_snoc {α : Type} {l : List α} {m : Nat} (h : m < l.length) (x : α) : (l.set m x).take (m + 1) = l.take m ++ [x] := by
 have e : l.set m x = (l.take m ++ [x]) ++ l.drop (m + 1) := by rw [List.set_eq_take_append_cons_drop, if_pos h]; simp
 rw [e]
 exact List.take_left' (by simp; omega)
@[go_sem] theorem avA_len (x : Int × Int) : (avA x).length = 2 := rfl
@[go_sem] theorem avA_one (x : Int × Int) : (avA x).all AV.one = true := rfl
@[go_sem] theorem avA_take (x : Int × Int) : (avA x).take 2 = avA x := rfl
theorem c_delAtm (d : List (Int × Int)) (H0 : Heap) (r : Nat) (h0 : Arr H0 r H0 (encAs d)) (hlen : d.length ≤ 1000000000000) : ∃ v H', calls Tryz.prog cfg1 101 [.ar r 0 d.length 2, .fn 102 []] H0 = some (.ret v H') ∧
  (v = .ar r 0 (d.filter rightA).length 2 ∧ ∃ z, (d.filter rightA ++ z).length ≤ d.length ∧ Arr H0 r H' (encAs (d.filter rightA ++ z))) := by
 refine calls_arr (fn := Tryz.f101) rfl rfl rfl rfl rfl ?_
 have rs : Tryz.f101.results.toList = [.tmp 4] := rfl
 simp only [go_sem, simprocAttr, rs]
 refine goC_ex (c_idxAtm d _ r d.length (Arr.start h0.get (by have := h0.rl; simp only [go_sem, simprocAttr]; omega)) (Nat.le_refl _) hlen) ?_
 rintro v H1 ⟨hF, hv⟩
 have hA1 : Arr H0 r H1 (encAs d) := (by repeat (first | exact h0 | refine Arr.up ?_ _) : Arr H0 r _ (encAs d)).frm hF
 rcases hv with ⟨rfl, hall⟩ | ⟨i, hi, rfl, hin, hall, hx⟩
 ·have hf : d.filter rightA = d := by
   rw [List.take_of_length_le (Nat.le_refl _)] at hall
   exact List.filter_eq_self.2 fun x hx => List.all_eq_true.1 hall x hx
  simp only [go_sem, simprocAttr, rs]
  refine ⟨_, rfl, ?_, [], by rw [hf, List.append_nil]; exact Nat.le_refl _, ?_⟩
  ·rw [hf]; rfl
  ·rw [hf, List.append_nil]
   repeat (first | exact hA1 | refine Arr.up ?_ _)
 ·have e1 : decide ((i : Int) = -1) = false := by simp <;> omega
  have hw1 := wrap1 (show i + 1 ≤ 9223372036854775807 by omega)
  simp only [go_sem, simprocAttr, rs, e1, hw1]
  have hAn : Arr H0 r ((H1.up 2).up 2) (encAs d) := (hA1.up _).up _
  have hfi : (d.take i).filter rightA = d.take i := List.filter_eq_self.2 fun x hx => List.all_eq_true.1 hall x hx
  have hfi1 : (d.take (i + 1)).filter rightA = d.take i := by
   rw [List.take_succ_eq_append_getElem hi, List.filter_append, hfi]; simp [hx]
  refine W_loop_ind (fun k e H => ∃ (j : Nat) (d' : List (Int × Int)), k = d.length - j ∧ j ≤ d.length ∧ ((d.take j).filter rightA).length < j ∧ d'.length = d.length ∧ d'.take ((d.take j).filter rightA).length = (d.take j).filter rightA ∧ d'.drop j = d.drop j ∧
    Arr H0 r H (encAs d') ∧ gget .bad e 0 = .ar r 0 d.length 2 ∧ gget .bad e 1 = .fn 102 [] ∧ gget .bad e 5 = .lit (.int .i64 (((d.take j).filter rightA).length : Nat)) ∧ gget .bad e 6 = .lit (.int .i64 (j : Nat)))
   (d.length - (i + 1)) ⟨i + 1, d, rfl, by omega, by rw [hfi1, List.length_take]; omega, rfl, by rw [hfi1, List.length_take, Nat.min_eq_left (by omega)], rfl, by repeat (first | exact hA1 | refine Arr.up ?_ _), by simp only [go_sem, simprocAttr], by simp only [go_sem, simprocAttr],
    by rw [hfi1, List.length_take, Nat.min_eq_left (by omega)]; simp only [go_sem, simprocAttr], by simp only [go_sem, simprocAttr]⟩ ?_
  rintro k ih e H ⟨j, d', rfl, hle, hlt, hl, ht, hd, hA, g0, g1, g5, g6⟩
  by_cases hjn : j < d.length
  ·have hj' : decide ((j : Int) < (d.length : Nat)) = true := by simp; omega
   have hjd : j < d'.length := by omega
   have hjx : d'[j] = d[j] := by
    have h1 : (d'.drop j)[0]? = (d.drop j)[0]? := by rw [hd]
    simpa [hjn, hjd] using h1
   have ha := iad_ar (t := 81) (b := 16) (r := r) (a := 0) (sz := 2) hjn
   rw [Nat.zero_add] at ha
   have hl0 := atm_load hA hjd
   rw [hjx] at hl0
   have hw2 := wrap1 (show j + 1 ≤ 9223372036854775807 by omega)
   have hrn' : ∀ k, ¬ H.next + k = r := fun k => by have := hA.rl; have := hA.nx; omega
   cases hx' : rightA d[j] with
   | false =>
    have hfj : (d.take (j + 1)).filter rightA = (d.take j).filter rightA := by
     rw [List.take_succ_eq_append_getElem hjn, List.filter_append]; simp [hx']
    simp only [go_sem, simprocAttr, g0, g1, g5, g6, hj', ha, hl0, c_norm1, hx', hw2]
    exact ih (d.length - (j + 1)) (by omega) _ _ ⟨j + 1, d', rfl, by omega, by rw [hfj]; omega, hl, by rw [hfj]; exact ht, by rw [← List.drop_drop, hd, List.drop_drop],
     (by repeat (first | exact hA | refine Arr.up ?_ _ | refine Arr.put ?_ _ (by have := hA.nx; omega))), by simp only [go_sem, simprocAttr, g0], by simp only [go_sem, simprocAttr, g1], by rw [hfj]; simp only [go_sem, simprocAttr, g5], by simp only [go_sem, simprocAttr]⟩
   | true =>
    have hfj : (d.take (j + 1)).filter rightA = (d.take j).filter rightA ++ [d[j]] := by
     rw [List.take_succ_eq_append_getElem hjn, List.filter_append]; simp [hx']
    generalize hm : ((d.take j).filter rightA).length = m at hlt ht g5
    have ham := iad_ar (t := 81) (b := 16) (r := r) (a := 0) (sz := 2) (show m < d.length by omega)
    rw [Nat.zero_add] at ham
    have hw3 := wrap1 (show m + 1 ≤ 9223372036854775807 by omega)
    have hst : m * 2 + 2 ≤ (encAs d').flatten.length := by rw [flat_len (encAs_unif d')]; simp [encAs]; omega
    have hstj : j * 2 + 2 ≤ (encAs d').flatten.length := by rw [flat_len (encAs_unif d')]; simp [encAs]; omega
    have hat := flat_at (encAs_unif d') (encAs_get hjd)
    rw [hjx] at hat
    have hg := hA.get
    have hfs := flat_set (encAs_unif d') (i := m) (by simp [encAs]; omega) (x := avA d[j])
    simp only [go_sem, simprocAttr, g0, g1, g5, g6, hj', ha, hat, hstj, c_norm1, hx', hw2, ham, hw3, hg, hst, hfs, hrn']
    have hes : (encAs d').set m (avA d[j]) = encAs (d'.set m d[j]) := by unfold encAs; rw [List.map_set]
    refine ih (d.length - (j + 1)) (by omega) _ _ ⟨j + 1, d'.set m d[j], rfl, by omega, ?_, by rw [List.length_set]; exact hl, ?_, by rw [List.drop_set_of_lt (by omega), ← List.drop_drop, hd, List.drop_drop], ?_, by simp only [go_sem, simprocAttr, g0], by simp only [go_sem, simprocAttr, g1], ?_, by simp only [go_sem, simprocAttr]⟩
    ·rw [hfj, List.length_append, hm]; simp; omega
    ·rw [hfj, List.length_append, hm, ← ht]; exact take_set_snoc (by omega) _
    ·repeat (with_reducible refine Arr.up ?_ _)
     refine Arr.write (es := encAs d') ?_ (by rw [hes])
     repeat (first | exact hA | refine Arr.up ?_ _ | refine Arr.put ?_ _ (by have := hA.nx; omega))
    ·rw [hfj, List.length_append, hm]; simp only [go_sem, simprocAttr]
  ·have hj' : decide ((j : Int) < (d.length : Nat)) = false := by simp; omega
   have hjn' : j = d.length := by omega
   subst hjn'
   rw [List.take_of_length_le (Nat.le_refl _)] at hlt ht g5
   generalize hm : (d.filter rightA).length = m at hlt ht g5
   have hg := hA.get
   have hs1 : aSlice Tryz.prog 50 (.ar r 0 d.length 2) (some (.lit (.int .i64 (m : Nat)))) none = some (.ar r (0 + m) (d.length - m) 2) := slice_ar el_sAtm rfl (aNat_cast .i64 m) (by omega) (Nat.le_refl _)
   have hs2 : aSlice Tryz.prog 50 (.ar r 0 d.length 2) none (some (.lit (.int .i64 (m : Nat)))) = some (.ar r (0 + 0) (m - 0) 2) := slice_ar el_sAtm (aNat_cast .i64 m) rfl (by omega) (by omega)
   rw [Nat.zero_add] at hs1
   rw [Nat.zero_add, Nat.sub_zero] at hs2
   have hll : (encAs d').flatten.length = d.length * 2 := by rw [flat_len (encAs_unif d')]; simp [encAs]; omega
   have hcl : ∀ H' : Heap, H'.get r = some (encAs d').flatten → aClear Tryz.prog 50 (.ar r m (d.length - m) 2) H' = some [.box r ((encAs d').take m ++ List.replicate (d.length - m) (avA (0, 0)) ++ (encAs d').drop (m + (d.length - m))).flatten] := by
    intro H' hg'
    rw [← flat_clear (encAs_unif d') (by simp [encAs]; omega)]
    exact clear_ar el_sAtm hg' zr_atom rfl rfl (by rw [hll]; exact Nat.mul_le_mul_right 2 (by omega))
   simp only [go_sem, simprocAttr, g0, g1, g5, g6, hj', hs1, hs2, hg, hcl, rs]
   refine ⟨_, rfl, rfl, List.replicate (d.length - m) (0, 0), by rw [List.length_append, List.length_replicate]; omega, ?_⟩
   repeat (with_reducible refine Arr.up ?_ _)
   refine Arr.write (es := encAs d') (by repeat (first | exact hA | refine Arr.up ?_ _)) ?_
   rw [← ht]
   congr 1
   rw [List.drop_of_length_le (by simp [encAs]; omega), List.append_nil]
   unfold encAs
   rw [List.map_append, List.map_take, List.map_replicate]
end Go.Proofs.YtnoahchdmkpleaaGreat.VA

/-! No3 -/
namespace Go.Proofs.YtnoahchdmkpleaaGreat.VA
open Go Go.RowKit
attribute [local go_sem] Nat.add_eq_left Nat.left_eq_add true_and and_true ite_true if_false Int.cast_ofNat_Int eq_self Nat.add_assoc Option.some.injEq decide_true decide_false Bool.not_true Bool.not_false List.size_toArray List.length_cons List.length_nil
set_option linter.unusedSimpArgs false
set_option maxRecDepth 100000

def ded : List (Int × Int) → List (Int × Int)
 | [] => []
 | [x] => [x]
 | x :: y :: l => if x = y then ded (y :: l) else x :: ded (y :: l)
theorem ded_snoc : ∀ (l : List (Int × Int)) (x y : Int × Int), ded (l ++ [x, y]) = if x = y then ded (l ++ [x]) else ded (l ++ [x]) ++ [y]
 | [], x, y => by
  show (if x = y then [y] else x :: [y]) = _
  by_cases h : x = y
  ·subst h; simp [ded]
  ·simp [h, ded]
 | [a], x, y => by
  have h := ded_snoc [] x y
  show (if a = x then ded ([] ++ [x, y]) else a :: ded ([] ++ [x, y])) = if x = y then (if a = x then ded ([] ++ [x]) else a :: ded ([] ++ [x])) else (if a = x then ded ([] ++ [x]) else a :: ded ([] ++ [x])) ++ [y]
  rw [h]
  by_cases h1 : a = x <;> by_cases h2 : x = y <;> simp [h1, h2]
 | a :: b :: l, x, y => by
  have h := ded_snoc (b :: l) x y
  show (if a = b then ded (b :: l ++ [x, y]) else a :: ded (b :: l ++ [x, y])) = if x = y then (if a = b then ded (b :: l ++ [x]) else a :: ded (b :: l ++ [x])) else (if a = b then ded (b :: l ++ [x]) else a :: ded (b :: l ++ [x])) ++ [y]
  rw [h]
  by_cases h1 : a = b <;> by_cases h2 : x = y <;> simp [h1, h2]
theorem ded_take {S : List (Int × Int)} {k : Nat} (h0 : 0 < k) (hk : k < S.length) : ded (S.take (k + 1)) = if S[k - 1] = S[k] then ded (S.take k) else ded (S.take k) ++ [S[k]] := by
 obtain ⟨m, rfl⟩ : ∃ m, k = m + 1 := ⟨k - 1, by omega⟩
 have e1 : S.take (m + 1) = S.take m ++ [S[m]] := List.take_succ_eq_append_getElem (by omega)
 have e2 : S.take (m + 1 + 1) = S.take m ++ [S[m], S[m + 1]] := by rw [List.take_succ_eq_append_getElem hk, e1, List.append_assoc]; rfl
 rw [e2, ded_snoc, ← e1]
 simp only [Nat.add_sub_cancel]
theorem wrapD {a : Nat} (h : 0 < a) (h1 : a ≤ 9223372036854775807) : IntKind.wrap .i64 ((a : Int) - 1) = ((a - 1 : Nat) : Int) := by
 rw [wrapI (by omega)]; omega
theorem eg_atm : Tryz.prog.eqGuardType Tryz.prog.depth 81 = false := by kernel_rfl
theorem sh_atm : Tryz.prog.stoodInHeld 81 = false := by kernel_rfl
theorem eq_atm (x y : Int × Int) : aEq Tryz.prog 8 81 (.agg (avA x)) (.agg (avA y)) = some (decide (x = y)) := by
 obtain ⟨a, b⟩ := x
 obtain ⟨a', b'⟩ := y
 have he : aEq Tryz.prog 8 81 (.agg [.lit (.int .i64 a), .lit (.int .i64 b)]) (.agg [.lit (.int .i64 a'), .lit (.int .i64 b')]) = some (decide (a = a') && decide (b = b')) := by
  simp only [aEq, Tryz.underlying81, sh_atm, if_true, aEqs, go_sem]
  by_cases h1 : a = a' <;> by_cases h3 : b = b' <;> simp [h1, h3, aEqs, aEq, go_sem]
 unfold avA
 rw [he, ← Bool.decide_and]
 congr 1
 exact decide_eq_decide.2 (by simp)
@[go_sem] theorem bin_eqatm (x y : Int × Int) : aBin Tryz.prog .eql 81 (.agg (avA x)) (.agg (avA y)) = some (.lit (.bool (decide (x = y)))) := by
 simp only [aBin, eg_atm, if_true, eq_atm]
@[go_sem] theorem bin_neatm (x y : Int × Int) : aBin Tryz.prog .neq 81 (.agg (avA x)) (.agg (avA y)) = some (.lit (.bool (!decide (x = y)))) := by
 simp only [aBin, eg_atm, if_true, eq_atm]
theorem atm_at {d : List (Int × Int)} {i : Nat} (hi : i < d.length) : i * 2 + 2 ≤ (encAs d).flatten.length ∧ List.take 2 (List.drop (i * 2) (encAs d).flatten) = avA d[i] :=
 ⟨by rw [flat_len (encAs_unif d)]; simp [encAs]; omega, flat_at (encAs_unif d) (encAs_get hi)⟩
theorem drop_more {α : Type} {a b : List α} {i j : Nat} (h : a.drop i = b.drop i) (hij : i ≤ j) : a.drop j = b.drop j := by
 have e : j = i + (j - i) := by omega
 rw [e, ← List.drop_drop, h, List.drop_drop]
/-- clear(l[m:n]). -/
theorem clr_atm {H' : Heap} {r m n : Nat} {d : List (Int × Int)} (hm : m ≤ n) (hn : n ≤ d.length) (hg : H'.get r = some (encAs d).flatten) :
  aClear Tryz.prog 50 (.ar r m (n - m) 2) H' = some [.box r (encAs (d.take m ++ List.replicate (n - m) (0, 0) ++ d.drop n)).flatten] := by
 have hll : (encAs d).flatten.length = d.length * 2 := by rw [flat_len (encAs_unif d)]; simp [encAs]
 have h := clear_ar (P := Tryz.prog) (lo := m) (n := n - m) el_sAtm hg zr_atom rfl rfl (by rw [hll]; exact Nat.mul_le_mul_right 2 (by omega))
 rw [h, flat_clear (encAs_unif d) (by simp [encAs]; omega)]
 congr 4
 unfold encAs
 rw [List.map_append, List.map_append, List.map_take, List.map_replicate, List.map_drop, show m + (n - m) = n by omega]
 rfl
theorem c_cmpct (S z : List (Int × Int)) (H0 : Heap) (r : Nat) (h0 : Arr H0 r H0 (encAs (S ++ z))) (hlen : (S ++ z).length ≤ 1000000000000) : ∃ v H', calls Tryz.prog cfg1 105 [.ar r 0 S.length 2] H0 = some (.ret v H') ∧
  (v = .ar r 0 (ded S).length 2 ∧ ∃ z', Arr H0 r H' (encAs (ded S ++ z'))) := by
 refine calls_arr (fn := Tryz.f105) rfl rfl rfl rfl rfl ?_
 have rs : Tryz.f105.results.toList = [.tmp 2] := rfl
 have hSl : S.length ≤ 1000000000000 := by simp at hlen; omega
 by_cases hs : S.length < 2
 ·have e1 : decide ((S.length : Int) < 2) = true := by simp; omega
  have hd : ded S = S := by
   match S, hs with
   | [], _ => rfl
   | [x], _ => rfl
  simp only [go_sem, simprocAttr, rs, e1]
  exact ⟨_, rfl, by rw [hd]; rfl, z, by rw [hd]; repeat (first | exact h0 | refine Arr.up ?_ _)⟩
 ·have e1 : decide ((S.length : Int) < 2) = false := by simp; omega
  simp only [go_sem, simprocAttr, rs, e1]
  refine W_loop_ind (fun m e H => ∃ k : Nat, m = S.length - k ∧ 1 ≤ k ∧ k ≤ S.length ∧ ded (S.take k) = S.take k ∧ Arr H0 r H (encAs (S ++ z)) ∧ gget .bad e 0 = .ar r 0 S.length 2 ∧ gget .bad e 3 = .lit (.int .i64 (k : Nat)))
   (S.length - 1) ⟨1, rfl, by omega, by omega, by match S, hs with | x :: l, _ => rfl | [], h => simp at h, by repeat (first | exact h0 | refine Arr.up ?_ _), by simp only [go_sem, simprocAttr], by simp only [go_sem, simprocAttr]⟩ ?_
  rintro m ih e H ⟨k, rfl, hk1, hk, hD, hA, g0, g3⟩
  by_cases hkn : k < S.length
  ·have d1 : decide ((k : Int) < (S.length : Nat)) = true := by simp; omega
   have hw1 := wrapD (show 0 < k by omega) (by omega)
   have hw2 := wrap1 (show k + 1 ≤ 9223372036854775807 by omega)
   have ha := iad_ar (t := 81) (b := 16) (r := r) (a := 0) (sz := 2) hkn
   have hb := iad_ar (t := 81) (b := 16) (r := r) (a := 0) (sz := 2) (show k - 1 < S.length by omega)
   rw [Nat.zero_add] at ha hb
   obtain ⟨q1, q2⟩ := atm_at (d := S ++ z) (i := k) (by simp; omega)
   obtain ⟨q3, q4⟩ := atm_at (d := S ++ z) (i := k - 1) (by simp; omega)
   rw [List.getElem_append_left hkn] at q2
   rw [List.getElem_append_left (show k - 1 < S.length by omega)] at q4
   have hg := hA.get
   simp only [go_sem, simprocAttr, g0, g3, d1]
   refine W_draw [(3, 8)] (by kernel_rfl) ?_
   by_cases hxe : S[k] = S[k - 1]
   ·have dx : decide (S[k] = S[k - 1]) = true := by simpa using hxe
    have hs1 : aSlice Tryz.prog 50 (.ar r 0 S.length 2) (some (.lit (.int .i64 (k : Nat)))) none = some (.ar r (0 + k) (S.length - k) 2) := slice_ar el_sAtm rfl (aNat_cast .i64 k) (by omega) (Nat.le_refl _)
    rw [Nat.zero_add] at hs1
    simp only [go_sem, simprocAttr, g0, g3, hw1, ha, hb, hg, q1, q2, q3, q4, dx, hs1]
    have hDk : ded (S.take (k + 1)) = S.take k := by rw [ded_take (by omega) hkn, if_pos hxe.symm, hD]
    refine W_loop_ind (fun m e H => ∃ (j kk : Nat) (d' : List (Int × Int)), m = S.length - (k + j) ∧ 1 ≤ j ∧ k + j ≤ S.length ∧ kk < k + j ∧ (ded (S.take (k + j))).length = kk ∧ d'.length = (S ++ z).length ∧ d'.take kk = ded (S.take (k + j)) ∧ d'.drop (k + j - 1) = (S ++ z).drop (k + j - 1) ∧
      Arr H0 r H (encAs d') ∧ gget .bad e 0 = .ar r 0 S.length 2 ∧ gget .bad e 3 = .lit (.int .i64 (kk : Nat)) ∧ gget .bad e 4 = .ar r k (S.length - k) 2 ∧ gget .bad e 5 = .lit (.int .i64 (j : Nat)))
     (S.length - (k + 1)) ⟨1, k, S ++ z, rfl, by omega, by omega, by omega, by rw [hDk, List.length_take]; omega, rfl, by rw [hDk, List.take_append_of_le_length hk], rfl, by repeat (first | exact hA | refine Arr.up ?_ _), by simp only [go_sem, simprocAttr, g0], by simp only [go_sem, simprocAttr, g3], by simp only [go_sem, simprocAttr], by simp only [go_sem, simprocAttr]⟩ ?_
    clear ih hA g0 g3 hg
    rintro m ih e H ⟨j, kk, d', rfl, hj1, hjn, hkj, hkk, hl, ht, hd, hA, g0, g3, g4, g5⟩
    by_cases hjl : k + j < S.length
    ·have d2 : decide ((j : Int) < ((S.length - k : Nat) : Int)) = true := by simp; omega
     have hv1 := wrapD (show 0 < j by omega) (by omega)
     have hv2 := wrap1 (show j + 1 ≤ 9223372036854775807 by omega)
     have hv3 := wrap1 (show kk + 1 ≤ 9223372036854775807 by omega)
     have ha := iad_ar (t := 81) (b := 16) (r := r) (a := k) (sz := 2) (show j < S.length - k by omega)
     have hb := iad_ar (t := 81) (b := 16) (r := r) (a := k) (sz := 2) (show j - 1 < S.length - k by omega)
     have hc := iad_ar (t := 81) (b := 16) (r := r) (a := 0) (sz := 2) (show kk < S.length by omega)
     rw [Nat.zero_add] at hc
     have hSz : S.length ≤ (S ++ z).length := by simp
     have hor : ∀ (i : Nat) (h1 : k + j - 1 ≤ i) (h2 : i < S.length), d'[i]'(by omega) = S[i] := by
      intro i h1 h2
      have e1 : (d'.drop (k + j - 1))[i - (k + j - 1)]? = ((S ++ z).drop (k + j - 1))[i - (k + j - 1)]? := by rw [hd]
      rw [List.getElem?_drop, List.getElem?_drop, show k + j - 1 + (i - (k + j - 1)) = i by omega, List.getElem?_append_left h2] at e1
      have e2 : i < d'.length := by omega
      simpa [e2, h2] using e1
     obtain ⟨q1, q2⟩ := atm_at (d := d') (i := k + j) (by omega)
     obtain ⟨q3, q4⟩ := atm_at (d := d') (i := k + (j - 1)) (by omega)
     rw [hor _ (by omega) hjl] at q2
     rw [hor _ (by omega) (by omega)] at q4
     have hg := hA.get
     have hst : kk * 2 + 2 ≤ (encAs d').flatten.length := by rw [flat_len (encAs_unif d')]; simp [encAs]; omega
     simp only [go_sem, simprocAttr, g0, g3, g4, g5, d2]
     refine W_draw [(3, 8)] (by kernel_rfl) ?_
     have hdt := ded_take (S := S) (k := k + j) (by omega) hjl
     have hkj1 : k + (j - 1) = k + j - 1 := by omega
     by_cases hxe : S[k + j] = S[k + (j - 1)]
     ·have dx : decide (S[k + j] = S[k + (j - 1)]) = true := by simpa using hxe
      simp only [go_sem, simprocAttr, g0, g3, g4, g5, hv1, hv2, ha, hb, hg, q1, q2, q3, q4, dx]
      have hxe' : S[k + j - 1] = S[k + j] := by simp only [hkj1] at hxe; exact hxe.symm
      rw [if_pos hxe'] at hdt
      exact ih (S.length - (k + (j + 1))) (by omega) _ _ ⟨j + 1, kk, d', rfl, by omega, by omega, by omega, by rw [← Nat.add_assoc, hdt, hkk], hl, by rw [← Nat.add_assoc, hdt, ht], drop_more hd (by omega), by repeat (first | exact hA | refine Arr.up ?_ _),
       by simp only [go_sem, simprocAttr, g0], by simp only [go_sem, simprocAttr, g3], by simp only [go_sem, simprocAttr, g4], by simp only [go_sem, simprocAttr]⟩
     ·have dx : decide (S[k + j] = S[k + (j - 1)]) = false := by simpa using hxe
      have hxe' : ¬ S[k + j - 1] = S[k + j] := by simp only [hkj1] at hxe; exact fun h => hxe h.symm
      rw [if_neg hxe'] at hdt
      have hfs := flat_set (encAs_unif d') (i := kk) (by simp [encAs]; omega) (x := avA S[k + j])
      have hes : (encAs d').set kk (avA S[k + j]) = encAs (d'.set kk S[k + j]) := by unfold encAs; rw [List.map_set]
      simp only [go_sem, simprocAttr, g0, g3, g4, g5, hv1, hv2, hv3, ha, hb, hc, hg, q1, q2, q3, q4, dx, hst, hfs]
      refine ih (S.length - (k + (j + 1))) (by omega) _ _ ⟨j + 1, kk + 1, d'.set kk S[k + j], rfl, by omega, by omega, by omega, by rw [← Nat.add_assoc, hdt, List.length_append, hkk]; rfl, by rw [List.length_set]; exact hl, ?_, ?_, ?_,
       by simp only [go_sem, simprocAttr, g0], by simp only [go_sem, simprocAttr], by simp only [go_sem, simprocAttr, g4], by simp only [go_sem, simprocAttr]⟩
      ·rw [← Nat.add_assoc, hdt, ← ht]; exact take_set_snoc (by omega) _
      ·rw [List.drop_set_of_lt (by omega)]; exact drop_more hd (by omega)
      ·repeat (with_reducible refine Arr.up ?_ _)
       refine Arr.write (es := encAs d') ?_ (by rw [hes])
       repeat (first | exact hA | refine Arr.up ?_ _)
    ·have hjS : k + j = S.length := by omega
     have d2 : decide ((j : Int) < ((S.length - k : Nat) : Int)) = false := by simp; omega
     rw [hjS, List.take_of_length_le (Nat.le_refl _)] at hkk ht
     have hg := hA.get
     have hk3 : kk ≤ S.length := by omega
     have ht1 : aSlice Tryz.prog 50 (.ar r 0 S.length 2) (some (.lit (.int .i64 (kk : Nat)))) none = some (.ar r (0 + kk) (S.length - kk) 2) := slice_ar el_sAtm rfl (aNat_cast .i64 kk) (by omega) (Nat.le_refl _)
     have ht2 : aSlice Tryz.prog 50 (.ar r 0 S.length 2) none (some (.lit (.int .i64 (kk : Nat)))) = some (.ar r (0 + 0) (kk - 0) 2) := slice_ar el_sAtm (aNat_cast .i64 kk) rfl (by omega) (by omega)
     rw [Nat.zero_add] at ht1
     rw [Nat.zero_add, Nat.sub_zero] at ht2
     have hSl2 : S.length ≤ d'.length := by rw [hl]; simp
     have hcl := fun (H' : Heap) (hg' : H'.get r = some (encAs d').flatten) => clr_atm (r := r) (d := d') (m := kk) (n := S.length) hk3 hSl2 hg'
     simp only [go_sem, simprocAttr, g0, g3, g4, g5, d2, ht1, ht2, hg, hcl, rs]
     refine ⟨_, rfl, by rw [hkk]; rfl, List.replicate (S.length - kk) (0, 0) ++ d'.drop S.length, ?_⟩
     repeat (with_reducible refine Arr.up ?_ _)
     refine Arr.write (es := encAs d') (by repeat (first | exact hA | refine Arr.up ?_ _)) ?_
     rw [← ht, ← List.append_assoc]
   ·have dx : decide (S[k] = S[k - 1]) = false := by simpa using hxe
    simp only [go_sem, simprocAttr, g0, g3, hw1, hw2, ha, hb, hg, q1, q2, q3, q4, dx]
    exact ih (S.length - (k + 1)) (by omega) _ _ ⟨k + 1, rfl, by omega, by omega, by rw [ded_take (by omega) hkn, if_neg (fun e => hxe e.symm), hD, List.take_succ_eq_append_getElem hkn], by repeat (first | exact hA | refine Arr.up ?_ _), by simp only [go_sem, simprocAttr, g0], by simp only [go_sem, simprocAttr]⟩
  ·have d1 : decide ((k : Int) < (S.length : Nat)) = false := by simp; omega
   have hkS : k = S.length := by omega
   rw [List.take_of_length_le (by omega)] at hD
   simp only [go_sem, simprocAttr, g0, g3, d1, rs]
   exact ⟨_, rfl, by rw [hD]; rfl, z, by rw [hD]; repeat (first | exact hA | refine Arr.up ?_ _)⟩
end Go.Proofs.YtnoahchdmkpleaaGreat.VA

/-! No4 -/
namespace Go.Proofs.YtnoahchdmkpleaaGreat.VA
open Go Go.RowKit
attribute [local go_sem] Nat.add_eq_left Nat.left_eq_add true_and and_true ite_true if_false Int.cast_ofNat_Int eq_self Nat.add_assoc Option.some.injEq decide_true decide_false Bool.not_true Bool.not_false List.size_toArray List.length_cons List.length_nil
set_option linter.unusedSimpArgs false
set_option maxRecDepth 100000

def LA : Nat := 1000000000000
def normA (d : List (Int × Int)) : List (Int × Int) := ded (srt (d.filter rightA))
theorem sanL_avA (x : Int × Int) : sanL (avA x) = avA x := rfl
@[go_sem] theorem sanLL_encAs (d : List (Int × Int)) : sanLL (encAs d) = encAs d := by
 rw [sanLL_map]; unfold encAs; rw [List.map_map]; rfl
theorem encAs_one (d : List (Int × Int)) : (encAs d).flatten.all AV.one = true := by
 induction d with
 | nil => rfl
 | cons x d ih => show ((avA x) ++ (encAs d).flatten).all AV.one = true; rw [List.all_append, ih]; rfl
theorem c_cloneAtm (x : Int × Int) (d : List (Int × Int)) (hl : d.length + 1 ≤ LA) (o : Own) (H : Heap) : ∃ v H', calls Tryz.prog cfg1 74 [.sl o (encAs (x :: d))] H = some (.ret v H') ∧ (v = .ar H.next 0 (x :: d).length 2 ∧ Arr H' H.next H' (encAs (x :: d))) := by
 refine ⟨_, _, calls_tolH (h := clnA) (v := .ar H.next 0 (d.length + 1) 2) (us := [.box H.next (encAs (x :: d)).flatten]) rfl rfl rfl ?_, rfl, ?_⟩
 ·have hu : ((avA x :: d.map avA).all fun x => x.length == 2) = true := List.all_eq_true.2 fun e he => by simpa using encAs_unif (x :: d) e he
  have hl' : (avA x :: d.map avA).length ≤ 1000000000000 := by simp; unfold LA at hl; omega
  show clnA [.sl o (avA x :: d.map avA)] H = _
  unfold clnA
  simp only
  rw [if_pos ⟨hu, hl'⟩]
  simp [encAs]
 ·exact Arr.start (by simp [appU, U.app]) (by simp [appU, U.app])
theorem c_sortAtm (F z : List (Int × Int)) (H0 : Heap) (r : Nat) (h0 : Arr H0 r H0 (encAs (F ++ z))) (hlen : F.length ≤ LA) : ∃ v H', calls Tryz.prog cfg1 104 [.ar r 0 F.length 2, .fn 72 []] H0 = some (.ret v H') ∧
  (v = .tup [] ∧ Arr H0 r H' (encAs (srt F ++ z))) := by
 have e1 : (encAs (F ++ z)).flatten = avAs F ++ avAs z := by rw [encAs_flat]; unfold avAs; rw [List.flatMap_append]
 have hg := h0.get
 rw [e1] at hg
 have hal := avAs_length F
 refine ⟨_, _, calls_tolH (h := srtA 72) (v := .tup []) (us := [.box r (avAs (srt F) ++ avAs z)]) rfl rfl rfl ?_, rfl, ?_⟩
 ·unfold srtA
  simp only [if_true, hg]
  rw [if_pos ⟨by rw [List.length_append]; omega, hlen⟩, List.take_left' hal, List.drop_left' hal, decA_av]
 ·have e2 : (encAs (srt F ++ z)).flatten = avAs (srt F) ++ avAs z := by rw [encAs_flat]; unfold avAs; rw [List.flatMap_append]
  refine ⟨?_, Nat.le_succ _, fun k hk hr => ?_, h0.rl⟩
  ·rw [e2]; simp [appU, U.app]
  ·have hr' : ¬ r = k := fun e => hr e.symm
   simp [appU, U.app, Heap.put, Heap.ho_set, hr']
theorem c_idxNil (H : Heap) : ∃ v H', calls Tryz.prog cfg1 149 [.sl .sh [], .fn 102 []] H = some (.ret v H') ∧ v = .lit (.int .i64 (-1)) := by
 refine calls_imp (fn := Tryz.f149) rfl rfl rfl rfl rfl ?_
 have rs : Tryz.f149.results.toList = [.tmp 4] := rfl
 have d0 : decide ((0 : Int) < 0) = false := rfl
 simp only [go_sem, simprocAttr, rs]
 rw [W_loop]
 simp only [go_sem, simprocAttr, rs, d0]
 exact ⟨_, rfl, rfl⟩
theorem c_delNil (H : Heap) : ∃ v H', calls Tryz.prog cfg1 101 [.sl .sh [], .fn 102 []] H = some (.ret v H') ∧ v = .sl .sh [] := by
 refine calls_arr (fn := Tryz.f101) rfl rfl rfl rfl rfl ?_
 have rs : Tryz.f101.results.toList = [.tmp 4] := rfl
 have d0 : decide ((-1 : Int) = -1) = true := rfl
 simp only [go_sem, simprocAttr, rs]
 refine goC_ex (c_idxNil _) ?_
 rintro v H1 rfl
 simp only [go_sem, simprocAttr, rs, d0]
 exact ⟨_, rfl, rfl⟩
theorem c_cmpNil (H : Heap) : ∃ v H', calls Tryz.prog cfg1 105 [.sl .sh []] H = some (.ret v H') ∧ v = .sl .sh [] := by
 refine calls_arr (fn := Tryz.f105) rfl rfl rfl rfl rfl ?_
 have rs : Tryz.f105.results.toList = [.tmp 2] := rfl
 have d0 : decide ((0 : Int) < 2) = true := rfl
 simp only [go_sem, simprocAttr, rs, d0]
 exact ⟨_, rfl, rfl⟩
theorem frz_atm {H : Heap} {r : Nat} {a b : List (Int × Int)} (h : H.get r = some (encAs (a ++ b)).flatten) : san (frz H (.ar r 0 a.length 2)) = .sl .sh (encAs a) := by
 have hl : (0 + a.length) * 2 ≤ (encAs (a ++ b)).flatten.length := by rw [flat_len (encAs_unif _)]; simp [encAs]; omega
 simp only [frz, h]
 rw [if_pos ⟨hl, encAs_one _⟩, Nat.zero_mul, List.drop_zero, chunk_flat _ (encAs_unif _) (by simp [encAs])]
 have : (encAs (a ++ b)).take a.length = encAs a := by unfold encAs; rw [List.map_append]; exact List.take_left' (by simp)
 rw [this]
 simp only [san, sanLL_encAs]
theorem c_norm (d : List (Int × Int)) (hlen : d.length ≤ LA) (o : Own) (H : Heap) : calls Tryz.prog cfg1 60 [.sl o (encAs d)] H = some (.ret (.sl .sh (encAs (normA d))) H) := by
 refine calls_frz (fn := Tryz.f60) rfl rfl rfl rfl rfl ?_ H
 have rs : Tryz.f60.results.toList = [.tmp 2] := rfl
 cases d with
 | nil =>
  have hc : ∀ H, calls Tryz.prog cfg1 74 [.sl .sh []] H = some (.ret (.sl .sh []) (appU { H with next := H.next + 1 } [])) := fun H => calls_tolH (h := clnA) rfl rfl rfl rfl
  have hs : ∀ H, calls Tryz.prog cfg1 104 [.sl .sh [], .fn 72 []] H = some (.ret (.tup []) (appU { H with next := H.next + 1 } [])) := fun H => calls_tolH (h := srtA 72) rfl rfl rfl rfl
  have e0 : encAs [] = [] := rfl
  simp only [go_sem, simprocAttr, rs, e0, hc]
  refine goC_ex (c_delNil _) ?_
  rintro v H1 rfl
  simp only [go_sem, simprocAttr, rs, hs]
  refine goC_ex (c_cmpNil _) ?_
  rintro v H2 rfl
  simp only [go_sem, simprocAttr, rs]
  have hn : normA [] = [] := by simp [normA, srt, ded]
  rw [hn]
  exact ⟨_, rfl, rfl⟩
 | cons x d =>
  simp only [go_sem, simprocAttr, rs]
  refine goC_ex (c_cloneAtm x d hlen _ _) ?_
  rintro v H1 ⟨rfl, hA1⟩
  generalize Heap.next _ = r at hA1 ⊢
  simp only [go_sem, simprocAttr, rs]
  refine goC_ex (c_delAtm (x :: d) _ r hA1 hlen) ?_
  rintro v H2 ⟨rfl, z, hzz, hA2⟩
  generalize hF : (x :: d).filter rightA = F at hzz hA2 ⊢
  have hFl : F.length ≤ (x :: d).length := by rw [← hF]; exact List.length_filter_le ..
  simp only [go_sem, simprocAttr, rs]
  refine goC_ex (c_sortAtm F z _ r (Arr.start (es := encAs (F ++ z)) hA2.get (by have := hA2.rl; have := hA2.nx; simp only [go_sem, simprocAttr]; omega)) (by omega)) ?_
  rintro v H3 ⟨rfl, hA3⟩
  simp only [go_sem, simprocAttr, rs]
  have hsl : (srt F).length = F.length := by rw [srt, List.length_mergeSort]
  have hzl : (srt F ++ z).length ≤ 1000000000000 := by
   rw [List.length_append, hsl]; rw [List.length_append] at hzz; unfold LA at hlen; omega
  rw [← hsl]
  refine goC_ex (c_cmpct (srt F) z _ r (Arr.start (es := encAs (srt F ++ z)) hA3.get (by have := hA3.rl; have := hA3.nx; simp only [go_sem, simprocAttr] at *; omega)) hzl) ?_
  rintro v H4 ⟨rfl, z', hA4⟩
  simp only [go_sem, simprocAttr, rs]
  refine ⟨_, rfl, ?_⟩
  have hn : normA (x :: d) = ded (srt F) := by unfold normA; rw [hF]
  rw [hn]
  exact frz_atm hA4.get
end Go.Proofs.YtnoahchdmkpleaaGreat.VA
