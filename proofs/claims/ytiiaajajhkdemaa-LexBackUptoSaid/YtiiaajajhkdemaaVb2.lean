/- What is said: the abstract interpreter (VA): code and calls. -/
import Derived.Test.YtiiaajajhkdemaaVb1
namespace Go.Proofs.Ytiiaajajhkdemaa.VA
open Go Go.RowKit

noncomputable instance noConfDec (a b : Tr) : Decidable (NoConf a b) := by
  cases a <;> cases b <;> unfold NoConf <;> infer_instance
/-- Do all pairs that may come up in either order let each other alone? -/
def TrOk (ops : Array Oper) (tr : List Tr) : Prop := ∀ p ∈ unord ops, NoConf (tr.getD p.1 .dead) (tr.getD p.2 .dead)
noncomputable instance trOkDec (ops : Array Oper) (tr : List Tr) : Decidable (TrOk ops tr) := by unfold TrOk; infer_instance
noncomputable def runRegion (P : Program) (K : Calling) (imp : FuncId → Bool) (ops : Array Oper) (draw : Bool) (e : List AV) (H : Heap) : Option (Ex × List AV × Heap) :=
  let H1 : Heap := { H with next := H.next + ops.size }
  match draw with
  | false => runOps P K ops H.next ops.toList 0 e H1
  | true =>
    match runTr P K imp ops H.next ops.toList 0 none e H1 with
    | none => none
    | some (tr, pk, e', H') =>
      if TrOk ops tr then
        match pk with
        | none => some (.nrm, e', H')
        | some (_, v, H2) => some (.pan v, e', H2)
      else none
noncomputable def exec (P : Program) (K : Calling) (imp : FuncId → Bool) : Nat → Code → List AV → Heap → Option (Ex × List AV × Heap)
  | 0, _, _, _ => none
  | k + 1, c, e, H =>
    match c with
    | .skip => some (.nrm, e, H)
    | .label _ => some (.nrm, e, H)
    | .region _ ops d => runRegion P K imp ops d e H
    | .seq a b =>
      match exec P K imp k a e H with
      | some (.nrm, e', H') => exec P K imp k b e' H'
      | r => r
    | .cond c a b =>
      match aeval e c with
      | .lit (.bool true) => exec P K imp k a e H
      | .lit (.bool false) => exec P K imp k b e H
      | _ => none
    | .block id a =>
      match exec P K imp k a e H with
      | some (.exit j, e', H') => if j = id then some (.nrm, e', H') else some (.exit j, e', H')
      | r => r
    | .loop a =>
      match exec P K imp k a e H with
      | some (.nrm, e', H') => exec P K imp k (.loop a) e' H'
      | r => r
    | .exit id => some (.exit id, e, H)
    | .scope a => exec P K imp k a e H
    | .ret => some (.ret, e, H)
    | _ => none
def aResult (P : Program) (e : List AV) (H : Heap) : ResultVar → Option AV
  | .tmp t => some (gget .bad e t)
  | .cell a t => (aLoad P t (gget .bad e a) H).map (·.1)
def aResults (P : Program) (e : List AV) (H : Heap) : List ResultVar → Option (List AV)
  | [] => some []
  | r :: rs =>
    match aResult P e H r, aResults P e H rs with
    | some v, some vs => some (v :: vs)
    | _, _ => none
def oneOr : List AV → AV
  | [v] => v
  | vs => .tup vs
/-- What the interpreter is told of a program: the functions that it may run, which of them write to their caller's memory, and functions that are told outright. -/
structure Cfg where
  fn : FuncId → Option Func
  imp : FuncId → Bool
  told : FuncId → Option (List AV → Option AV)
noncomputable def runFn (P : Program) (K : Calling) (imp : FuncId → Bool) (k : Nat) (fn : Func) (args : List AV) (H : Heap) : Option CR :=
  match fn.body with
  | none => none
  | some code =>
    if args.length ≤ fn.ntmps then
      match exec P K imp k code args H with
      | some (.pan v, _, H') => some (.pan (san v) H')
      | some (.exit _, _, _) => none
      | some (_, e, H') =>
        match aResults P e H' fn.results.toList with
        | some vs => some (.ret (san (oneOr vs)) H')
        | none => none
      | none => none
    else none
noncomputable def call (P : Program) (c : Cfg) : Nat → Calling
  | 0, _, _, _ => none
  | k + 1, f, args, H =>
    match c.told f with
    | some h =>
      match h (sanL args) with
      | some v => some (.ret v H)
      | none => none
    | none =>
      match c.fn f with
      | none => none
      | some fn =>
        match c.imp f with
        | true => runFn P (call P c k) c.imp k fn args H
        | false =>
          match runFn P (call P c k) c.imp k fn (sanL args) Heap.empty with
          | some (.ret v _) => some (.ret v H)
          | _ => none
end Go.Proofs.Ytiiaajajhkdemaa.VA
