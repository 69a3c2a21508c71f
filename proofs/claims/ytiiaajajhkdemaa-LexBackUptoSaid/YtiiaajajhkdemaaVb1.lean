/- What is said: the abstract interpreter (VA) itself: regions, code, calls. -/
import Derived.Test.YtiiaajajhkdemaaVa9
namespace Go.Proofs.Ytiiaajajhkdemaa.VA
open Go Go.RowKit

/-! ### are two abstract values surely the same? -/
def veq : Value → Value → Bool
  | .bool a, .bool b => a == b
  | .int k a, .int l b => decide (k = l) && decide (a = b)
  | .string a, .string b => strEq a b
  | .pointer none, .pointer none => true
  | .map none, .map none => true
  | .nilFunc, .nilFunc => true
  | .nilIface, .nilIface => true
  | _, _ => false
theorem veq_sound {a b : Value} (h : veq a b = true) : a = b := by
  unfold veq at h
  split at h
  · simpa using h
  · simpa using h
  · rw [(strEq_iff _ _).1 h]
  · rfl
  · rfl
  · rfl
  · rfl
  · cases h
def oeq : Own → Own → Bool
  | .nil, .nil | .sh, .sh | .ex, .ex => true
  | .own s e z, .own s' e' z' => s == s' && e == e' && z == z'
  | _, _ => false
theorem oeq_sound {a b : Own} (h : oeq a b = true) : a = b := by
  cases a <;> cases b <;> simp_all [oeq]
mutual
def aveq : AV → AV → Bool
  | .bad, .bad => true
  | .lit a, .lit b => veq a b
  | .sl o es, .sl o' es' => oeq o o' && aveqLL es es'
  | .ptr r o, .ptr r' o' => r == r' && o == o'
  | .ep cs, .ep cs' => aveqL cs cs'
  | .fn f cs, .fn f' cs' => f == f' && aveqL cs cs'
  | .ifc t v, .ifc t' v' => t == t' && aveq v v'
  | .mp r, .mp r' => r == r'
  | .agg cs, .agg cs' => aveqL cs cs'
  | .tup cs, .tup cs' => aveqL cs cs'
  | _, _ => false
def aveqL : List AV → List AV → Bool
  | [], [] => true
  | x :: l, y :: m => aveq x y && aveqL l m
  | _, _ => false
def aveqLL : List (List AV) → List (List AV) → Bool
  | [], [] => true
  | x :: l, y :: m => aveqL x y && aveqLL l m
  | _, _ => false
end
mutual
theorem aveq_sound : ∀ (a b : AV), aveq a b = true → a = b
  | .bad, b, h => by cases b <;> simp [aveq] at h; rfl
  | .lit a, b, h => by cases b <;> simp [aveq] at h; rw [veq_sound h]
  | .sl o es, b, h => by
    cases b <;> simp [aveq] at h
    rw [oeq_sound h.1, aveqLL_sound _ _ h.2]
  | .ptr r o, b, h => by cases b <;> simp [aveq] at h; rw [h.1, h.2]
  | .ep cs, b, h => by cases b <;> simp [aveq] at h; rw [aveqL_sound _ _ h]
  | .fn f cs, b, h => by cases b <;> simp [aveq] at h; rw [h.1, aveqL_sound _ _ h.2]
  | .ifc t v, b, h => by cases b <;> simp [aveq] at h; rw [h.1, aveq_sound _ _ h.2]
  | .mp r, b, h => by cases b <;> simp [aveq] at h; rw [h]
  | .agg cs, b, h => by cases b <;> simp [aveq] at h; rw [aveqL_sound _ _ h]
  | .tup cs, b, h => by cases b <;> simp [aveq] at h; rw [aveqL_sound _ _ h]
theorem aveqL_sound : ∀ (a b : List AV), aveqL a b = true → a = b
  | [], b, h => by cases b <;> simp [aveqL] at h; rfl
  | x :: l, b, h => by
    cases b <;> simp [aveqL] at h
    rw [aveq_sound _ _ h.1, aveqL_sound _ _ h.2]
theorem aveqLL_sound : ∀ (a b : List (List AV)), aveqLL a b = true → a = b
  | [], b, h => by cases b <;> simp [aveqLL] at h; rfl
  | x :: l, b, h => by
    cases b <;> simp [aveqLL] at h
    rw [aveqL_sound _ _ h.1, aveqLL_sound _ _ h.2]
end
def bxeq : Option (List AV) → Option (List AV) → Bool
  | none, none => true
  | some a, some b => aveqL a b
  | _, _ => false
theorem bxeq_sound {a b : Option (List AV)} (h : bxeq a b = true) : a = b := by
  cases a <;> cases b <;> simp [bxeq] at h
  · rfl
  · rw [aveqL_sound _ _ h]
/-- Does a call leave what a number names as it was? -/
def Keeps (H H' : Heap) (r : Nat) : Prop := H.get r = H'.get r ∧ H.isLive r = H'.isLive r
noncomputable instance keepsDec (H H' : Heap) (r : Nat) : Decidable (Keeps H H' r) :=
  if h : (bxeq (H.get r) (H'.get r) && (H.isLive r == H'.isLive r)) = true then .isTrue (by
    simp only [Bool.and_eq_true, beq_iff_eq] at h
    exact ⟨bxeq_sound h.1, h.2⟩)
  else Classical.propDecidable _

/-! ### regions -/
inductive CR where
  | ret (v : AV) (H : Heap)
  | pan (v : AV) (H : Heap)
abbrev Calling := FuncId → List AV → Heap → Option CR
inductive Ex where
  | nrm
  | exit (id : Nat)
  | ret
  | pan (v : AV)
def aWanted (ops : Array Oper) (e : List AV) (o : Oper) : Option Bool :=
  match o.guard with
  | none => some true
  | some (j, want) =>
    match (ops[j]?).bind (·.dst) with
    | some d =>
      match gget .bad e d with
      | .lit (.bool b) => some (b == want)
      | .tup [] => some false
      | _ => none
    | none => some false
/-- A region whose order is the text's. -/
def runOps (P : Program) (K : Calling) (ops : Array Oper) (base : Nat) : List Oper → Nat → List AV → Heap → Option (Ex × List AV × Heap)
  | [], _, e, H => some (.nrm, e, H)
  | o :: os, i, e, H =>
    match aWanted ops e o with
    | none => none
    | some false => runOps P K ops base os (i + 1) (aput e o.dst (.tup [])) H
    | some true =>
      match astep P (aeval e) H (base + i) o.op with
      | none => none
      | some (.val v us _) => runOps P K ops base os (i + 1) (aput e o.dst v) (appU H us)
      | some (.pan v) => some (.pan v, e, H)
      | some (.call f args) =>
        match K f args H with
        | none => none
        | some (.ret v H') => runOps P K ops base os (i + 1) (aput e o.dst v) H'
        | some (.pan v H') => some (.pan v, e, H')
/-- What an operation of a region that draws its order has done. -/
inductive Tr where
  | val (v : AV) (us : List U) (rs : List Nat)
  | call (v : AV) (Hb Ha : Heap)
  | pan
  | dead
def anc (ops : Array Oper) (i j : Nat) : Bool := ((Region.before ops).getD j 0).testBit i
/-- Does an operation wait for the one that has panicked? -/
def behind (ops : Array Oper) (pk : Option (Nat × AV × Heap)) (i : Nat) : Bool :=
  match pk with
  | some (k, _) => anc ops k i
  | none => false
def runTr (P : Program) (K : Calling) (imp : FuncId → Bool) (ops : Array Oper) (base : Nat) : List Oper → Nat → Option (Nat × AV × Heap) → List AV → Heap →
    Option (List Tr × Option (Nat × AV × Heap) × List AV × Heap)
  | [], _, pk, e, H => some ([], pk, e, H)
  | o :: os, i, pk, e, H =>
    if behind ops pk i = true then
      match runTr P K imp ops base os (i + 1) pk e H with
      | some (tr, r) => some (.dead :: tr, r)
      | none => none
    else
      match aWanted ops e o with
      | none => none
      | some false =>
        match runTr P K imp ops base os (i + 1) pk (aput e o.dst (.tup [])) H with
        | some (tr, r) => some (.val (.tup []) [] [] :: tr, r)
        | none => none
      | some true =>
        match astep P (aeval e) H (base + i) o.op with
        | none => none
        | some (.val v us rs) =>
          if pk.isSome = true ∧ us.isEmpty = false then none
          else
            match runTr P K imp ops base os (i + 1) pk (aput e o.dst v) (appU H us) with
            | some (tr, r) => some (.val v us rs :: tr, r)
            | none => none
        | some (.pan v) =>
          if pk.isSome = true then none
          else
            match runTr P K imp ops base os (i + 1) (some (i, v, H)) e H with
            | some (tr, r) => some (.pan :: tr, r)
            | none => none
        | some (.call f args) =>
          if imp f = true then
            if pk.isSome = true then none
            else
              match K f args H with
              | none => none
              | some (.ret v H') =>
                match runTr P K imp ops base os (i + 1) pk (aput e o.dst v) H' with
                | some (tr, r) => some (.call v H H' :: tr, r)
                | none => none
              | some (.pan v H') =>
                match runTr P K imp ops base os (i + 1) (some (i, v, H')) e H with
                | some (tr, r) => some (.pan :: tr, r)
                | none => none
          else
            match K f args H with
            | some (.ret v _) =>
              match runTr P K imp ops base os (i + 1) pk (aput e o.dst v) H with
              | some (tr, r) => some (.val v [] [] :: tr, r)
              | none => none
            | _ => none
/-- Operations that may touch memory. -/
def touchy (o : Oper) : Bool :=
  match o.op with
  | .alloc _ | .box _ _ | .load _ _ | .store _ _ _ | .panic _ => true
  | .call { callee := .builtin .append, .. } => true
  | .call { callee := .value _, .. } => true
  | _ => false
/-- The pairs of them that may come up in either order. -/
def unord (ops : Array Oper) : List (Nat × Nat) :=
  let ts := (List.range ops.size).filter fun i => touchy (ops.getD i default)
  let b := Region.before ops
  ts.flatMap fun j => (ts.filter fun i => decide (i < j) && !(b.getD j 0).testBit i).map fun i => (i, j)
def NoConf : Tr → Tr → Prop
  | .val _ us rs, .val _ us' rs' => (∀ u ∈ us, (∀ u' ∈ us', u.key ≠ u'.key) ∧ u.key ∉ rs') ∧ ∀ u' ∈ us', u'.key ∉ rs
  | .val _ us rs, .call _ Hb Ha | .call _ Hb Ha, .val _ us rs => us = [] ∧ ∀ r ∈ rs, Keeps Hb Ha r
  | .val _ us _, .pan | .pan, .val _ us _ => us = []
  | .call _ _ _, .call _ _ _ | .call _ _ _, .pan | .pan, .call _ _ _ | .pan, .pan => False
  | .dead, _ | _, .dead => True
end Go.Proofs.Ytiiaajajhkdemaa.VA
