/- What is proved: the operations of the abstract interpreter (VA) that leave memory alone tell the value that the model's own operation yields. No condition. -/
import Derived.Test.YtiiaajajhkdemaaVa2
import Derived.Laws.Build
namespace Go.Proofs.Ytiiaajajhkdemaa.VA
open Go Go.RowKit

theorem addr_add (b o k : Nat) : (⟨b, o, none⟩ : Addr).add k = ⟨b, o + k, none⟩ := by
  unfold Addr.add
  split
  · rename_i h; subst h; rfl
  · rfl

/-! ### filling aggregates -/
def aFill (place : Nat → Option (Nat × Nat)) (cells : List AV) : List (Nat × AV) → Option (List AV)
  | [] => some cells
  | (i, v) :: rest =>
    match place i with
    | none => none
    | some (off, size) =>
      if v.cells.length = size ∧ off + size ≤ cells.length ∧ v.cells.all AV.one = true then aFill place (cells.take off ++ (v.cells ++ cells.drop (off + size))) rest else none
theorem foldl_set (off : Nat) : ∀ (l : List Value) (k : Nat) (cs : Array Value), off + k + l.length ≤ cs.size →
    ((l.zipIdx k).foldl (fun cs (x : Value × Nat) => cs.setIfInBounds (off + x.2) x.1) cs).toList = cs.toList.take (off + k) ++ (l ++ cs.toList.drop (off + k + l.length))
  | [], k, cs, h => by simp
  | v :: l, k, cs, h => by
    simp only [List.zipIdx_cons, List.foldl_cons]
    have hl : off + k + 1 + l.length ≤ cs.size := by simp at h; omega
    have ih := foldl_set off l (k + 1) (cs.setIfInBounds (off + k) v) (by simp; omega)
    rw [ih]
    have hlt : off + k < cs.toList.length := by simp; omega
    simp only [Array.toList_setIfInBounds]
    rw [← Nat.add_assoc, List.take_succ_eq_append_getElem (by simpa using hlt)]
    simp only [List.getElem_set_self, List.take_set_of_le (Nat.le_refl _), List.append_assoc, List.cons_append, List.nil_append]
    congr 2
    rw [List.drop_set_of_lt (by omega)]
    simp only [List.length_cons]
    congr 2
    omega
def Parts (g : Gh) (w : World) (ps : List (Nat × AV)) (qs : List (Nat × Value)) : Prop := ps.map (·.1) = qs.map (·.1) ∧ RelL g w (ps.map (·.2)) (qs.map (·.2))
theorem aFill_sound {g : Gh} {w : World} {place : Nat → Option (Nat × Nat)} : ∀ (ps : List (Nat × AV)) (qs : List (Nat × Value)) (cells res : List AV) (cs : Array Value),
    aFill place cells ps = some res → Parts g w ps qs → RelL g w cells cs.toList → ∃ cs', Instr.fill place cs qs = some cs' ∧ RelL g w res cs'.toList ∧ cs'.size = cs.size := by
  intro ps
  induction ps with
  | nil =>
    intro qs cells res cs h hp hc
    cases qs with
    | nil => simp [aFill] at h; subst h; exact ⟨cs, rfl, hc, rfl⟩
    | cons q qs => simp [Parts] at hp
  | cons p ps ih =>
    intro qs cells res cs h hp hc
    obtain ⟨i, v⟩ := p
    cases qs with
    | nil => simp [Parts] at hp
    | cons q qs =>
      obtain ⟨i', u⟩ := q
      obtain ⟨h1, h2⟩ := hp
      simp only [List.map_cons, List.cons.injEq] at h1
      obtain ⟨rfl, h1⟩ := h1
      simp only [List.map_cons] at h2
      simp only [aFill] at h
      cases hpl : place i with
      | none => simp [hpl] at h
      | some os =>
        obtain ⟨off, size⟩ := os
        simp only [hpl] at h
        split at h
        · rename_i hc1
          obtain ⟨hs, hle, hone⟩ := hc1
          have hv : RelL g w v.cells u.cells.toList := h2.head.cells hone
          have hsz : u.cells.size = size := by have := hv.1; simp at this; omega
          have hcs : cells.length = cs.size := by have := hc.1; simpa using this
          have hfold := foldl_set off u.cells.toList 0 cs (by simp; omega)
          simp only [Nat.add_zero, Array.length_toList, hsz] at hfold
          have hfold' : (u.cells.zipIdx.foldl (fun cs (x : Value × Nat) => cs.setIfInBounds (off + x.2) x.1) cs).toList = cs.toList.take off ++ (u.cells.toList ++ cs.toList.drop (off + size)) := by
            rw [← hfold, ← Array.foldl_toList, Array.toList_zipIdx]
          have hrel : RelL g w (cells.take off ++ (v.cells ++ cells.drop (off + size))) (u.cells.zipIdx.foldl (fun cs (x : Value × Nat) => cs.setIfInBounds (off + x.2) x.1) cs).toList := by
            rw [hfold']
            exact (hc.take off).append (hv.append (hc.drop (off + size)))
          obtain ⟨cs', hf, hr, hz⟩ := ih qs _ res _ h ⟨h1, h2.tail⟩ hrel
          refine ⟨cs', ?_, hr, ?_⟩
          · simp only [Instr.fill, hpl]
            rw [if_neg (by simp; omega)]
            exact hf
          · rw [hz]
            have := congrArg List.length hfold'
            rw [Array.length_toList, List.length_append, List.length_append, List.length_take, List.length_drop, Array.length_toList, Array.length_toList] at this
            rw [this]
            omega
        · cases h
def tPlaces (P : Program) : List Field → Option (List (Nat × Nat))
  | [] => some []
  | f :: fs =>
    match tSize P f.type, tPlaces P fs with
    | some n, some r => some ((f.offset, n) :: r)
    | _, _ => none
theorem tPlaces_run {P : Program} (w : World) : ∀ (fs : List Field) (r : List (Nat × Nat)), tPlaces P fs = some r →
    (fs.mapM (fun f => do pure (f.offset, ← sizeOf f.type)) : Sem (List (Nat × Nat))).run P w = .ok r w
  | [], r, h => by simp [tPlaces] at h; subst h; rfl
  | f :: fs, r, h => by
    simp only [tPlaces] at h
    split at h
    · rename_i n r' hn hr
      simp at h; subst h
      have ih := tPlaces_run w fs r' hr
      simp only [List.mapM_cons, Sem.run_bind, tSize_run hn, Result.andThen_ok, Sem.run_pure, ih]
    · cases h

/-! ### numbers -/
def aNat : AV → Option Nat
  | .lit (.int _ i) => if 0 ≤ i then some i.toNat else none
  | _ => none
theorem aNat_spec {g : Gh} {w : World} {x : AV} {v : Value} {n : Nat} (h : aNat x = some n) (r : Rel g w x v) : ∃ k i, v = .int k i ∧ 0 ≤ i ∧ i.toNat = n := by
  unfold aNat at h
  split at h
  · split at h
    · simp at h
      exact ⟨_, _, r.lit_inv, by assumption, h⟩
    · cases h
  · cases h
theorem Rel.sl_inv {g : Gh} {w : World} {o : Own} {es : List (List AV)} {v : Value} (h : Rel g w (.sl o es) v) :
    ∃ a cap, v = .slice a es.length cap ∧ es.length ≤ cap ∧ (∃ sz, ∀ x, x ∈ es → x.length = sz) ∧
      (∀ i e, es[i]? = some e → ∃ b off sz, a = some ⟨b, off, none⟩ ∧ Rel g w (.ep e) (.pointer (some ⟨b, off + i * sz, none⟩)) ∧ e.length = sz) := by
  cases h with
  | nil => exact ⟨none, 0, rfl, Nat.le_refl _, ⟨0, by simp⟩, by simp⟩
  | sl o es a n cap sz f ho hn hcap hex hown hsz hone ha hr =>
    subst hn
    refine ⟨a, cap, rfl, hcap, ⟨sz, hsz⟩, fun i e he => ?_⟩
    have hi : i < es.length := (List.getElem?_eq_some_iff.1 he).1
    obtain ⟨b, off, h1, h2, h3⟩ := ha (by omega)
    have hel : e.length = sz := hsz e (List.mem_of_getElem? he)
    have hb : i * sz + sz ≤ es.length * sz := by
      have := Nat.mul_le_mul_right sz (show i + 1 ≤ es.length by omega)
      rw [Nat.add_mul] at this
      omega
    refine ⟨b, off, sz, h1, .ep e b (off + i * sz) (fun j => f (i * sz + j)) ?_ ?_ ?_, hel⟩
    · rw [hel]; omega
    · intro k hk
      have := h3 (i * sz + k) (by omega)
      rw [← Nat.add_assoc] at this
      exact this
    · intro j x hx
      exact hr i e j x he hx

/-! ### operations that leave memory alone -/
def optNat (d : Nat) : Option AV → Option Nat
  | some x => aNat x
  | none => some d
inductive OptRel (g : Gh) (w : World) : Option AV → Option Value → Prop
  | none : OptRel g w none none
  | some (x : AV) (v : Value) (h : Rel g w x v) : OptRel g w (some x) (some v)
theorem optNat_spec {g : Gh} {w : World} {d n : Nat} {x : Option AV} {v : Option Value} (h : optNat d x = some n) (r : OptRel g w x v) :
    (v = none ∧ n = d) ∨ ∃ k i, v = some (.int k i) ∧ 0 ≤ i ∧ i.toNat = n := by
  cases r with
  | none => simp [optNat] at h; exact .inl ⟨rfl, h.symm⟩
  | some x v r => obtain ⟨k, i, rfl, h0, h1⟩ := aNat_spec h r; exact .inr ⟨k, i, rfl, h0, h1⟩
def aSlice (P : Program) (t : TypeId) (x : AV) (lo hi : Option AV) : Option AV :=
  match x with
  | .lit (.string s) =>
    match P.underlying t with
    | some .string =>
      match optNat s.size hi, optNat 0 lo with
      | some h, some l => if l ≤ h ∧ h ≤ s.size then some (.lit (.string (s.extract l h))) else none
      | _, _ => none
    | _ => none
  | .sl _ es =>
    match tElem P t with
    | some (_, n, _) =>
      match optNat es.length hi, optNat 0 lo with
      | some h, some l =>
        if l ≤ h ∧ h ≤ es.length then
          if l = h then some (.sl .sh [])
          else
            match es[l]? with
            | some e => if e.length = n then some (.sl .sh ((es.drop l).take (h - l))) else none
            | none => none
        else none
      | _, _ => none
    | none => none
  | _ => none
def aBin (P : Program) (op : BinOp) (t : TypeId) (x y : AV) : Option AV :=
  match x, y with
  | .lit (.int k a), .lit (.int k' b) => if k = k' then aInt op k a b else none
  | .lit (.string a), .lit (.string b) => aStr op a b
  | .lit (.bool a), .lit (.bool b) =>
    match op, P.underlying t with
    | .eql, some .bool => some (.lit (.bool (a == b)))
    | .neq, some .bool => some (.lit (.bool (!(a == b))))
    | _, _ => none
  | .agg xs, .agg ys =>
    if P.eqGuardType P.depth t = false then
      match op, aEq P 8 t (.agg xs) (.agg ys) with
      | .eql, some b => some (.lit (.bool b))
      | .neq, some b => some (.lit (.bool (!b)))
      | _, _ => none
    else none
  | .sl o es, .sl .nil [] =>
    match o, es, op, tElem P t with
    | .nil, _, .eql, some _ => some (.lit (.bool true))
    | .nil, _, .neq, some _ => some (.lit (.bool false))
    | _, _ :: _, .eql, some _ => some (.lit (.bool false))
    | _, _ :: _, .neq, some _ => some (.lit (.bool true))
    | _, _, _, _ => none
  | _, _ => none
def aPure (P : Program) (ρ : Operand → AV) : Op → Option AV
  | .move x | .assign x => some (ρ x)
  | .pick c a b =>
    match ρ c with
    | .lit (.bool true) => some (ρ a)
    | .lit (.bool false) => some (ρ b)
    | _ => none
  | .build t parts =>
    match P.underlying t with
    | some (.struct fs) =>
      match tPlaces P fs.toList, tZero P t with
      | some pl, some z => (aFill (fun i => pl[i]?) z (parts.toList.map fun p => (p.1, ρ p.2))).map .agg
      | _, _ => none
    | _ => none
  | .nilCheck x =>
    match ρ x with
    | .ptr r o => some (.ptr r o)
    | .ep cs => some (.ep cs)
    | .fn f cs => some (.fn f cs)
    | _ => none
  | .binOp op t x y _ => aBin P op t (ρ x) (ρ y)
  | .unOp op _ x =>
    match op, ρ x with
    | .not, .lit (.bool b) => some (.lit (.bool (!b)))
    | .neg, .lit (.int k n) => some (.lit (.int k (k.wrap (0 - n))))
    | _, _ => none
  | .convert src dst x =>
    match P.underlying src, P.underlying dst, ρ x with
    | some _, some (.int k), .lit (.int _ n) => some (.lit (.int k (k.wrap n)))
    | some .string, some .string, .lit (.string s) => some (.lit (.string s))
    | _, _, _ => none
  | .makeInterface t x => if P.concrete t = true then some (.ifc t (ρ x)) else none
  | .makeFunc (.func f) first caps => if first = #[] then some (.fn f (caps.toList.map ρ)) else none
  | .slice t x lo hi none => aSlice P t (ρ x) (lo.map ρ) (hi.map ρ)
  | .fieldAddr t x k =>
    match tField P t k, ρ x with
    | some (o, n, _), .ptr r off => if n = 0 then none else some (.ptr r (off + o))
    | some (o, n, _), .ep cs => if n = 0 then none else if o ≤ cs.length then some (.ep (cs.drop o)) else none
    | _, _ => none
  | .field t x k =>
    match tField P t k, ρ x with
    | some (o, n, true), .agg cs => if o + n ≤ cs.length then some (.agg ((cs.drop o).take n)) else none
    | some (o, _, false), .agg cs => cs[o]?
    | _, _ => none
  | .indexAddr t x i =>
    match tElem P t, ρ x, aNat (ρ i) with
    | some (_, n, _), .sl _ es, some i =>
      match es[i]? with
      | some e => if e.length = n then some (.ep e) else none
      | none => none
    | _, _, _ => none
  | .index t x i =>
    match P.underlying t, ρ x, aNat (ρ i) with
    | some .string, .lit (.string s), some i =>
      if h : i < s.size then some (.lit (.int .u8 (s[i]'h).toNat)) else none
    | _, _, _ => none
  | .extract x i =>
    match ρ x with
    | .tup vs => vs[i]?
    | _ => none
  | .call { callee := .builtin .len, args, argTypes } =>
    match args.toList, argTypes.toList with
    | [x], t :: _ =>
      match ρ x with
      | .lit (.string s) => match P.underlying t with | some .string => some (.lit (.int .i64 s.size)) | _ => none
      | .sl _ es => match tElem P t with | some _ => some (.lit (.int .i64 es.length)) | none => none
      | _ => none
    | _, _ => none
  | .call { callee := .builtin .min, args, .. } =>
    match args.toList with
    | [x, y] =>
      match ρ x, ρ y with
      | .lit (.int k a), .lit (.int _ b) => some (.lit (.int k (if b < a then b else a)))
      | _, _ => none
    | _ => none
  | .call { callee := .builtin .max, args, .. } =>
    match args.toList with
    | [x, y] =>
      match ρ x, ρ y with
      | .lit (.int k a), .lit (.int _ b) => some (.lit (.int k (if b > a then b else a)))
      | _, _ => none
    | _ => none
  | _ => none

theorem aSlice_sound {P : Program} {g : Gh} {w : World} {t : TypeId} {x z : AV} {lo hi : Option AV} {v : Value} {lo' hi' : Option Value} (h : aSlice P t x lo hi = some z)
    (hx : Rel g w x v) (hl : OptRel g w lo lo') (hh : OptRel g w hi hi') : ∃ u, (Instr.sliceAt t v lo' hi' none).run P w = .ok u w ∧ Rel g w z u := by
  unfold aSlice at h
  split at h
  · rename_i s
    split at h
    · rename_i hu
      rw [hx.lit_inv]
      split at h
      · rename_i h1 l1 hh1 hl1
        split at h
        · rename_i hc
          simp at h; subst h
          refine ⟨.string (s.extract l1 h1), ?_, .lit _⟩
          rcases optNat_spec hh1 hh with ⟨rfl, rfl⟩ | ⟨k, i, rfl, h0, rfl⟩ <;> rcases optNat_spec hl1 hl with ⟨rfl, rfl⟩ | ⟨k', i', rfl, h0', rfl⟩
          · simp [Instr.sliceAt, Instr.slice, Instr.sliceBounds, run_underlying hu]
          · simp [Instr.sliceAt, Instr.slice, Instr.sliceBounds, Instr.sliceBound, asIntOf, run_underlying hu, h0', show i' ≤ (s.size : Int) by omega]
          · simp [Instr.sliceAt, Instr.slice, Instr.sliceBounds, Instr.sliceBound, asIntOf, run_underlying hu, h0, show i ≤ (s.size : Int) by omega]
          · simp [Instr.sliceAt, Instr.slice, Instr.sliceBounds, Instr.sliceBound, asIntOf, run_underlying hu, h0, h0', show i ≤ (s.size : Int) by omega]
            intro hbad
            omega
        · cases h
      · cases h
    · cases h
  · rename_i o es
    split at h
    · rename_i e0 n bb het
      obtain ⟨hu, i0, hi0, hs0, _⟩ := tElem_spec het
      have e3 : (sizeOf e0).run P w = .ok n w := by simp [sizeOf, typeInfo, hi0, hs0]
      split at h
      · rename_i h1 l1 hh1 hl1
        split at h
        · rename_i hc
          have key : ∀ a cap, v = .slice a es.length cap → es.length ≤ cap → (Instr.sliceAt t v lo' hi' none).run P w = .ok (.slice (if cap = l1 then a else a.map (·.add (l1 * n))) (h1 - l1) (cap - l1)) w := by
            intro a cap hv hcap
            subst hv
            rcases optNat_spec hh1 hh with ⟨rfl, rfl⟩ | ⟨k, i, rfl, h0, rfl⟩ <;> rcases optNat_spec hl1 hl with ⟨rfl, rfl⟩ | ⟨k', i', rfl, h0', rfl⟩
            · simp [Instr.sliceAt, Instr.slice, Instr.sliceBounds, run_underlying hu, e3]
            · simp [Instr.sliceAt, Instr.slice, Instr.sliceBounds, Instr.sliceBound, asIntOf, run_underlying hu, e3, h0', show i' ≤ (es.length : Int) by omega]
            · simp [Instr.sliceAt, Instr.slice, Instr.sliceBounds, Instr.sliceBound, asIntOf, run_underlying hu, e3, h0, show i ≤ (cap : Int) by omega]
            · simp [Instr.sliceAt, Instr.slice, Instr.sliceBounds, Instr.sliceBound, asIntOf, run_underlying hu, e3, h0, h0', show i ≤ (cap : Int) by omega]
              intro hbad
              omega
          obtain ⟨a, cap, hv, hcap, _⟩ := hx.sl_inv
          refine ⟨_, key a cap hv hcap, ?_⟩
          split at h
          · rename_i hlh
            simp at h; subst h
            rw [show h1 - l1 = 0 by omega]
            exact .sl .sh [] _ 0 (cap - l1) 0 (fun _ => undef) (by simp) rfl (Nat.zero_le _) (by simp) (by simp) (by simp) (by simp) (fun h => absurd rfl h) (by simp)
          · rename_i hlh
            split at h
            · rename_i el hel
              split at h
              · rename_i hn
                simp at h; subst h
                cases hx with
                | nil => simp at hel
                | sl o es a' n' cap' sz f ho hn' hcap' hex hown hsz hone ha hr =>
                  subst hn'
                  simp only [Value.slice.injEq] at hv
                  obtain ⟨rfl, _, rfl⟩ := hv
                  have hszn : sz = n := by rw [← hn]; exact (hsz el (List.mem_of_getElem? hel)).symm
                  subst hszn
                  have hlen : ((es.drop l1).take (h1 - l1)).length = h1 - l1 := by simp; omega
                  obtain ⟨b, off, rfl, hvis, hcell⟩ := ha (by omega)
                  have hb := Nat.mul_le_mul_right sz (show l1 + (h1 - l1) ≤ es.length by omega)
                  rw [Nat.add_mul] at hb
                  refine .sl .sh _ _ (h1 - l1) (cap' - l1) sz (fun k => f (l1 * sz + k)) (by simp) hlen (by omega) (by simp) (by simp) ?_ (fun k hk => hone _ (by omega)) ?_ ?_
                  · intro x hx
                    exact hsz x (List.mem_of_mem_drop (List.mem_of_mem_take hx))
                  · intro _
                    refine ⟨b, off + l1 * sz, ?_, by omega, ?_⟩
                    · rw [if_neg (by omega)]
                      simp [addr_add]
                    · intro k hk
                      have h3 := hcell (l1 * sz + k) (by omega)
                      rw [← Nat.add_assoc] at h3
                      exact h3
                  · intro i e j x he hx
                    rw [List.getElem?_take] at he
                    split at he
                    · rw [List.getElem?_drop] at he
                      have := hr _ e j x he hx
                      rw [Nat.add_mul, Nat.add_assoc] at this
                      exact this
                    · cases he
              · cases h
            · cases h
        · cases h
      · cases h
    · cases h
  · cases h
theorem aIntCmp_sound {P : Program} {w : World} {op : BinOp} {a b : Int} {r : Bool} (h : aIntCmp op a b = some r) : (Op.intCmp op a b).run P w = .ok (.bool r) w := by
  cases op <;> simp only [aIntCmp, Option.some.injEq, reduceCtorEq] at h <;> subst h <;> rfl
theorem aInt_sound {P : Program} {g : Gh} {w : World} {op : BinOp} {k : IntKind} {t : TypeId} {a b : Int} {z : AV} (h : aInt op k a b = some z) :
    ∃ u, (binOp op t (.int k a) (.int k b)).run P w = .ok u w ∧ Rel g w z u := by
  unfold aInt at h
  split at h
  · simp at h; subst h; exact ⟨_, by simp [binOp, Op.intArith], .lit _⟩
  · simp at h; subst h; exact ⟨_, by simp [binOp, Op.intArith], .lit _⟩
  · simp at h; subst h; exact ⟨_, by simp [binOp, Op.intArith], .lit _⟩
  · split at h
    · cases h
    · simp at h; subst h; exact ⟨_, by simp [binOp, Op.intDiv, *], .lit _⟩
  · split at h
    · cases h
    · simp at h; subst h; exact ⟨_, by simp [binOp, Op.intDiv, *], .lit _⟩
  · cases hc : aIntCmp op a b with
    | none => simp [hc] at h
    | some r =>
      simp [hc] at h; subst h
      refine ⟨.bool r, ?_, .lit _⟩
      rw [← aIntCmp_sound (P := P) (w := w) hc]
      cases op <;> first | (simp [aIntCmp] at hc; done) | simp [binOp]
theorem aStr_sound {P : Program} {g : Gh} {w : World} {op : BinOp} {t : TypeId} {a b : ByteArray} {z : AV} (h : aStr op a b = some z) :
    ∃ u, (binOp op t (.string a) (.string b)).run P w = .ok u w ∧ Rel g w z u := by
  have hmax : IntKind.i64.max = 9223372036854775807 := by decide +kernel
  cases op <;> simp only [aStr, reduceCtorEq] at h
  case add =>
    split at h
    · simp at h; subst h
      refine ⟨.string (a ++ b), ?_, .lit _⟩
      simp only [binOp, Op.stringOp, hmax]
      rw [if_neg (by omega)]
      rfl
    · cases h
  all_goals
    simp only [Option.some.injEq] at h; subst h
    refine ⟨_, ?_, .lit _⟩
    simp only [binOp, Op.stringOp, strEq_toList]
    try simp only [ByteArray.toList_eq]
    rfl
theorem run_equal_nil {P : Program} {w : World} {t e : TypeId} {a : Option Addr} {n c : Nat} (hu : P.underlying t = some (.slice e)) :
    (Op.equal t (.slice a n c) (.slice none 0 0)).run P w = .ok a.isNone w := by
  have key : ∀ d, (Op.equalIn (d + 1) t (.slice a n c) (.slice none 0 0)).run P w = .ok a.isNone w := by
    intro d
    cases a <;> simp only [Op.equalIn, Sem.run_bind, run_underlying hu, Result.andThen_ok, Sem.run_pure, Option.isNone]
  exact key 9999
theorem aBin_sound {P : Program} {g : Gh} {w : World} {op : BinOp} {t : TypeId} {x y z : AV} {u v : Value} (h : aBin P op t x y = some z) (hx : Rel g w x u) (hy : Rel g w y v) (ox oy : Operand) :
    ∃ r, ((do eqGuard op t ox oy u v; binOp op t u v) : Sem Value).run P w = .ok r w ∧ Rel g w z r := by
  unfold aBin at h
  split at h
  · rename_i k a k' b
    split at h
    · rename_i hk
      subst hk
      rw [hx.lit_inv, hy.lit_inv]
      obtain ⟨r, h1, h2⟩ := aInt_sound (P := P) (g := g) (w := w) (t := t) h
      refine ⟨r, ?_, h2⟩
      rw [← h1]
      cases op <;> simp [eqGuard]
    · cases h
  · rw [hx.lit_inv, hy.lit_inv]
    obtain ⟨r, h1, h2⟩ := aStr_sound (P := P) (g := g) (w := w) (t := t) h
    refine ⟨r, ?_, h2⟩
    rw [← h1]
    cases op <;> simp [eqGuard]
  · rename_i a b
    rw [hx.lit_inv, hy.lit_inv]
    split at h
    · rename_i hu
      simp at h; subst h
      refine ⟨_, ?_, .lit _⟩
      simp [eqGuard, binOp, Op.equal, Op.maxDepth, run_equalIn_bool' w _ t a b hu]
    · rename_i hu
      simp at h; subst h
      refine ⟨_, ?_, .lit _⟩
      simp [eqGuard, binOp, Op.equal, Op.maxDepth, run_equalIn_bool' w _ t a b hu]
    · cases h
  · rename_i xs ys
    split at h
    · rename_i hg
      obtain ⟨us, rfl, hxs⟩ := hx.agg_inv
      obtain ⟨vs, rfl, hys⟩ := hy.agg_inv
      split at h
      · rename_i b hb
        simp at h; subst h
        have he := aEq_sound 8 t _ _ _ _ b hb (Rel.mk_agg hxs) (Rel.mk_agg hys) 10000 (by omega)
        refine ⟨_, ?_, .lit _⟩
        rw [Sem.run_bind, run_eqGuard_agg w _ t ox oy us vs hg]
        simp only [Result.andThen_ok]
        rw [run_eql_struct, he]
        rfl
      · rename_i b hb
        simp at h; subst h
        have he := aEq_sound 8 t _ _ _ _ b hb (Rel.mk_agg hxs) (Rel.mk_agg hys) 10000 (by omega)
        refine ⟨_, ?_, .lit _⟩
        rw [Sem.run_bind, run_eqGuard_agg w _ t ox oy us vs hg]
        simp only [Result.andThen_ok]
        rw [run_neq_struct, he]
        rfl
      · cases h
    · cases h
  · rename_i o es
    have hv : v = .slice none 0 0 := by cases hy with | nil => rfl | sl o es a n cap sz f ho hn => exact absurd rfl ho
    subst hv
    have hne : ∀ (e0 : TypeId × Nat × Nat) (b : Bool), tElem P t = some e0 → (Op.equal t u (.slice none 0 0)).run P w = .ok b w →
        ((do eqGuard .eql t ox oy u (.slice none 0 0); binOp .eql t u (.slice none 0 0)) : Sem Value).run P w = .ok (.bool b) w ∧
        ((do eqGuard .neq t ox oy u (.slice none 0 0); binOp .neq t u (.slice none 0 0)) : Sem Value).run P w = .ok (.bool (!b)) w := by
      intro e0 b he hb
      cases hx <;> simp [eqGuard, binOp, hb]
    split at h
    · rename_i e0 he
      simp at h; subst h
      obtain ⟨hu, _⟩ := tElem_spec he
      have hu0 : u = .slice none 0 0 := by cases hx with | nil => rfl | sl o es a n cap sz f ho hn => exact absurd rfl ho
      subst hu0
      exact ⟨.bool true, (hne _ true he (run_equal_nil hu)).1, .lit _⟩
    · rename_i e0 he
      simp at h; subst h
      obtain ⟨hu, _⟩ := tElem_spec he
      have hu0 : u = .slice none 0 0 := by cases hx with | nil => rfl | sl o es a n cap sz f ho hn => exact absurd rfl ho
      subst hu0
      exact ⟨.bool false, (hne _ true he (run_equal_nil hu)).2, .lit _⟩
    · rename_i e1 l1 e0 hnn he
      simp at h; subst h
      obtain ⟨hu, _⟩ := tElem_spec he
      obtain ⟨a, cap, rfl, _, _, hel⟩ := hx.sl_inv
      obtain ⟨b, off, sz, rfl, _⟩ := hel 0 e1 rfl
      exact ⟨.bool false, (hne _ false he (run_equal_nil hu)).1, .lit _⟩
    · rename_i e1 l1 e0 hnn he
      simp at h; subst h
      obtain ⟨hu, _⟩ := tElem_spec he
      obtain ⟨a, cap, rfl, _, _, hel⟩ := hx.sl_inv
      obtain ⟨b, off, sz, rfl, _⟩ := hel 0 e1 rfl
      exact ⟨.bool true, (hne _ false he (run_equal_nil hu)).2, .lit _⟩
    · cases h
  · cases h
end Go.Proofs.Ytiiaajajhkdemaa.VA
