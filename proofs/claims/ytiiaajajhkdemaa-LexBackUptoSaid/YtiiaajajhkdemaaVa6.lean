/- What is proved: one operation of the abstract interpreter (VA), memory and all, against the model's own. No condition. -/
import Derived.Test.YtiiaajajhkdemaaVa5
namespace Go.Proofs.Ytiiaajajhkdemaa.VA
open Go Go.RowKit

/-! ### memory -/
def aLoad (P : Program) (t : TypeId) (x : AV) (H : Heap) : Option (AV × List Nat) :=
  match tAgg P t with
  | some true =>
    match tSize P t, x with
    | some n, .ptr r off =>
      match H.get r with
      | some cs => if off + n ≤ cs.length then some (.agg ((cs.drop off).take n), [r]) else none
      | none => none
    | some n, .ep cs => if n ≤ cs.length then some (.agg (cs.take n), []) else none
    | _, _ => none
  | some false =>
    match x with
    | .ptr r off =>
      match H.get r with
      | some cs =>
        match cs[off]? with
        | some v => some (v, [r])
        | none => none
      | none => none
    | .ep cs =>
      match cs[0]? with
      | some v => some (v, [])
      | none => none
    | _ => none
  | none => none
def aStore (P : Program) (t : TypeId) (x v : AV) (H : Heap) : Option (List U) :=
  match tSize P t, x with
  | some n, .ptr r off =>
    match H.get r with
    | some cs => if v.cells.length = n ∧ off + n ≤ cs.length ∧ v.cells.all AV.one = true then some [.box r (cs.take off ++ (v.cells ++ cs.drop (off + n)))] else none
    | none => none
  | _, _ => none
def firstLen (n : Nat) : List (List AV) → Bool
  | [] => true
  | e :: _ => e.length == n
def zeroOk (P : Program) (e : TypeId) (n : Nat) : Bool :=
  match tZero P e with
  | some z => z.length == n
  | none => false
/-- A row cut into elements. -/
def chunk {α : Type} : Nat → Nat → List α → List (List α)
  | 0, _, _ => []
  | n + 1, sz, cs => cs.take sz :: chunk n sz (cs.drop sz)
def aAppend (P : Program) (t : TypeId) (s x : AV) (H : Heap) (id : Nat) : Option (AV × List U × List Nat) :=
  match tElem P t, s, x with
  | some (e, sz, by_), .sl o es, .sl _ xs =>
    match xs with
    | [] => some (.sl o es, [], [])
    | x0 :: xs' =>
      if x0.length = sz ∧ 0 < sz ∧ zeroOk P e sz = true ∧ (es.length + (xs'.length + 1)) * by_ ≤ 140737488355328 ∧ es.length + (xs'.length + 1) ≤ 140737488355328 then
        match o with
        | .nil => some (.sl (.own id e sz) (es ++ sanLL (x0 :: xs')), [.live id true], [])
        | .ex => if firstLen sz es = true then some (.sl (.own id e sz) (es ++ sanLL (x0 :: xs')), [.live id true], []) else none
        | .own k e' sz' => if e' = e ∧ sz' = sz ∧ H.isLive k = true then some (.sl (.own id e sz) (es ++ sanLL (x0 :: xs')), [.live k false, .live id true], [k]) else none
        | .sh => none
      else none
  | _, _, _ => none
def aBuildSlice (P : Program) (t : TypeId) (len : Nat) (ps : List (Nat × AV)) : Option AV :=
  match tElem P t with
  | some (e, sz, _) =>
    if len * sz ≤ 16777216 then
      match tZero P e with
      | some z =>
        if z.length = sz ∧ z.all AV.one = true then
          match aFill (fun i => some (i * sz, sz)) (List.replicate len z).flatten ps with
          | some cells => some (.sl .ex (chunk len sz cells))
          | none => none
        else none
      | none => none
    else none
  | none => none
/-- One operation. 'id': the number that it may give to what it makes. -/
def astep (P : Program) (ρ : Operand → AV) (H : Heap) (id : Nat) (op : Op) : Option Sr :=
  match op with
  | .alloc t =>
    match tZero P t with
    | some z => some (.val (.ptr id 0) [.box id z] [])
    | none => none
  | .box _ x => if (ρ x).cells.all AV.one = true then some (.val (.ptr id 0) [.box id (ρ x).cells] []) else none
  | .buildSlice t len ps => (aBuildSlice P t len (ps.toList.map fun p => (p.1, ρ p.2))).map fun v => .val v [] []
  | .load t x => (aLoad P t (ρ x) H).map fun r => .val r.1 [] r.2
  | .store t x v => (aStore P t (ρ x) (ρ v) H).map fun us => .val (.tup []) us []
  | .call { callee := .builtin .append, args, argTypes } =>
    match args.toList, argTypes.toList with
    | [s, x], [t, t'] => if t = t' then (aAppend P t (ρ s) (ρ x) H id).map fun r => .val r.1 r.2.1 r.2.2 else none
    | _, _ => none
  | .call { callee := .value f, args, .. } =>
    match ρ f with
    | .fn k caps => some (.call k (args.toList.map ρ ++ caps))
    | _ => none
  | .panic x =>
    match ρ x with
    | .ifc t v => some (.pan (.ifc t v))
    | _ => none
  | op => (aPure P ρ op).map fun v => .val v [] []

/-- What is asked of a step's result. -/
def StepOk (P : Program) (g : Gh) (H : Heap) (w : World) (id : Nat) (o : Oper) (ρ' : Operand → Value) : Sr → Prop
  | .val v us _ => ∃ g' w' nx u, (execOp ρ' o).run P w = .ok nx w' ∧ (nx = .value u ∨ nx = .skip ∧ u = undef) ∧ Ext g w g' w' ∧ Inv g' (appU H us) w' ∧ Rel g' w' v u ∧
      (∀ r, r ≠ id → g'.box r = g.box r ∧ g'.own r = g.own r)
  | .call f args => ∃ vs : Array Value, (execOp ρ' o).run P w = (callFunc f vs).run P w ∧ RelL g w args vs.toList
  | .pan v => ∃ u, (execOp ρ' o).run P w = .halt (.panic u) w ∧ Rel g w v u

theorem StepOk.pure {P : Program} {g : Gh} {H : Heap} {w : World} {id : Nat} {o : Oper} {ρ' : Operand → Value} {v : AV} {rs : List Nat} (hi : Inv g H w)
    (h : ∃ u, (execOp ρ' o).run P w = .ok (.value u) w ∧ Rel g w v u) : StepOk P g H w id o ρ' (.val v [] rs) := by
  obtain ⟨u, h1, h2⟩ := h
  exact ⟨g, w, _, u, h1, .inl rfl, Ext.refl g w, hi, h2, fun _ _ => ⟨rfl, rfl⟩⟩

theorem loadVar_agg {P : Program} {g : Gh} {w : World} {t : TypeId} {n b off : Nat} {cs : List AV} {f : Nat → Value} (ha : tAgg P t = some true) (hs : tSize P t = some n) (hl : cs.length = n)
    (hc : ∀ k, k < n → w.cell? ⟨b, off + k, none⟩ = some (f k)) (hr : ∀ j x, cs[j]? = some x → Rel g w x (f j)) :
    ∃ u, (loadVar t ⟨b, off, none⟩).run P w = .ok u w ∧ Rel g w (.agg cs) u := by
  refine ⟨.agg ((List.range n).map f).toArray, ?_, ?_⟩
  · simp only [loadVar, Sem.run_bind, tAgg_run ha, Result.andThen_ok, if_true, tSize_run hs]
    rw [run_loadCells w ⟨b, off, none⟩ n f (fun j hj => by rw [addr_add]; exact hc j hj)]
    rfl
  · refine Rel.mk_agg ⟨by simp [hl], fun i x v hx hv => ?_⟩
    simp [List.getElem?_map] at hv
    obtain ⟨a, ha', rfl⟩ := hv
    have : a = i := by
      rw [List.getElem?_range] at ha'
      · simpa using ha'.symm
      · exact (by have := (List.getElem?_eq_some_iff.1 ha').1; simpa using this)
    subst this
    exact hr _ x hx

theorem aLoad_sound {P : Program} {g : Gh} {H : Heap} {w : World} {t : TypeId} {x z : AV} {v : Value} {rs : List Nat} (h : aLoad P t x H = some (z, rs)) (hi : Inv g H w) (hx : Rel g w x v) :
    ∃ u, (Instr.loadAt t v).run P w = .ok u w ∧ Rel g w z u := by
  unfold aLoad at h
  split at h
  · rename_i ha
    split at h
    · rename_i n r off hs
      split at h
      · rename_i cs hcs
        split at h
        · rename_i hle
          simp only [Option.some.injEq, Prod.mk.injEq] at h
          obtain ⟨rfl, rfl⟩ := h
          cases hx with
          | ptr r off b hb =>
            obtain ⟨b', vs, t', h1, h2, h3⟩ := hi.box r cs hcs
            rw [hb] at h1
            simp at h1; subst h1
            have hlen : cs.length = vs.size := by simpa using h3.1
            have := loadVar_agg (P := P) (g := g) (w := w) (b := b) (off := off) (cs := (cs.drop off).take n) (f := fun k => vs.getD (off + k) undef) ha hs (by simp; omega)
              (fun k hk => by rw [cell_of_row w b (off + k) vs t' (0, 0) h2]; simp [show off + k < vs.size by omega])
              (fun j x hx => by
                rw [List.getElem?_take] at hx
                split at hx
                · rw [List.getElem?_drop] at hx
                  exact h3.2 (off + j) x _ hx (by simp [show off + j < vs.size by omega])
                · cases hx)
            simpa [Instr.loadAt, Instr.sureAddr] using this
        · cases h
      · cases h
    · rename_i n cs hs
      split at h
      · rename_i hle
        simp only [Option.some.injEq, Prod.mk.injEq] at h
        obtain ⟨rfl, rfl⟩ := h
        cases hx with
        | ep cs b off f hv hc hr =>
          have := loadVar_agg (P := P) (g := g) (w := w) (b := b) (off := off) (cs := cs.take n) (f := f) ha hs (by simp; omega) (fun k hk => hc k (by omega))
            (fun j x hx => by
              rw [List.getElem?_take] at hx
              split at hx
              · exact hr j x hx
              · cases hx)
          simpa [Instr.loadAt, Instr.sureAddr] using this
      · cases h
    · cases h
  · rename_i ha
    split at h
    · rename_i r off
      split at h
      · rename_i cs hcs
        split at h
        · rename_i y hy
          simp only [Option.some.injEq, Prod.mk.injEq] at h
          obtain ⟨rfl, rfl⟩ := h
          cases hx with
          | ptr r off b hb =>
            obtain ⟨b', vs, t', h1, h2, h3⟩ := hi.box r cs hcs
            rw [hb] at h1
            simp at h1; subst h1
            have hlt : off < vs.size := by
              have := (List.getElem?_eq_some_iff.1 hy).1
              have hlen : cs.length = vs.size := by simpa using h3.1
              omega
            refine ⟨vs[off], ?_, h3.2 off _ _ hy (by simp [hlt])⟩
            have hcell : w.cell? ⟨b, off, none⟩ = some vs[off] := by rw [cell_of_row w b off vs t' (0, 0) h2]; simp [hlt]
            simp [Instr.loadAt, Instr.sureAddr, loadVar, tAgg_run ha, hcell]
        · cases h
      · cases h
    · rename_i cs
      split at h
      · rename_i y hy
        simp only [Option.some.injEq, Prod.mk.injEq] at h
        obtain ⟨rfl, rfl⟩ := h
        cases hx with
        | ep cs b off f hv hc hr =>
          have hlt : 0 < cs.length := (List.getElem?_eq_some_iff.1 hy).1
          refine ⟨f 0, ?_, hr 0 _ hy⟩
          have hcell : w.cell? ⟨b, off, none⟩ = some (f 0) := by have := hc 0 hlt; simpa using this
          simp [Instr.loadAt, Instr.sureAddr, loadVar, tAgg_run ha, hcell]
      · cases h
    · cases h
  · cases h

theorem RelL.one {g : Gh} {w : World} {cs : List AV} {vs : List Value} (h : RelL g w cs vs) (ho : cs.all AV.one = true) : ∀ u, u ∈ vs → u.oneCell' = true := by
  intro u hu
  obtain ⟨i, hi, rfl⟩ := List.getElem_of_mem hu
  have hi' : i < cs.length := by rw [h.1]; exact hi
  have := h.2 i cs[i] vs[i] (by simp [hi']) (by simp [hi])
  exact this.one (List.all_eq_true.1 ho _ (List.getElem_mem hi'))

theorem aStore_sound {P : Program} {g : Gh} {H : Heap} {w : World} {t : TypeId} {x z : AV} {u v : Value} {us : List U} (h : aStore P t x z H = some us) (hi : Inv g H w) (hx : Rel g w x u) (hz : Rel g w z v) :
    ∃ w', (Instr.storeAt t u v).run P w = .ok () w' ∧ Ext g w g w' ∧ Inv g (appU H us) w' := by
  unfold aStore at h
  split at h
  · rename_i n r off hs
    split at h
    · rename_i cs hcs
      split at h
      · rename_i hc
        obtain ⟨hl, hle, hone⟩ := hc
        simp only [Option.some.injEq] at h
        subst h
        cases hx with
        | ptr r off b hb =>
          obtain ⟨b', vs, t', h1, h2, h3⟩ := hi.box r cs hcs
          rw [hb] at h1
          simp at h1; subst h1
          have hlen : cs.length = vs.size := by simpa using h3.1
          have hv := hz.cells hone
          have hvs : v.cells.size = n := by have := hv.1; simp at this; omega
          have hst := run_storeCells_at P b off t' v.cells.toList 0 vs w h2 (by simp; omega) (hv.one hone)
          simp only [Nat.add_zero, Array.length_toList, hvs] at hst
          have hrel : RelL g w (cs.take off ++ (z.cells ++ cs.drop (off + n))) (vs.toList.take off ++ v.cells.toList ++ vs.toList.drop (off + n)).toArray.toList := by
            rw [List.append_assoc]
            exact (h3.take off).append (hv.append (h3.drop (off + n)))
          obtain ⟨he, hinv⟩ := inv_store hi hb h2 hrel
          refine ⟨_, ?_, he, hinv⟩
          simp only [Instr.storeAt, Instr.sureAddr, storeVar, Sem.run_bind, Sem.run_pure, Result.andThen_ok, tSize_run hs]
          rw [if_neg (by simp [hvs])]
          exact hst
      · cases h
    · cases h
  · cases h
end Go.Proofs.Ytiiaajajhkdemaa.VA
