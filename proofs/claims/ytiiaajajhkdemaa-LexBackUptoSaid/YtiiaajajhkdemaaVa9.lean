/- What is proved: one step of the abstract interpreter (VA), whatever the operation, against the model's own. No condition. -/
import Derived.Test.YtiiaajajhkdemaaVa8
namespace Go.Proofs.Ytiiaajajhkdemaa.VA
open Go Go.RowKit

theorem parts_of {g : Gh} {w : World} {ρ : Operand → AV} {ρ' : Operand → Value} (hρ : ∀ x, Rel g w (ρ x) (ρ' x)) (parts : Array (Nat × Operand)) :
    Parts g w (parts.toList.map fun p => (p.1, ρ p.2)) ((parts.map fun (i, x) => (i, ρ' x)).toList) := by
  refine ⟨by simp, ?_⟩
  have h1 : (parts.toList.map fun p => (p.1, ρ p.2)).map (·.2) = (parts.toList.map (·.2)).map ρ := by simp [Function.comp_def]
  have h2 : ((parts.map fun (i, x) => (i, ρ' x)).toList).map (·.2) = (parts.toList.map (·.2)).map ρ' := by simp [Function.comp_def]
  rw [h1, h2]
  exact RelL.of_map hρ _
theorem new_addBox (g : Gh) (id b r : Nat) (h : r ≠ id) : (g.addBox id b).box r = g.box r ∧ (g.addBox id b).own r = g.own r := by
  simp [Gh.addBox, h]
theorem Fresh.app {H : Heap} (id : Nat) (cs : List AV) : appU H [.box id cs] = H.put id cs := rfl
set_option maxHeartbeats 1000000 in
theorem astep_sound {P : Program} {g : Gh} {H : Heap} {w : World} {ρ : Operand → AV} {ρ' : Operand → Value} {o : Oper} {id : Nat} {r : Sr} (h : astep P ρ H id o.op = some r)
    (hi : Inv g H w) (hf : Fresh g H id) (hρ : ∀ x, Rel g w (ρ x) (ρ' x)) : StepOk P g H w id o ρ' r := by
  obtain ⟨dst, op, type, pos, after, guard⟩ := o
  simp only at h
  unfold astep at h
  split at h
  · -- alloc
    rename_i t
    split at h
    · rename_i z hz
      simp only [Option.some.injEq] at h
      subst h
      obtain ⟨zv, i, hzr, hinfo, hiz, hrel⟩ := tZero_run hz g w
      obtain ⟨h1, h2, h3⟩ := inv_addBox (t := t) hi hf hrel
      refine ⟨_, _, _, _, ?_, .inl rfl, h1, h2, h3, fun r hr => new_addBox g id _ r hr⟩
      simp [execOp, Instr.alloc, hzr, newVar, newRow]
    · cases h
  · -- box
    rename_i t x
    split at h
    · rename_i hone
      simp only [Option.some.injEq] at h
      subst h
      obtain ⟨h1, h2, h3⟩ := inv_addBox (t := t) hi hf ((hρ x).cells hone)
      refine ⟨_, _, _, _, ?_, .inl rfl, h1, h2, h3, fun r hr => new_addBox g id _ r hr⟩
      simp [execOp, Instr.box, newVar, newRow]
    · cases h
  · -- buildSlice
    rename_i t len ps
    cases hb : aBuildSlice P t len (ps.toList.map fun p => (p.1, ρ p.2)) with
    | none => simp [hb] at h
    | some v =>
      simp [hb] at h
      subst h
      obtain ⟨g', w', u, h1, h2, h3, h4, h5, h6⟩ := aBuildSlice_sound hb hi (parts_of hρ ps)
      exact ⟨g', w', _, u, by simp [execOp, h1], .inl rfl, h2, h3, h4, fun r _ => ⟨by rw [h5], by rw [h6]⟩⟩
  · -- load
    rename_i t x
    cases hb : aLoad P t (ρ x) H with
    | none => simp [hb] at h
    | some p =>
      obtain ⟨v, rs⟩ := p
      simp [hb] at h
      subst h
      obtain ⟨u, h1, h2⟩ := aLoad_sound hb hi (hρ x)
      exact StepOk.pure hi ⟨u, execOp_value h1, h2⟩
  · -- store
    rename_i t x v
    cases hb : aStore P t (ρ x) (ρ v) H with
    | none => simp [hb] at h
    | some us =>
      simp [hb] at h
      subst h
      obtain ⟨w', h1, h2, h3⟩ := aStore_sound hb hi (hρ x) (hρ v)
      refine ⟨g, w', .skip, undef, ?_, .inr ⟨rfl, rfl⟩, h2, h3, .tup [] #[] rfl (by simp), fun _ _ => ⟨rfl, rfl⟩⟩
      simp [execOp, h1]
  · -- append
    rename_i args argTypes
    split at h
    · rename_i s x t t' hargs hts
      have hargs' : args = #[s, x] := by cases args; simp at hargs; simp [hargs]
      have hts' : argTypes = #[t, t'] := by cases argTypes; simp at hts; simp [hts]
      split at h
      · rename_i htt
        subst htt
        cases hb : aAppend P t (ρ s) (ρ x) H id with
        | none => simp [hb] at h
        | some p =>
          obtain ⟨v, us, rs⟩ := p
          simp [hb] at h
          subst h
          obtain ⟨g', w', r, h1, h2, h3, h4, h5⟩ := aAppend_sound type hb hi hf (hρ s) (hρ x)
          refine ⟨g', w', _, r, ?_, .inl rfl, h2, h3, h4, h5⟩
          simp [execOp, resolve, invoke, builtin, hargs', hts', h1]
      · cases h
    · cases h
  · -- a call
    rename_i f args argTypes
    split at h
    · rename_i k caps hk
      simp only [Option.some.injEq] at h
      subst h
      have hx := hρ f
      rw [hk] at hx
      generalize hv : ρ' f = v at hx
      cases hx with
      | fn fid caps vs hl hr =>
        refine ⟨args.map ρ' ++ vs, ?_, ?_⟩
        · simp [execOp, resolve, hv, Deferred.ofValue, invoke]
        · rw [Array.toList_append, Array.toList_map]
          exact (RelL.of_map hρ args.toList).append ⟨by simpa using hl, fun i x v hx hv => hr i x v hx (by simpa using hv)⟩
    · cases h
  · -- a panic
    rename_i x
    split at h
    · rename_i t v hv
      simp only [Option.some.injEq] at h
      subst h
      have hx := hρ x
      rw [hv] at hx
      generalize hv' : ρ' x = u at hx
      cases hx with
      | ifc t v u hr =>
        exact ⟨_, by simp [execOp, hv', Instr.panic], .ifc t v u hr⟩
    · cases h
  · -- the rest
    rename_i op' _ _ _ _ _ _ _ _
    cases hb : aPure P ρ op with
    | none => simp [hb] at h
    | some v =>
      simp [hb] at h
      subst h
      exact StepOk.pure hi (aPure_sound (o := ⟨dst, op, type, pos, after, guard⟩) hb hρ)
end Go.Proofs.Ytiiaajajhkdemaa.VA
