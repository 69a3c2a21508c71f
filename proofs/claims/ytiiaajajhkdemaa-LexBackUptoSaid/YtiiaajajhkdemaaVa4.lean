/- What is proved: each operation of the abstract interpreter (VA) that leaves memory alone yields what the model's own operation yields. No condition. -/
import Derived.Test.YtiiaajajhkdemaaVa3
namespace Go.Proofs.Ytiiaajajhkdemaa.VA
open Go Go.RowKit

theorem execOp_value {P : Program} {w : World} {s : Sem Value} {u : Value} (h : s.run P w = .ok u w) : ((do pure (.value (← s))) : Sem Next).run P w = .ok (.value u) w := by
  simp [h]
theorem RelL.of_map {g : Gh} {w : World} {ρ : Operand → AV} {ρ' : Operand → Value} (h : ∀ x, Rel g w (ρ x) (ρ' x)) (l : List Operand) : RelL g w (l.map ρ) (l.map ρ') := by
  induction l with
  | nil => exact RelL.nil g w
  | cons x l ih => exact RelL.cons (h x) ih
theorem OptRel.of_map {g : Gh} {w : World} {ρ : Operand → AV} {ρ' : Operand → Value} (h : ∀ x, Rel g w (ρ x) (ρ' x)) (o : Option Operand) : OptRel g w (o.map ρ) (o.map ρ') := by
  cases o with
  | none => exact .none
  | some x => exact .some _ _ (h x)
theorem Rel.tup_inv {g : Gh} {w : World} {cs : List AV} {v : Value} (h : Rel g w (.tup cs) v) : ∃ vs, v = .tuple vs ∧ RelL g w cs vs.toList := by
  cases h with
  | tup cs vs hl hr => exact ⟨vs, rfl, by simpa using hl, fun i x v hx hv => hr i x v hx (by simpa using hv)⟩
set_option maxHeartbeats 1000000 in
theorem aPure_sound {P : Program} {g : Gh} {w : World} {ρ : Operand → AV} {ρ' : Operand → Value} {o : Oper} {z : AV} (h : aPure P ρ o.op = some z) (hρ : ∀ x, Rel g w (ρ x) (ρ' x)) :
    ∃ u, (execOp ρ' o).run P w = .ok (.value u) w ∧ Rel g w z u := by
  obtain ⟨dst, op, type, pos, after, guard⟩ := o
  simp only at h
  unfold aPure at h
  split at h
  -- move
  · simp only [Option.some.injEq] at h; subst h; exact ⟨_, rfl, hρ _⟩
  -- assign
  · simp only [Option.some.injEq] at h; subst h; exact ⟨_, rfl, hρ _⟩
  -- pick
  · rename_i c a b
    split at h
    · rename_i hc
      simp only [Option.some.injEq] at h; subst h
      have := hρ c
      rw [hc] at this
      exact ⟨_, by simp [execOp, this.lit_inv, asBool], hρ a⟩
    · rename_i hc
      simp only [Option.some.injEq] at h; subst h
      have := hρ c
      rw [hc] at this
      exact ⟨_, by simp [execOp, this.lit_inv, asBool], hρ b⟩
    · cases h
  -- build
  · rename_i t parts
    split at h
    · rename_i fs hu
      split at h
      · rename_i pl z0 hpl hz
        cases hf : aFill (fun i => pl[i]?) z0 (parts.toList.map fun p => (p.1, ρ p.2)) with
        | none => simp [hf] at h
        | some res =>
          simp [hf] at h; subst h
          obtain ⟨zv, i, hzr, hi, hiz, hrel⟩ := tZero_run hz g w
          have hparts : Parts g w (parts.toList.map fun p => (p.1, ρ p.2)) ((parts.map fun (i, x) => (i, ρ' x)).toList) := by
            refine ⟨by simp, ?_⟩
            have h1 : (parts.toList.map fun p => (p.1, ρ p.2)).map (·.2) = (parts.toList.map (·.2)).map ρ := by simp [Function.comp_def]
            have h2 : ((parts.map fun (i, x) => (i, ρ' x)).toList).map (·.2) = (parts.toList.map (·.2)).map ρ' := by simp [Function.comp_def]
            rw [h1, h2]
            exact RelL.of_map hρ _
          obtain ⟨cs', hfill, hr, _⟩ := aFill_sound _ _ _ _ _ hf hparts hrel
          refine ⟨.agg cs', ?_, Rel.mk_agg hr⟩
          simp only [execOp]
          refine execOp_value ?_
          have hpr := tPlaces_run (P := P) w fs.toList pl hpl
          simp only [Instr.build, Sem.run_bind, hzr, Result.andThen_ok, run_underlying hu, Array.mapM_eq_mapM_toList, Sem.run_map, hpr]
          have : (fun (i : Nat) => (pl.toArray)[i]?) = fun (i : Nat) => pl[i]? := by funext i; simp
          simp only [this, hfill, Sem.run_pure]
      · cases h
    · cases h
  -- nilCheck
  · rename_i x
    have hx := hρ x
    split at h
    · rename_i r o hr
      simp only [Option.some.injEq] at h; subst h
      rw [hr] at hx
      refine ⟨ρ' x, ?_, hx⟩
      generalize hv : ρ' x = v at hx
      cases hx with | ptr r off b hb => simp [execOp, hv]
    · rename_i cs hr
      simp only [Option.some.injEq] at h; subst h
      rw [hr] at hx
      refine ⟨ρ' x, ?_, hx⟩
      generalize hv : ρ' x = v at hx
      cases hx with | ep cs b off f hvv hc hrr => simp [execOp, hv]
    · rename_i f cs hr
      simp only [Option.some.injEq] at h; subst h
      rw [hr] at hx
      refine ⟨ρ' x, ?_, hx⟩
      generalize hv : ρ' x = v at hx
      cases hx with | fn fid caps vs hl hrr => simp [execOp, hv]
    · cases h
  -- binOp
  · rename_i op t x y yt
    obtain ⟨r, h1, h2⟩ := aBin_sound h (hρ x) (hρ y) x y
    exact ⟨r, execOp_value h1, h2⟩
  -- unOp
  · rename_i op t x
    have hx := hρ x
    split at h
    · rename_i b hb
      simp only [Option.some.injEq] at h; subst h
      rw [hb] at hx
      exact ⟨.bool (!b), execOp_value (by rw [hx.lit_inv]; rfl), .lit _⟩
    · rename_i k n hb
      simp only [Option.some.injEq] at h; subst h
      rw [hb] at hx
      exact ⟨_, execOp_value (by rw [hx.lit_inv]; simp [Op.unary, Op.intArith]), .lit _⟩
    · cases h
  -- convert
  · rename_i src dst x
    have hx := hρ x
    split at h
    · rename_i d k k0 n hs hd hb
      simp only [Option.some.injEq] at h; subst h
      rw [hb] at hx
      refine ⟨.int k (k.wrap n), execOp_value ?_, .lit _⟩
      rw [hx.lit_inv]
      simp [convert, run_underlying hs, run_underlying hd, Conv.intToInt]
    · rename_i s hs hd hb
      simp only [Option.some.injEq] at h; subst h
      rw [hb] at hx
      refine ⟨.string s, execOp_value ?_, .lit _⟩
      rw [hx.lit_inv]
      simp [convert, run_underlying hs, run_underlying hd]
    · cases h
  -- makeInterface
  · rename_i t x
    split at h
    · rename_i hc
      simp only [Option.some.injEq] at h; subst h
      exact ⟨_, execOp_value (run_makeInterface w t (ρ' x) hc), .ifc t _ _ (hρ x)⟩
    · cases h
  -- makeFunc
  · rename_i f first caps
    split at h
    · rename_i hf
      simp only [Option.some.injEq] at h; subst h
      refine ⟨.func (.func f) (first.map ρ') (caps.map ρ'), execOp_value rfl, ?_⟩
      subst hf
      have hr := RelL.of_map hρ caps.toList
      have e : (#[] : Array Operand).map ρ' = #[] := by simp
      rw [e]
      refine .fn f _ (caps.map ρ') (by simp) (fun i x v hx hv => hr.2 i x v hx ?_)
      rw [← Array.toList_map, Array.getElem?_toList]
      exact hv
    · cases h
  -- slice
  · rename_i t x lo hi
    obtain ⟨u, h1, h2⟩ := aSlice_sound h (hρ x) (OptRel.of_map hρ lo) (OptRel.of_map hρ hi)
    exact ⟨u, execOp_value h1, h2⟩
  -- fieldAddr
  · rename_i t x k
    have hx := hρ x
    split at h
    · rename_i o n bb r off hf hr
      split at h
      · cases h
      · rename_i hn
        simp only [Option.some.injEq] at h; subst h
        rw [hr] at hx
        obtain ⟨fs, f, hu, hfk, hfo, hfs, hfa⟩ := tField_spec hf
        generalize hv : ρ' x = v at hx
        cases hx with
        | ptr r off b hb =>
          refine ⟨.pointer (some ⟨b, off + o, none⟩), execOp_value ?_, .ptr r _ b hb⟩
          simp [Instr.fieldAt, run_underlying hu, hfk, hv, Instr.sureAddr, fieldPlace, tSize_run hfs, hn, hfo, addr_add]
    · rename_i o n bb cs hf hr
      split at h
      · cases h
      · rename_i hn
        split at h
        · rename_i ho
          simp only [Option.some.injEq] at h; subst h
          rw [hr] at hx
          obtain ⟨fs, f, hu, hfk, hfo, hfs, hfa⟩ := tField_spec hf
          generalize hv : ρ' x = v at hx
          cases hx with
          | ep cs b off f' hvv hc hrr =>
            refine ⟨.pointer (some ⟨b, off + o, none⟩), execOp_value ?_, .ep _ b _ (fun j => f' (o + j)) (by simp; omega) ?_ ?_⟩
            · simp [Instr.fieldAt, run_underlying hu, hfk, hv, Instr.sureAddr, fieldPlace, tSize_run hfs, hn, hfo, addr_add]
            · intro k hk
              have := hc (o + k) (by simp at hk; omega)
              rw [← Nat.add_assoc] at this
              exact this
            · intro j x hx
              rw [List.getElem?_drop] at hx
              exact hrr _ x hx
        · cases h
    · cases h
  -- field
  · rename_i t x k
    have hx := hρ x
    split at h
    · rename_i o n cs hf hr
      split at h
      · simp only [Option.some.injEq] at h; subst h
        rw [hr] at hx
        obtain ⟨fs, f, hu, hfk, hfo, hfs, hfa⟩ := tField_spec hf
        obtain ⟨vs, hv, hrel⟩ := hx.agg_inv
        obtain ⟨u, h1, h2⟩ := part_agg (P := P) (o := o) hfa hfs hrel
        refine ⟨u, execOp_value ?_, h2⟩
        simp only [Instr.field, Sem.run_bind, run_underlying hu, Result.andThen_ok, hfk, hv, asAgg, Sem.run_pure, hfo, h1]
      · cases h
    · rename_i o n cs hf hr
      rw [hr] at hx
      obtain ⟨fs, f, hu, hfk, hfo, hfs, hfa⟩ := tField_spec hf
      obtain ⟨vs, hv, hrel⟩ := hx.agg_inv
      obtain ⟨u, h1, h2⟩ := part_one (P := P) hfa h hrel
      refine ⟨u, execOp_value ?_, h2⟩
      simp only [Instr.field, Sem.run_bind, run_underlying hu, Result.andThen_ok, hfk, hv, asAgg, Sem.run_pure, hfo, h1]
    · cases h
  -- indexAddr
  · rename_i t x i
    have hx := hρ x
    have hi := hρ i
    split at h
    · rename_i e0 n bb oo es idx hte hr hidx
      split at h
      · rename_i el hel
        split at h
        · rename_i hn
          simp only [Option.some.injEq] at h; subst h
          obtain ⟨hu, i0, hi0, hs0, _⟩ := tElem_spec hte
          obtain ⟨k, ii, hiv, h0, rfl⟩ := aNat_spec hidx hi
          rw [hr] at hx
          obtain ⟨a, cap, hxv, hcap, _, hels⟩ := hx.sl_inv
          obtain ⟨b, off, sz, rfl, hrel, hlen⟩ := hels _ el hel
          have hlt : ii.toNat < es.length := (List.getElem?_eq_some_iff.1 hel).1
          refine ⟨_, execOp_value ?_, hrel⟩
          have e3 : (sizeOf e0).run P w = .ok sz w := by simp [sizeOf, typeInfo, hi0, hs0, ← hn, hlen]
          simp only [Instr.indexAt, hiv, hxv, asIntOf, Sem.run_bind, Sem.run_pure, Result.andThen_ok, run_underlying hu]
          rw [if_pos (by omega)]
          simp [e3, addr_add]
        · cases h
      · cases h
    · cases h
  -- index
  · rename_i t x i
    have hx := hρ x
    have hi := hρ i
    split at h
    · rename_i s idx hu hr hidx
      split at h
      · rename_i hlt
        simp only [Option.some.injEq] at h; subst h
        obtain ⟨k, ii, hiv, h0, rfl⟩ := aNat_spec hidx hi
        rw [hr] at hx
        refine ⟨_, execOp_value ?_, .lit _⟩
        simp only [Instr.index, hiv, hx.lit_inv, asIntOf, Sem.run_bind, Sem.run_pure, Result.andThen_ok, run_underlying hu, if_pos h0]
        simp [hlt]
      · cases h
    · cases h
  -- extract
  · rename_i x i
    have hx := hρ x
    split at h
    · rename_i vs hr
      rw [hr] at hx
      obtain ⟨us, hv, hrel⟩ := hx.tup_inv
      have hlt : i < vs.length := (List.getElem?_eq_some_iff.1 h).1
      have hlt' : i < us.size := by have := hrel.1; simp at this; omega
      refine ⟨us[i], execOp_value ?_, hrel.2 i _ _ h (by simp [hlt'])⟩
      simp [Instr.extract, hv, hlt']
    · cases h
  -- len
  · rename_i args argTypes
    split at h
    · rename_i x t ts hargs hts
      have hargs' : args = #[x] := by cases args; simp at hargs; simp [hargs]
      have hts' : argTypes[0]? = some t := by cases argTypes; simp at hts; simp [hts]
      have hx := hρ x
      split at h
      · rename_i s hr
        split at h
        · rename_i hu
          simp only [Option.some.injEq] at h; subst h
          rw [hr] at hx
          refine ⟨_, ?_, .lit _⟩
          simp [execOp, resolve, invoke, builtin, Builtin.len_, hargs', hts', hx.lit_inv, run_underlying hu, goInt]
        · cases h
      · rename_i oo es hr
        split at h
        · rename_i e0 hte
          simp only [Option.some.injEq] at h; subst h
          obtain ⟨hu, _⟩ := tElem_spec hte
          rw [hr] at hx
          obtain ⟨a, cap, hxv, _⟩ := hx.sl_inv
          refine ⟨_, ?_, .lit _⟩
          simp [execOp, resolve, invoke, builtin, Builtin.len_, hargs', hts', hxv, run_underlying hu, goInt]
        · cases h
      · cases h
    · cases h
  -- min
  · rename_i args argTypes
    split at h
    · rename_i x y hargs
      have hargs' : args = #[x, y] := by cases args; simp at hargs; simp [hargs]
      have hx := hρ x
      have hy := hρ y
      split at h
      · rename_i k a k' b h1 h2
        simp only [Option.some.injEq] at h; subst h
        rw [h1] at hx
        rw [h2] at hy
        refine ⟨_, ?_, .lit _⟩
        simp [execOp, resolve, invoke, builtin, Builtin.min_, Builtin.min2, hargs', hx.lit_inv, hy.lit_inv]
      · cases h
    · cases h
  -- max
  · rename_i args argTypes
    split at h
    · rename_i x y hargs
      have hargs' : args = #[x, y] := by cases args; simp at hargs; simp [hargs]
      have hx := hρ x
      have hy := hρ y
      split at h
      · rename_i k a k' b h1 h2
        simp only [Option.some.injEq] at h; subst h
        rw [h1] at hx
        rw [h2] at hy
        refine ⟨_, ?_, .lit _⟩
        simp [execOp, resolve, invoke, builtin, Builtin.max_, Builtin.max2, hargs', hx.lit_inv, hy.lit_inv]
      · cases h
    · cases h
  · cases h
end Go.Proofs.Ytiiaajajhkdemaa.VA
