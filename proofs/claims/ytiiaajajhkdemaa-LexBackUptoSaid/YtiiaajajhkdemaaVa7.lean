/- What is proved: making slices and appending to them, in the abstract interpreter (VA), against the model's own operations; and so one step of it. No condition. -/
import Derived.Test.YtiiaajajhkdemaaVa6
namespace Go.Proofs.Ytiiaajajhkdemaa.VA
open Go Go.RowKit

theorem chunk_get {α : Type} (sz : Nat) : ∀ (n : Nat) (cs : List α) (i : Nat) (e : List α), (chunk n sz cs)[i]? = some e → i < n ∧ e = (cs.drop (i * sz)).take sz
  | 0, cs, i, e, h => by simp [chunk] at h
  | n + 1, cs, 0, e, h => by simp [chunk] at h; exact ⟨by omega, by simp [h]⟩
  | n + 1, cs, i + 1, e, h => by
    simp only [chunk, List.getElem?_cons_succ] at h
    obtain ⟨h1, h2⟩ := chunk_get sz n (cs.drop sz) i e h
    refine ⟨by omega, ?_⟩
    rw [h2, List.drop_drop, Nat.add_mul, Nat.one_mul, Nat.add_comm]
theorem chunk_length {α : Type} (sz : Nat) : ∀ (n : Nat) (cs : List α), (chunk n sz cs).length = n
  | 0, _ => rfl
  | n + 1, cs => by simp [chunk, chunk_length sz n]
theorem flat_get {α : Type} (z : List α) (sz : Nat) (hz : z.length = sz) : ∀ (len i : Nat), i < len * sz → (List.replicate len z).flatten[i]? = z[i % sz]?
  | 0, i, h => by simp at h
  | len + 1, i, h => by
    rw [List.replicate_succ, List.flatten_cons]
    by_cases hi : i < sz
    · rw [List.getElem?_append_left (by omega), Nat.mod_eq_of_lt hi]
    · have h' : i - sz < len * sz := by rw [Nat.add_mul] at h; omega
      have e := Nat.mod_eq_sub_mod (show i ≥ sz by omega)
      rw [List.getElem?_append_right (by omega), hz, flat_get z sz hz len (i - sz) h', e]
theorem flat_length {α : Type} (z : List α) (sz : Nat) (hz : z.length = sz) : ∀ (len : Nat), (List.replicate len z).flatten.length = len * sz
  | 0 => by simp
  | len + 1 => by rw [List.replicate_succ, List.flatten_cons, List.length_append, flat_length z sz hz len, hz, Nat.add_mul]; omega
theorem aFill_one {place : Nat → Option (Nat × Nat)} : ∀ (ps : List (Nat × AV)) (cells res : List AV), aFill place cells ps = some res → cells.all AV.one = true → res.all AV.one = true ∧ res.length = cells.length
  | [], cells, res, h, hc => by simp [aFill] at h; subst h; exact ⟨hc, rfl⟩
  | (i, v) :: ps, cells, res, h, hc => by
    simp only [aFill] at h
    split at h
    · cases h
    · rename_i off size hpl
      split at h
      · rename_i hcond
        obtain ⟨h1, h2, h3⟩ := hcond
        have hall : ∀ x, x ∈ cells → x.one = true := List.all_eq_true.1 hc
        obtain ⟨r1, r2⟩ := aFill_one ps _ res h (by
          rw [List.all_append, List.all_append, h3]
          simp only [Bool.true_and, Bool.and_eq_true, List.all_eq_true]
          exact ⟨fun x hx => hall x (List.mem_of_mem_take hx), fun x hx => hall x (List.mem_of_mem_drop hx)⟩)
        refine ⟨r1, ?_⟩
        rw [r2]
        simp
        omega
      · cases h
theorem aBuildSlice_sound {P : Program} {g : Gh} {H : Heap} {w : World} {t : TypeId} {len : Nat} {ps : List (Nat × AV)} {qs : Array (Nat × Value)} {z : AV}
    (h : aBuildSlice P t len ps = some z) (hi : Inv g H w) (hp : Parts g w ps qs.toList) :
    ∃ g' w' u, (Instr.buildSlice t len qs).run P w = .ok u w' ∧ Ext g w g' w' ∧ Inv g' H w' ∧ Rel g' w' z u ∧ g'.box = g.box ∧ g'.own = g.own := by
  unfold aBuildSlice at h
  split at h
  · rename_i e sz by_ het
    obtain ⟨hu, i, hinfo, hsz, _⟩ := tElem_spec het
    have hsize : (sizeOf e).run P w = .ok sz w := by simp [sizeOf, typeInfo, hinfo, hsz]
    split at h
    · rename_i hle
      split at h
      · rename_i z0 hz
        split at h
        · rename_i hzc
          obtain ⟨hz1, hz2⟩ := hzc
          split at h
          · rename_i cells hf
            simp only [Option.some.injEq] at h
            subst h
            obtain ⟨zv, i', hzr, hi', hiz, hrel⟩ := tZero_run hz g w
            have hzl : zv.cells.size = sz := by have := hrel.1; simp at this; omega
            have hinit : ∀ zero : Array Value, (len * sz ≠ 0 → zero = zv.cells) → RelL g w (List.replicate len z0).flatten ((Array.range (len * sz)).map (zero[· % zero.size]!)).toList := by
              intro zero hzero
              refine ⟨by rw [flat_length z0 sz hz1]; simp, fun k x v hx hv => ?_⟩
              have hk : k < len * sz := by
                have := (List.getElem?_eq_some_iff.1 hv).1
                simpa using this
              have hz' := hzero (by omega)
              subst hz'
              have hpos : 0 < sz := by
                rcases Nat.eq_zero_or_pos sz with h0 | h0
                · subst h0; simp at hk
                · exact h0
              rw [flat_get z0 sz hz1 len k hk] at hx
              have hmod : k % sz < zv.cells.size := by rw [hzl]; exact Nat.mod_lt _ hpos
              have hv' : v = zv.cells[k % sz] := by
                simp [hzl, hk] at hv
                rw [← hv]
                simp [hmod]
              subst hv'
              exact hrel.2 _ x _ hx (by simp [hmod])
            have hcase : ∃ zero : Array Value, (len * sz = 0 ∧ zero = #[] ∨ len * sz ≠ 0 ∧ zero = zv.cells) ∧ (len * sz ≠ 0 → zero = zv.cells) := by
              by_cases h0 : len * sz = 0
              · exact ⟨#[], .inl ⟨h0, rfl⟩, fun hh => absurd h0 hh⟩
              · exact ⟨zv.cells, .inr ⟨h0, rfl⟩, fun _ => rfl⟩
            obtain ⟨zero, hzrun, hzeq⟩ := hcase
            obtain ⟨cs', hfill, hr, hcs⟩ := aFill_sound _ _ _ _ _ hf hp (hinit zero hzeq)
            obtain ⟨hone, hlen⟩ := aFill_one _ _ _ hf (by
              rw [List.all_flatten]
              simp only [List.all_eq_true]
              intro l hl
              rw [List.eq_of_mem_replicate hl]
              exact List.all_eq_true.1 hz2)
            have hcl : cs'.size = len * sz := by rw [hcs]; simp
            obtain ⟨he, hinv⟩ := inv_see hi (.cells cs' e) (len * sz)
            have hr' := hr.ext he
            refine ⟨_, _, .slice (some ⟨w.heap.size, 0, none⟩) len len, ?_, he, hinv, ?_, rfl, rfl⟩
            · unfold Instr.buildSlice
              simp only [Sem.run_bind, run_underlying hu, Result.andThen_ok, hsize]
              rw [if_neg (by simp; omega)]
              rcases hzrun with ⟨h0, rfl⟩ | ⟨h0, rfl⟩
              · rw [if_pos h0]
                simp only [Sem.run_bind, Sem.run_pure, Result.andThen_ok, hfill, newRow, run_newObj]
                rfl
              · rw [if_neg h0]
                simp only [Sem.run_bind, hzr, Sem.run_pure, Result.andThen_ok, hfill, newRow, run_newObj]
                rfl
            · refine .sl .ex _ _ len len sz (fun k => cs'.getD k undef) (by simp) (chunk_length sz len cells) (Nat.le_refl _) (fun _ => rfl) (by simp) ?_ ?_ ?_ ?_
              · intro x hx
                obtain ⟨k, hk, rfl⟩ := List.getElem_of_mem hx
                obtain ⟨h1, h2⟩ := chunk_get sz len cells k _ (List.getElem?_eq_getElem hk)
                rw [h2]
                have := Nat.mul_le_mul_right sz (show k + 1 ≤ len by omega)
                rw [Nat.add_mul] at this
                have hcc := hlen
                rw [flat_length z0 sz hz1] at hcc
                simp
                omega
              · intro k hk
                refine hr.one hone _ ?_
                simp [show k < cs'.size by omega]
              · intro _
                refine ⟨w.heap.size, 0, rfl, by simp [Gh.see], fun k hk => ?_⟩
                have : k < cs'.size := by omega
                simp [this]
              · intro k el j x hel hx
                obtain ⟨h1, h2⟩ := chunk_get sz len cells k el hel
                subst h2
                rw [List.getElem?_take] at hx
                split at hx
                · rw [List.getElem?_drop] at hx
                  have hb := Nat.mul_le_mul_right sz (show k + 1 ≤ len by omega)
                  rw [Nat.add_mul] at hb
                  exact hr'.2 _ x _ hx (by simp [show k * sz + j < cs'.size by omega])
                · cases hx
          · cases h
        · cases h
      · cases h
    · cases h
  · cases h
end Go.Proofs.Ytiiaajajhkdemaa.VA
