/- What is proved: the library's functions that the abstract interpreter (VA) is told of answer as it is told, and its table is the program's. No condition. -/
import Derived.Test.YtiiaajajhkdemaaLb1
import Derived.Test.YtiiaajajhkdemaaJa1
namespace Go.Proofs.Ytiiaajajhkdemaa.VA
open Go Go.RowKit
set_option linter.unusedSimpArgs false

theorem below_step {g : Gh} {H : Heap} {w w' : World} (hi : Inv g H w) (h : Below w.heap.size w w') : Ext g w g w' ∧ Inv g H w' := by
  have hcell : ∀ b, b < w.heap.size → ∀ o, w'.cell? ⟨b, o, none⟩ = w.cell? ⟨b, o, none⟩ := fun b hb o => by
    simp only [World.cell?, h.block b hb]
  refine ⟨⟨rfl, h.os, h.tape, h.output, h.size, fun b hb => h.block b (Nat.lt_of_lt_of_le hb hi.lo), fun _ _ => rfl, fun _ => Nat.le_refl _, ?_, fun _ _ h => h, fun _ _ h => h⟩, ?_⟩
  · intro b o ho
    by_cases hb : b < w.heap.size
    · exact hcell b hb o
    · rw [hi.fresh b (by omega)] at ho; omega
  · have hext : Ext g w g w' := by
      refine ⟨rfl, h.os, h.tape, h.output, h.size, fun b hb => h.block b (Nat.lt_of_lt_of_le hb hi.lo), fun _ _ => rfl, fun _ => Nat.le_refl _, ?_, fun _ _ h => h, fun _ _ h => h⟩
      intro b o ho
      by_cases hb : b < w.heap.size
      · exact hcell b hb o
      · rw [hi.fresh b (by omega)] at ho; omega
    constructor
    · exact Nat.le_trans hi.lo h.size
    · exact fun b hb => hi.fresh b (Nat.le_trans h.size hb)
    · exact fun r b hb => let ⟨h1, h2, h3⟩ := hi.boxB r b hb; ⟨h1, Nat.lt_of_lt_of_le h2 h.size, h3⟩
    · exact hi.boxI
    · intro r cs hr
      obtain ⟨b, vs, t, h1, h2, h3⟩ := hi.box r cs hr
      exact ⟨b, vs, t, h1, by rw [h.block b (hi.boxB r b h1).2.1]; exact h2, h3.ext hext⟩
    · intro s hs
      obtain ⟨b, n, cap, e, sz, vs, h1, h2, h3, h4⟩ := hi.live s hs
      have hb : b < w.heap.size := by
        apply Classical.byContradiction
        intro hb
        rw [Array.getElem?_eq_none (by omega)] at h3; cases h3
      exact ⟨b, n, cap, e, sz, vs, h1, h2, by rw [h.block b hb]; exact h3, h4⟩
    · exact hi.liveI
theorem idx_lib {c : Nat} (hc : c < 256) : ∀ (l : List UInt8) (i : Nat), (Lib.indexByte l c.toUInt8 = -1 ∧ idxByte l c i = -1) ∨ (0 ≤ Lib.indexByte l c.toUInt8 ∧ idxByte l c i = Lib.indexByte l c.toUInt8 + (i : Int))
  | [], i => .inl ⟨rfl, rfl⟩
  | x :: l, i => by
    have hs : Lib.indexByte (x :: l) c.toUInt8 = if (x == c.toUInt8) = true then 0 else if (Lib.indexByte l c.toUInt8 == -1) = true then -1 else Lib.indexByte l c.toUInt8 + 1 := rfl
    have ht : idxByte (x :: l) c i = if x.toNat = c then (i : Int) else idxByte l c (i + 1) := rfl
    by_cases hx : x.toNat = c
    · have h1 : (x == c.toUInt8) = true := by rw [← hx]; simp
      rw [if_pos h1] at hs
      rw [if_pos hx] at ht
      rw [hs, ht]
      exact .inr ⟨by omega, by omega⟩
    · have h1 : ¬ (x == c.toUInt8) = true := by
        intro hh; apply hx; rw [eq_of_beq hh]; simp; omega
      rw [if_neg h1] at hs
      rw [if_neg hx] at ht
      rcases idx_lib hc l (i + 1) with ⟨h2, h3⟩ | ⟨h2, h3⟩
      · rw [if_pos (by rw [h2]; rfl)] at hs
        rw [hs, ht]
        exact .inl ⟨rfl, h3⟩
      · have h4 : ¬ (Lib.indexByte l c.toUInt8 == -1) = true := fun hh => by have := eq_of_beq hh; omega
        rw [if_neg h4] at hs
        rw [hs, ht]
        exact .inr ⟨by omega, by omega⟩
theorem told_index : ToldOk Try.prog 29 tIndexByte := by
  refine ⟨fun vs w => callFunc_enter Try.func29 (by kernel_rfl) rfl vs w, ?_⟩
  intro args v h g H w vs hi hr
  unfold tIndexByte at h
  split at h
  · rename_i s c
    split at h
    · rename_i hc
      simp only [Option.some.injEq] at h
      subst h
      obtain ⟨v0, v1, hvs⟩ : ∃ v0 v1, vs = #[v0, v1] := by
        have hl := hr.1
        simp at hl
        exact ⟨vs[0], vs[1], by apply Array.ext <;> simp <;> try omega
                                intro i h1 h2
                                match i, h2 with
                                | 0, _ => rfl
                                | 1, _ => rfl⟩
      subst hvs
      have h0 := hr.head.lit_inv
      have h1 := hr.tail.head.lit_inv
      subst h0; subst h1
      refine (Try.strings_IndexByte s c w).mono ?_
      rintro en w' ⟨rfl, rfl⟩
      refine ⟨_, g, rfl, Ext.refl g _, hi, rfl, rfl, ?_⟩
      have he : idxByte s.data.toList c.toNat 0 = Lib.indexByte s.data.toList c.toNat.toUInt8 := by
        rcases idx_lib hc s.data.toList 0 with ⟨h2, h3⟩ | ⟨h2, h3⟩ <;> omega
      rw [he]
      exact .lit _
    · cases h
  · cases h
theorem two_args {vs : Array Value} (h : 2 = vs.size) : ∃ v0 v1, vs = #[v0, v1] := by
  refine ⟨vs[0], vs[1], ?_⟩
  apply Array.ext
  · simp; omega
  · intro i h1 h2
    match i, h2 with
    | 0, _ => rfl
    | 1, _ => rfl
theorem strs_some : ∀ (es : List (List AV)) (l : List (List UInt8)), strs es = some l → es = l.map encS
  | [], l, h => by simp [strs] at h; subst h; rfl
  | e :: es, l, h => by
    unfold strs at h
    split at h
    · rename_i heq; cases heq
    · rename_i s r heq
      obtain ⟨rfl, rfl⟩ := List.cons.inj heq
      cases hr : strs es with
      | none => simp [hr] at h
      | some l' =>
        simp [hr] at h
        subst h
        rw [strs_some es l' hr]
        simp [encS, ← ba_eta]
    · cases h
theorem join_none (a : Option Addr) (c : Nat) (sep : ByteArray) (w : World) : Calls Try.prog 27 #[.slice a 0 c, .string sep] w fun e w' => e = .returned (.string ⟨#[]⟩) ∧ w' = w := by
  go_enter Try.func27, Try.ntmps27
  go_wp2
  go_ret
  exact ⟨rfl, rfl⟩
theorem join_one (bk o c : Nat) (x sep : ByteArray) (w : World) (hc : w.cell? ⟨bk, o, none⟩ = some (.string x)) :
    Calls Try.prog 27 #[.slice (some ⟨bk, o, none⟩) 1 c, .string sep] w fun e w' => e = .returned (.string x) ∧ w' = w := by
  go_enter Try.func27, Try.ntmps27
  go_wp2
  go_ret
  exact ⟨rfl, rfl⟩
theorem lib_join_ba (l : List (List UInt8)) (sep : ByteArray) : (⟨(Lib.join ((l.map ba).map (·.data.toList)) sep.data.toList).toArray⟩ : ByteArray) = ba (joined sep.data.toList l) := by
  have : (l.map ba).map (·.data.toList) = l := by simp [Function.comp_def]
  rw [this]; rfl
theorem told_join : ToldOk Try.prog 27 tJoin := by
  refine ⟨fun vs w => callFunc_enter Try.func27 (by kernel_rfl) rfl vs w, ?_⟩
  intro args v h g H w vs hi hr
  unfold tJoin at h
  split at h
  · rename_i o es sep
    split at h
    · rename_i l hl
      split at h
      · rename_i hc
        simp only [Option.some.injEq] at h
        subst h
        obtain ⟨v0, v1, rfl⟩ := two_args (by have := hr.1; simpa using this)
        have h1 := hr.tail.head.lit_inv
        subst h1
        have h0 := hr.head
        have hes := strs_some _ _ hl
        subst hes
        have post : ∀ (r : Ending) (w' : World), (r = .returned (.string (ba (joined sep.data.toList l))) ∧ Below w.heap.size w w') →
            ∃ u g', r = .returned u ∧ Ext g w g' w' ∧ Inv g' H w' ∧ g'.box = g.box ∧ g'.own = g.own ∧ Rel g' w' (.lit (.string (ba (joined sep.data.toList l)))) u := by
          rintro r w' ⟨rfl, hb⟩
          obtain ⟨k1, k2⟩ := below_step hi hb
          exact ⟨_, g, rfl, k1, k2, rfl, rfl, .lit _⟩
        have none_case : ∀ (a : Option Addr) (c : Nat), l = [] → Calls Try.prog 27 #[.slice a 0 c, .string sep] w fun en w' => ∃ u g', en = .returned u ∧ Ext g w g' w' ∧ Inv g' H w' ∧ g'.box = g.box ∧ g'.own = g.own ∧
            Rel g' w' (.lit (.string (ba (joined sep.data.toList l)))) u := by
          intro a c hl0
          refine (join_none a c sep w).mono fun r w' hh => post r w' ?_
          obtain ⟨rfl, rfl⟩ := hh
          exact ⟨by rw [hl0]; rfl, Below.refl _ _⟩
        generalize hes : l.map encS = es at h0
        cases h0 with
        | sl _ _ a n cap sz f ho hn hcap hex hown hsz h1 ha hrel =>
          subst hes
          rw [List.length_map] at hn
          subst hn
          cases hlen : l.length with
          | zero => exact none_case a cap (List.eq_nil_of_length_eq_zero hlen)
          | succ m =>
            rw [← hlen]
            have hsz1 : sz = 1 := by
              have hne : l ≠ [] := by intro hh; rw [hh] at hlen; cases hlen
              obtain ⟨x, l', rfl⟩ : ∃ x l', l = x :: l' := by cases l with | nil => exact absurd rfl hne | cons x l' => exact ⟨x, l', rfl⟩
              exact (hsz (encS x) (by simp)).symm
            subst hsz1
            obtain ⟨b, off, rfl, hv, hcells⟩ := ha (by omega)
            have cells : ∀ (j : Nat) x, l[j]? = some x → w.cell? ⟨b, off + j, none⟩ = some (.string (ba x)) := by
              intro j x hx
              have hj : j < l.length := (List.getElem?_eq_some_iff.1 hx).1
              rw [hcells j (by omega)]
              have := hrel j (encS x) 0 (.lit (.string (ba x))) (by simp [hx]) rfl
              have := this.lit_inv
              simp at this
              rw [this]
            have hb : b < w.heap.size := by
              apply Classical.byContradiction
              intro hb
              have h2 := hcells 0 (by omega)
              simp [World.cell?, Array.getElem?_eq_none (show w.heap.size ≤ b by omega)] at h2
            cases m with
            | zero =>
              obtain ⟨x, rfl⟩ : ∃ x, l = [x] := by
                match l, hlen with
                | [x], _ => exact ⟨x, rfl⟩
              refine (join_one b off cap (ba x) sep w (cells 0 x rfl)).mono fun r w' hh => post r w' ?_
              obtain ⟨rfl, rfl⟩ := hh
              refine ⟨?_, Below.refl _ _⟩
              simp [joined, Lib.join_one]
            | succ m =>
              have hj := join_many b off cap (l.map ba) sep w (by
                intro j x hx
                rw [List.getElem?_map] at hx
                cases hl2 : l[j]? with
                | none => rw [hl2] at hx; cases hx
                | some y => rw [hl2] at hx; simp at hx; subst hx; exact cells j y hl2) hb (by simp; omega) (by simp; omega) (by simp; omega) (by
                have : (l.map ba).map (·.data.toList) = l := by simp [Function.comp_def]
                rw [this]; exact hc.1)
              rw [lib_join_ba, List.length_map] at hj
              exact hj.mono fun r w' hh => post r w' hh
        | nil =>
          exact none_case none 0 (List.map_eq_nil_iff.1 hes)
      · cases h
    · cases h
  · cases h
end Go.Proofs.Ytiiaajajhkdemaa.VA
