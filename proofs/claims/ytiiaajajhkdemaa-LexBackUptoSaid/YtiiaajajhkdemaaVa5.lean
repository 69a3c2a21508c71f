/- What is proved: how the abstract memory of the interpreter (VA) stays true while memory is made and written. No condition. -/
import Derived.Test.YtiiaajajhkdemaaVa4
import Derived.Deep.Draws
namespace Go.Proofs.Ytiiaajajhkdemaa.VA
open Go Go.RowKit

theorem Inv.same_heap {g : Gh} {H : Heap} {w w' : World} (h : Inv g H w) (hh : w'.heap = w.heap) (ho : w'.os = w.os) (ht : w'.tape = w.tape) (hp : w'.output = w.output) :
    Ext g w g w' ∧ Inv g H w' := by
  have hc : ∀ a, w'.cell? a = w.cell? a := fun a => by simp [World.cell?, hh]
  have he : Ext g w g w' := ⟨rfl, ho, ht, hp, by rw [hh]; exact Nat.le_refl _, fun _ _ => by rw [hh], fun _ _ => rfl, fun _ => Nat.le_refl _, fun _ _ _ => hc _, fun _ _ h => h, fun _ _ h => h⟩
  refine ⟨he, ⟨by rw [hh]; exact h.lo, by rw [hh]; exact h.fresh, by rw [hh]; exact h.boxB, h.boxI, ?_, by rw [hh]; exact h.live, h.liveI⟩⟩
  intro r cs hr
  obtain ⟨b, vs, t, h1, h2, h3⟩ := h.box r cs hr
  exact ⟨b, vs, t, h1, by rw [hh]; exact h2, h3.ext he⟩
theorem Inv.drew {g : Gh} {H : Heap} {w : World} (h : Inv g H w) : Ext g w g w.drew ∧ Inv g H w.drew := h.same_heap rfl rfl rfl rfl

theorem ext_alloc {g g' : Gh} {H : Heap} {w : World} (hi : Inv g H w) (o : Obj) (hlo : g'.lo = g.lo) (hv : ∀ b, b ≠ w.heap.size → g'.vis b = g.vis b)
    (hb : ∀ r b, g.box r = some b → g'.box r = some b) (hw : ∀ s x, g.own s = some x → g'.own s = some x) : Ext g w g' (w.alloc o) := by
  have h0 : g.vis w.heap.size = 0 := hi.fresh _ (Nat.le_refl _)
  refine ⟨hlo, rfl, rfl, rfl, by simp, ?_, ?_, ?_, ?_, hb, hw⟩
  · intro b hb; exact heap_alloc_old w o b (Nat.lt_of_lt_of_le hb hi.lo)
  · intro b hb; exact hv b (by have := hi.lo; omega)
  · intro b
    by_cases h : b = w.heap.size
    · subst h; omega
    · rw [hv b h]; exact Nat.le_refl _
  · intro b k hk
    have : b < w.heap.size := by
      rcases Nat.lt_or_ge b w.heap.size with h | h
      · exact h
      · rw [hi.fresh b h] at hk; omega
    exact World.cell?_alloc_lt w o ⟨b, k, none⟩ this

/-- A new block that slices may look at. -/
def Gh.see (g : Gh) (b n : Nat) : Gh := { g with vis := fun i => if i = b then n else g.vis i }
theorem inv_see {g : Gh} {H : Heap} {w : World} (hi : Inv g H w) (o : Obj) (n : Nat) : Ext g w (g.see w.heap.size n) (w.alloc o) ∧ Inv (g.see w.heap.size n) H (w.alloc o) := by
  have he : Ext g w (g.see w.heap.size n) (w.alloc o) := ext_alloc hi o rfl (fun b h => by simp [Gh.see, h]) (fun _ _ h => h) (fun _ _ h => h)
  refine ⟨he, ⟨by have := hi.lo; simp [Gh.see]; omega, ?_, ?_, hi.boxI, ?_, ?_, hi.liveI⟩⟩
  · intro b hb
    simp at hb
    simp only [Gh.see]
    rw [if_neg (by omega)]
    exact hi.fresh b (by omega)
  · intro r b hb
    obtain ⟨h1, h2, h3⟩ := hi.boxB r b hb
    refine ⟨h1, by simp; omega, ?_⟩
    simp only [Gh.see]
    rw [if_neg (by omega)]
    exact h3
  · intro r cs hr
    obtain ⟨b, vs, t, h1, h2, h3⟩ := hi.box r cs hr
    have hlt := (hi.boxB r b h1).2.1
    exact ⟨b, vs, t, h1, by rw [heap_alloc_old w o b hlt]; exact h2, h3.ext he⟩
  · intro s hs
    obtain ⟨b, m, cap, e, sz, vs, h1, h2, h3, h4, h5, h6, h7, h8⟩ := hi.live s hs
    have hlt : b < w.heap.size := (Array.getElem?_eq_some_iff.1 h3).1
    refine ⟨b, m, cap, e, sz, vs, h1, h2, by rw [heap_alloc_old w o b hlt]; exact h3, h4, h5, h6, ?_, h8⟩
    simp only [Gh.see]
    rw [if_neg (by omega)]
    exact h7

/-- A new box. -/
def Gh.addBox (g : Gh) (r b : Nat) : Gh := { g with box := fun i => if i = r then some b else g.box i }
theorem inv_addBox {g : Gh} {H : Heap} {w : World} (hi : Inv g H w) {r : Nat} (hf : Fresh g H r) {cs : List AV} {vs : Array Value} {t : TypeId} (hrel : RelL g w cs vs.toList) :
    Ext g w (g.addBox r w.heap.size) (w.alloc (.cells vs t)) ∧ Inv (g.addBox r w.heap.size) (H.put r cs) (w.alloc (.cells vs t)) ∧
      Rel (g.addBox r w.heap.size) (w.alloc (.cells vs t)) (.ptr r 0) (.pointer (some ⟨w.heap.size, 0, none⟩)) := by
  have he : Ext g w (g.addBox r w.heap.size) (w.alloc (.cells vs t)) := ext_alloc hi _ rfl (fun b h => rfl)
    (fun i b h => by
      simp only [Gh.addBox]
      split
      · rename_i hir; subst hir; rw [hf.1] at h; cases h
      · exact h) (fun _ _ h => h)
  have hnew : (g.addBox r w.heap.size).box r = some w.heap.size := by simp [Gh.addBox]
  refine ⟨he, ⟨by have := hi.lo; simp [Gh.addBox]; omega, ?_, ?_, ?_, ?_, ?_, hi.liveI⟩, .ptr r 0 _ hnew⟩
  · intro b hb
    simp at hb
    exact hi.fresh b (by omega)
  · intro i b hb
    simp only [Gh.addBox] at hb
    split at hb
    · simp at hb; subst hb
      exact ⟨hi.lo, by simp, hi.fresh _ (Nat.le_refl _)⟩
    · obtain ⟨h1, h2, h3⟩ := hi.boxB i b hb
      exact ⟨h1, by simp; omega, h3⟩
  · intro i j b h1 h2
    simp only [Gh.addBox] at h1 h2
    split at h1
    · rename_i hir
      simp at h1; subst h1
      split at h2
      · rename_i hjr; rw [hir, hjr]
      · have := (hi.boxB j _ h2).2.1; omega
    · split at h2
      · simp at h2; subst h2
        have := (hi.boxB i _ h1).2.1; omega
      · exact hi.boxI i j b h1 h2
  · intro i ds hd
    rw [Heap.get_put] at hd
    split at hd
    · rename_i hir
      simp at hd; subst hd; subst hir
      exact ⟨w.heap.size, vs, t, hnew, heap_alloc_new w _, hrel.ext he⟩
    · rename_i hir
      obtain ⟨b, us, t', h1, h2, h3⟩ := hi.box i ds hd
      have hlt := (hi.boxB i b h1).2.1
      refine ⟨b, us, t', he.box i b h1, by rw [heap_alloc_old w _ b hlt]; exact h2, h3.ext he⟩
  · intro s hs
    obtain ⟨b, m, cap, e, sz, us, h1, h2, h3, h4, h5, h6, h7, h8⟩ := hi.live s hs
    have hlt : b < w.heap.size := (Array.getElem?_eq_some_iff.1 h3).1
    refine ⟨b, m, cap, e, sz, us, h1, h2, by rw [heap_alloc_old w _ b hlt]; exact h3, h4, h5, h6, h7, ?_⟩
    intro i hi'
    simp only [Gh.addBox] at hi'
    split at hi'
    · simp at hi'; omega
    · exact h8 i hi'

/-- A store into a box. -/
theorem inv_store {g : Gh} {H : Heap} {w : World} (hi : Inv g H w) {r b : Nat} {cs' : List AV} {vs vs' : Array Value} {t : TypeId} (hb : g.box r = some b)
    (hh : w.heap[b]? = some (.cells vs t (0, 0))) (hrel : RelL g w cs' vs'.toList) : Ext g w g (w.setRow b vs') ∧ Inv g (H.put r cs') (w.setRow b vs') := by
  have hB := hi.boxB r b hb
  have he : Ext g w g (w.setRow b vs') := by
    refine ⟨rfl, rfl, rfl, rfl, by simp, ?_, fun _ _ => rfl, fun _ => Nat.le_refl _, ?_, fun _ _ h => h, fun _ _ h => h⟩
    · intro k hk; exact setRow_other w b k vs' (by omega)
    · intro k o ho
      by_cases hkb : k = b
      · subst hkb; omega
      · exact cell_setRow_other w b vs' ⟨k, o, none⟩ hkb
  refine ⟨he, ⟨by simp; exact hi.lo, by simpa using hi.fresh, by simpa using hi.boxB, hi.boxI, ?_, ?_, hi.liveI⟩⟩
  · intro i ds hd
    rw [Heap.get_put] at hd
    split at hd
    · rename_i hir
      simp at hd; subst hd; subst hir
      exact ⟨b, vs', t, hb, setRow_heap w b vs vs' t (0, 0) hh, hrel.ext he⟩
    · rename_i hir
      obtain ⟨b', us, t', h1, h2, h3⟩ := hi.box i ds hd
      have hne : b' ≠ b := fun h => hir (hi.boxI r i b hb (by rw [h1, h])  )
      exact ⟨b', us, t', h1, by rw [setRow_other w b b' vs' hne]; exact h2, h3.ext he⟩
  · intro s hs
    obtain ⟨b', m, cap, e, sz, us, h1, h2, h3, h4, h5, h6, h7, h8⟩ := hi.live s hs
    have hne : b' ≠ b := fun h => h8 r (by rw [hb, h])
    exact ⟨b', m, cap, e, sz, us, h1, h2, by rw [setRow_other w b b' vs' hne]; exact h3, h4, h5, h6, h7, h8⟩

/-- A right to append in place. -/
def Gh.addOwn (g : Gh) (s : Nat) (x : Nat × Nat × Nat × TypeId × Nat) (b n : Nat) : Gh :=
  { g with own := fun i => if i = s then some x else g.own i, vis := fun i => if i = b then n else g.vis i }
theorem Fresh.live_ne {g : Gh} {H : Heap} {r s : Nat} (h : Fresh g H r) (hs : H.isLive s = true) : s ≠ r := fun e => by subst e; rw [h.2.2.2] at hs; cases hs
theorem inv_ownNew {g : Gh} {H H1 : Heap} {w : World} (hi : Inv g H w) {s : Nat} (hf : Fresh g H s) {vs : Array Value} {e : TypeId} {n cap sz : Nat} (hnc : n ≤ cap) (hcm : cap ≤ maxLen)
    (hsz : vs.size = cap * sz) (hg : ∀ r, H1.get r = H.get r) (hl : ∀ k, H1.isLive k = true → k = s ∨ H.isLive k = true) :
    Ext g w (g.addOwn s (w.heap.size, n, cap, e, sz) w.heap.size (n * sz)) (w.alloc (.cells vs e)) ∧
      Inv (g.addOwn s (w.heap.size, n, cap, e, sz) w.heap.size (n * sz)) H1 (w.alloc (.cells vs e)) := by
  have he : Ext g w (g.addOwn s (w.heap.size, n, cap, e, sz) w.heap.size (n * sz)) (w.alloc (.cells vs e)) :=
    ext_alloc hi _ rfl (fun b h => by simp [Gh.addOwn, h]) (fun _ _ h => h) (fun i x h => by
      simp only [Gh.addOwn]
      split
      · rename_i his; subst his; rw [hf.2.1] at h; cases h
      · exact h)
  refine ⟨he, ⟨by have := hi.lo; simp [Gh.addOwn]; omega, ?_, ?_, hi.boxI, ?_, ?_, ?_⟩⟩
  · intro b hb
    simp at hb
    simp only [Gh.addOwn]
    rw [if_neg (by omega)]
    exact hi.fresh b (by omega)
  · intro r b hb
    obtain ⟨h1, h2, h3⟩ := hi.boxB r b hb
    refine ⟨h1, by simp; omega, ?_⟩
    simp only [Gh.addOwn]
    rw [if_neg (by omega)]
    exact h3
  · intro r cs hr
    rw [hg] at hr
    obtain ⟨b, us, t, h1, h2, h3⟩ := hi.box r cs hr
    have hlt := (hi.boxB r b h1).2.1
    exact ⟨b, us, t, h1, by rw [heap_alloc_old w _ b hlt]; exact h2, h3.ext he⟩
  · intro k hk
    by_cases hks : k = s
    · subst hks
      refine ⟨w.heap.size, n, cap, e, sz, vs, by simp [Gh.addOwn], hi.lo, heap_alloc_new w _, hnc, hcm, hsz, by simp [Gh.addOwn], ?_⟩
      intro r hr
      have := (hi.boxB r _ hr).2.1
      omega
    · have hk' := (hl k hk).resolve_left hks
      obtain ⟨b, m, cap', e', sz', us, h1, h2, h3, h4, h5, h6, h7, h8⟩ := hi.live k hk'
      have hlt : b < w.heap.size := (Array.getElem?_eq_some_iff.1 h3).1
      refine ⟨b, m, cap', e', sz', us, he.own _ _ h1, h2, by rw [heap_alloc_old w _ b hlt]; exact h3, h4, h5, h6, ?_, h8⟩
      simp only [Gh.addOwn]
      rw [if_neg (by omega)]
      exact h7
  · intro k k' b x y hk hk' h1 h2
    simp only [Gh.addOwn] at h1 h2
    have lt : ∀ j z, H.isLive j = true → g.own j = some (b, z) → b < w.heap.size := by
      intro j z hj hz
      obtain ⟨b', m, cap', e', sz', us, g1, _, g3, _⟩ := hi.live j hj
      rw [hz] at g1
      simp at g1
      rw [g1.1]
      exact (Array.getElem?_eq_some_iff.1 g3).1
    by_cases a1 : k = s <;> by_cases a2 : k' = s
    · rw [a1, a2]
    · rw [if_pos a1] at h1
      rw [if_neg a2] at h2
      simp at h1
      have := lt k' y ((hl k' hk').resolve_left a2) h2
      omega
    · rw [if_neg a1] at h1
      rw [if_pos a2] at h2
      simp at h2
      have := lt k x ((hl k hk).resolve_left a1) h1
      omega
    · rw [if_neg a1] at h1
      rw [if_neg a2] at h2
      exact hi.liveI k k' b x y ((hl k hk).resolve_left a1) ((hl k' hk').resolve_left a2) h1 h2
/-- An append in place: the right passes from 'k' to 's'. -/
theorem inv_ownRoom {g : Gh} {H H1 : Heap} {w : World} (hi : Inv g H w) {s k0 : Nat} (hf : Fresh g H s) (hk0 : H.isLive k0 = true) {b n m cap sz : Nat} {e : TypeId} {vs vs' : Array Value}
    (ho : g.own k0 = some (b, n, cap, e, sz)) (hh : w.heap[b]? = some (.cells vs e (0, 0))) (hnm : n ≤ m) (hmc : m ≤ cap) (hsz : vs'.size = cap * sz)
    (hsame : ∀ o, o < n * sz → vs'[o]? = vs[o]?) (hg : ∀ r, H1.get r = H.get r) (hl : ∀ k, H1.isLive k = true → k = s ∨ (k ≠ k0 ∧ H.isLive k = true)) :
    Ext g w (g.addOwn s (b, m, cap, e, sz) b (m * sz)) (w.setRow b vs') ∧ Inv (g.addOwn s (b, m, cap, e, sz) b (m * sz)) H1 (w.setRow b vs') := by
  obtain ⟨b0, n0, cap0, e0, sz0, us0, g1, g2, g3, g4, g5, g6, g7, g8⟩ := hi.live k0 hk0
  rw [ho] at g1
  simp only [Option.some.injEq, Prod.mk.injEq] at g1
  obtain ⟨rfl, rfl, rfl, rfl, rfl⟩ := g1
  have hmul : n * sz ≤ m * sz := Nat.mul_le_mul_right sz hnm
  have he : Ext g w (g.addOwn s (b, m, cap, e, sz) b (m * sz)) (w.setRow b vs') := by
    refine ⟨rfl, rfl, rfl, rfl, by simp, ?_, ?_, ?_, ?_, fun _ _ h => h, ?_⟩
    · intro k hk; exact setRow_other w b k vs' (by omega)
    · intro k hk
      simp only [Gh.addOwn]
      rw [if_neg (by omega)]
    · intro k
      simp only [Gh.addOwn]
      split
      · rename_i hkb; subst hkb; omega
      · exact Nat.le_refl _
    · intro k o hko
      by_cases hkb : k = b
      · subst hkb
        rw [cell_of_row _ k o vs' e (0, 0) (setRow_heap w k vs vs' e (0, 0) hh), cell_of_row w k o vs e (0, 0) hh]
        exact hsame o (by omega)
      · exact cell_setRow_other w b vs' ⟨k, o, none⟩ hkb
    · intro i x h
      simp only [Gh.addOwn]
      split
      · rename_i his; subst his; rw [hf.2.1] at h; cases h
      · exact h
  refine ⟨he, ⟨by simp [Gh.addOwn]; exact hi.lo, ?_, ?_, hi.boxI, ?_, ?_, ?_⟩⟩
  · intro k hk
    simp at hk
    simp only [Gh.addOwn]
    have := (Array.getElem?_eq_some_iff.1 hh).1
    rw [if_neg (by omega)]
    exact hi.fresh k hk
  · intro r k hk
    obtain ⟨h1, h2, h3⟩ := hi.boxB r k hk
    refine ⟨h1, by simpa using h2, ?_⟩
    simp only [Gh.addOwn]
    rw [if_neg (fun h => g8 r (by rw [← h]; exact hk))]
    exact h3
  · intro r cs hr
    rw [hg] at hr
    obtain ⟨k, us, t, h1, h2, h3⟩ := hi.box r cs hr
    have hne : k ≠ b := fun h => g8 r (by rw [← h]; exact h1)
    exact ⟨k, us, t, h1, by rw [setRow_other w b k vs' hne]; exact h2, h3.ext he⟩
  · intro k hk
    by_cases hks : k = s
    · subst hks
      exact ⟨b, m, cap, e, sz, vs', by simp [Gh.addOwn], g2, setRow_heap w b vs vs' e (0, 0) hh, hmc, g5, hsz, by simp [Gh.addOwn], g8⟩
    · obtain ⟨hkk, hk'⟩ := (hl k hk).resolve_left hks
      obtain ⟨b', m', cap', e', sz', us, h1, h2, h3, h4, h5, h6, h7, h8⟩ := hi.live k hk'
      have hne : b' ≠ b := fun h => hkk (hi.liveI k k0 b (m', cap', e', sz') (n, cap, e, sz) hk' hk0 (by rw [h1, h]) ho)
      refine ⟨b', m', cap', e', sz', us, he.own _ _ h1, h2, by rw [setRow_other w b b' vs' hne]; exact h3, h4, h5, h6, ?_, h8⟩
      simp only [Gh.addOwn]
      rw [if_neg hne]
      exact h7
  · intro k k' b' x y hk hk' h1 h2
    simp only [Gh.addOwn] at h1 h2
    by_cases a1 : k = s <;> by_cases a2 : k' = s
    · rw [a1, a2]
    · rw [if_pos a1] at h1
      rw [if_neg a2] at h2
      simp only [Option.some.injEq, Prod.mk.injEq] at h1
      obtain ⟨rfl, _⟩ := h1
      obtain ⟨q1, q2⟩ := (hl k' hk').resolve_left a2
      exact absurd (hi.liveI k' k0 b y _ q2 hk0 h2 ho) q1
    · rw [if_neg a1] at h1
      rw [if_pos a2] at h2
      simp only [Option.some.injEq, Prod.mk.injEq] at h2
      obtain ⟨rfl, _⟩ := h2
      obtain ⟨q1, q2⟩ := (hl k hk).resolve_left a1
      exact absurd (hi.liveI k k0 b x _ q2 hk0 h1 ho) q1
    · rw [if_neg a1] at h1
      rw [if_neg a2] at h2
      exact hi.liveI k k' b' x y ((hl k hk).resolve_left a1).2 ((hl k' hk').resolve_left a2).2 h1 h2
end Go.Proofs.Ytiiaajajhkdemaa.VA
