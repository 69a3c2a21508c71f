/- What is said: of which element types the abstract interpreter (VA) keeps lists that may be written in place.
What is proved: the abstract values of a verified abstract interpreter (VA), what they represent in a world, and that this stays true while the world grows. No condition.
What is proved: the operations of the abstract interpreter (VA): each, where it answers, tells what the model's own operation does to values and memory. No condition.
What is proved: the operations of the abstract interpreter (VA) that leave memory alone tell the value that the model's own operation yields. No condition.
What is proved: each operation of the abstract interpreter (VA) that leaves memory alone yields what the model's own operation yields. No condition.
What is proved: how the abstract memory of the interpreter (VA) stays true while memory is made and written. No condition.
What is proved: one operation of the abstract interpreter (VA), memory and all, against the model's own. No condition.
What is proved: making slices and appending to them, in the abstract interpreter (VA), against the model's own operations; and so one step of it. No condition.
What is proved: appending to arrays, and clearing them, in the abstract interpreter (VA) against the model's own. No condition. -/
import Derived.Scope
import Derived.Laws.AppendOwn
import Derived.Below
import Derived.Orders
import Derived.KernelRfl
import Derived.Laws.StructEq
import Derived.Laws.Append
import Derived.Laws.Build
import Derived.Deep.Draws
/-! Va0 -/
namespace Go.Proofs.YtnoahchdmkpleaaGreat.VA
open Go
def mutT (e : TypeId) : Bool := [
76,
83,
85,
 4294967295].contains e
end Go.Proofs.YtnoahchdmkpleaaGreat.VA

/-! Va1 -/
namespace Go.Proofs.YtnoahchdmkpleaaGreat.VA
open Go Go.RowKit

/-! ### lists that answer everywhere -/
def gget {α : Type} (d : α) : List α → Nat → α
 | [], _ => d
 | x :: _, 0 => x
 | _ :: l, i + 1 => gget d l i
def gset {α : Type} (d : α) : List α → Nat → α → List α
 | [], 0, v => [v]
 | [], i + 1, v => d :: gset d [] i v
 | _ :: l, 0, v => v :: l
 | x :: l, i + 1, v => x :: gset d l i v
theorem gget_nil {α : Type} (d : α) (i : Nat) : gget d [] i = d := rfl
theorem gget_gset {α : Type} (d : α) : ∀ (l : List α) (i : Nat) (v : α) (j : Nat), gget d (gset d l i v) j = if i = j then v else gget d l j
 | [], 0, v, 0 => rfl
 | [], 0, v, j + 1 => by simp [gset, gget]
 | [], i + 1, v, 0 => by simp [gset, gget]
 | [], i + 1, v, j + 1 => by
  simp only [gset, gget]
  rw [gget_gset d [] i v j]
  simp [gget]
 | x :: l, 0, v, 0 => rfl
 | x :: l, 0, v, j + 1 => by simp [gset, gget]
 | x :: l, i + 1, v, 0 => by simp [gset, gget]
 | x :: l, i + 1, v, j + 1 => by
  simp only [gset, gget]
  rw [gget_gset d l i v j]
  simp

/-! ### abstract values -/
inductive Own where
 | nil
 | sh
 | ex
 | own (s : Nat) (e : TypeId) (sz : Nat)
inductive AV where
 | bad
 | lit (v : Value)
 | sl (o : Own) (es : List (List AV))
 | ptr (r off : Nat)
 | ep (cs : List AV)
 | fn (f : FuncId) (caps : List AV)
 | bf (f : FuncId) (bs : List AV)
 | ifc (t : TypeId) (v : AV)
 | mp (r : Nat)
 | ar (r lo n sz : Nat)
 | agg (cs : List AV)
 | tup (vs : List AV)
def AV.cells : AV → List AV
 | .agg cs => cs
 | v => [v]
/-- The value of one cell. -/
def AV.one : AV → Bool
 | .lit v => v.oneCell'
 | .bad | .agg _ | .tup _ => false
 | _ => true
mutual
/-- An abstract value without what hangs on the caller's own memory: no pointer, no right to append in place. -/
def san : AV → AV
 | .bad => .bad
 | .lit v => .lit v
 | .sl _ es => .sl .sh (sanLL es)
 | .ptr _ _ => .bad
 | .ep cs => .ep (sanL cs)
 | .fn f caps => .fn f (sanL caps)
 | .bf f bs => .bf f (sanL bs)
 | .ifc t v => .ifc t (san v)
 | .mp _ => .bad
 | .ar _ _ _ _ => .bad
 | .agg cs => .agg (sanL cs)
 | .tup vs => .tup (sanL vs)
def sanL : List AV → List AV
 | [] => []
 | x :: l => san x :: sanL l
def sanLL : List (List AV) → List (List AV)
 | [] => []
 | x :: l => sanL x :: sanLL l
end
theorem sanL_map (l : List AV) : sanL l = l.map san := by
 induction l with
 | nil => rfl
 | cons x l ih => simp [sanL, ih]
theorem sanLL_map (l : List (List AV)) : sanLL l = l.map sanL := by
 induction l with
 | nil => rfl
 | cons x l ih => simp [sanLL, ih]

/-! ### what an abstract value represents -/
/-- What is known of the blocks below a bound, and stays so. -/
structure Cond where
 holds : Nat → World → Prop
 stable : ∀ {lo lo' : Nat} {w w' : World}, holds lo w → lo ≤ lo' → (∀ b, b < lo → w'.heap[b]? = w.heap[b]?) → holds lo' w'
def Cond.none : Cond := ⟨fun _ _ => True, fun _ _ _ => trivial⟩
structure Gh where
 lo : Nat
 vis : Nat → Nat
 box : Nat → Option Nat
 own : Nat → Option (Nat × Nat × Nat × TypeId × Nat)
 cond : Cond
inductive Rel (g : Gh) (w : World) : AV → Value → Prop
 | bad (v : Value) : Rel g w .bad v
 | lit (v : Value) : Rel g w (.lit v) v
 | nil : Rel g w (.sl .nil []) (.slice none 0 0)
 | sl (o : Own) (es : List (List AV)) (a : Option Addr) (n cap sz : Nat) (f : Nat → Value) (ho : o ≠ .nil) (hn : es.length = n) (hcap : n ≤ cap)
   (hex : o = .ex → cap = n)
   (hown : ∀ s e z, o = .own s e z → z = sz ∧ ∃ b, a = some ⟨b, 0, none⟩ ∧ g.own s = some (b, n, cap, e, sz))
   (hsz : ∀ x, x ∈ es → x.length = sz) (h1 : ∀ k, k < n * sz → (f k).oneCell' = true)
   (ha : n ≠ 0 → ∃ b off, a = some ⟨b, off, none⟩ ∧ off + n * sz ≤ g.vis b ∧ ∀ k, k < n * sz → w.cell? ⟨b, off + k, none⟩ = some (f k))
   (hr : ∀ (i : Nat) (e : List AV) (j : Nat) (x : AV), es[i]? = some e → e[j]? = some x → Rel g w x (f (i * sz + j))) : Rel g w (.sl o es) (.slice a n cap)
 | ptr (r off b : Nat) (h : g.box r = some b) : Rel g w (.ptr r off) (.pointer (some ⟨b, off, none⟩))
 | ep (cs : List AV) (b off : Nat) (f : Nat → Value) (hv : off + cs.length ≤ g.vis b) (hc : ∀ k, k < cs.length → w.cell? ⟨b, off + k, none⟩ = some (f k))
   (hr : ∀ (j : Nat) (x : AV), cs[j]? = some x → Rel g w x (f j)) : Rel g w (.ep cs) (.pointer (some ⟨b, off, none⟩))
 | fn (fid : FuncId) (caps : List AV) (vs : Array Value) (hl : caps.length = vs.size) (hr : ∀ (i : Nat) (x : AV) (v : Value), caps[i]? = some x → vs[i]? = some v → Rel g w x v) :
   Rel g w (.fn fid caps) (.func (.func fid) #[] vs)
 | bf (fid : FuncId) (bs : List AV) (vs : Array Value) (hl : bs.length = vs.size) (hr : ∀ (i : Nat) (x : AV) (v : Value), bs[i]? = some x → vs[i]? = some v → Rel g w x v) :
   Rel g w (.bf fid bs) (.func (.func fid) vs #[])
 | ifc (t : TypeId) (x : AV) (v : Value) (h : Rel g w x v) : Rel g w (.ifc t x) (.iface t v)
 | mp (r b : Nat) (h : g.box r = some b) : Rel g w (.mp r) (.map (some b))
 | ar (r lo n sz b cap m off c : Nat) (e : TypeId) (h : g.box r = some b) (ho : g.own r = some (b, m, cap, e, sz)) (hn : n ≤ c) (hc : lo + c = cap) (hoff : c ≠ 0 → off = lo * sz) : Rel g w (.ar r lo n sz) (.slice (some ⟨b, off, none⟩) n c)
 | agg (cs : List AV) (vs : Array Value) (hl : cs.length = vs.size) (hr : ∀ (i : Nat) (x : AV) (v : Value), cs[i]? = some x → vs[i]? = some v → Rel g w x v) : Rel g w (.agg cs) (.agg vs)
 | tup (cs : List AV) (vs : Array Value) (hl : cs.length = vs.size) (hr : ∀ (i : Nat) (x : AV) (v : Value), cs[i]? = some x → vs[i]? = some v → Rel g w x v) : Rel g w (.tup cs) (.tuple vs)

/-- Two lists, place by place. -/
def RelL (g : Gh) (w : World) (cs : List AV) (vs : List Value) : Prop := cs.length = vs.length ∧ ∀ (i : Nat) (x : AV) (v : Value), cs[i]? = some x → vs[i]? = some v → Rel g w x v
theorem RelL.nil (g : Gh) (w : World) : RelL g w [] [] := ⟨rfl, fun i x v h => by simp at h⟩
theorem RelL.cons {g : Gh} {w : World} {x : AV} {v : Value} {cs : List AV} {vs : List Value} (h : Rel g w x v) (hl : RelL g w cs vs) : RelL g w (x :: cs) (v :: vs) := by
 refine ⟨by simp [hl.1], fun i y u hy hu => ?_⟩
 cases i with
 | zero => simp at hy hu; subst hy; subst hu; exact h
 | succ i => exact hl.2 i y u (by simpa using hy) (by simpa using hu)
theorem RelL.head {g : Gh} {w : World} {x : AV} {v : Value} {cs : List AV} {vs : List Value} (h : RelL g w (x :: cs) (v :: vs)) : Rel g w x v := h.2 0 x v rfl rfl
theorem RelL.tail {g : Gh} {w : World} {x : AV} {v : Value} {cs : List AV} {vs : List Value} (h : RelL g w (x :: cs) (v :: vs)) : RelL g w cs vs :=
 ⟨by simpa using h.1, fun i y u hy hu => h.2 (i + 1) y u (by simpa using hy) (by simpa using hu)⟩
theorem RelL.append {g : Gh} {w : World} {a b : List AV} {va vb : List Value} (h : RelL g w a va) (k : RelL g w b vb) : RelL g w (a ++ b) (va ++ vb) := by
 refine ⟨by simp [h.1, k.1], fun i x v hx hv => ?_⟩
 by_cases hi : i < a.length
 ·rw [List.getElem?_append_left hi] at hx
  rw [List.getElem?_append_left (by rw [← h.1]; exact hi)] at hv
  exact h.2 i x v hx hv
 ·rw [List.getElem?_append_right (by omega)] at hx
  rw [List.getElem?_append_right (by rw [← h.1]; omega), ← h.1] at hv
  exact k.2 _ x v hx hv
theorem RelL.drop {g : Gh} {w : World} {a : List AV} {va : List Value} (h : RelL g w a va) (n : Nat) : RelL g w (a.drop n) (va.drop n) :=
 ⟨by simp [h.1], fun i x v hx hv => h.2 (n + i) x v (by simpa using hx) (by simpa using hv)⟩
theorem RelL.take {g : Gh} {w : World} {a : List AV} {va : List Value} (h : RelL g w a va) (n : Nat) : RelL g w (a.take n) (va.take n) := by
 refine ⟨by simp [h.1], fun i x v hx hv => ?_⟩
 rw [List.getElem?_take] at hx hv
 split at hx
 ·rename_i hi; rw [if_pos hi] at hv; exact h.2 i x v hx hv
 ·cases hx

/-! ### the world grows -/
structure Ext (g : Gh) (w : World) (g' : Gh) (w' : World) : Prop where
 lo : g'.lo = g.lo
 os : w'.os = w.os
 tape : w'.tape = w.tape
 output : w'.output = w.output ∧ w.drawn ≤ w'.drawn
 size : w.heap.size ≤ w'.heap.size
 low : ∀ b, b < g.lo → w'.heap[b]? = w.heap[b]?
 lowv : ∀ b, b < g.lo → g'.vis b = g.vis b
 vis : ∀ b, g.vis b ≤ g'.vis b
 cell : ∀ b o, o < g.vis b → w'.cell? ⟨b, o, none⟩ = w.cell? ⟨b, o, none⟩
 box : ∀ r b, g.box r = some b → g'.box r = some b
 own : ∀ s x, g.own s = some x → g'.own s = some x
 cond : g'.cond = g.cond
theorem Ext.refl (g : Gh) (w : World) : Ext g w g w :=
 ⟨rfl, rfl, rfl, ⟨rfl, Nat.le_refl _⟩, Nat.le_refl _, fun _ _ => rfl, fun _ _ => rfl, fun _ => Nat.le_refl _, fun _ _ _ => rfl, fun _ _ h => h, fun _ _ h => h, rfl⟩
theorem Ext.trans {g g1 g2 : Gh} {w w1 w2 : World} (h : Ext g w g1 w1) (k : Ext g1 w1 g2 w2) : Ext g w g2 w2 :=
 ⟨k.lo.trans h.lo, k.os.trans h.os, k.tape.trans h.tape, ⟨k.output.1.trans h.output.1, Nat.le_trans h.output.2 k.output.2⟩, Nat.le_trans h.size k.size,
  fun b hb => (k.low b (by rw [h.lo]; exact hb)).trans (h.low b hb), fun b hb => (k.lowv b (by rw [h.lo]; exact hb)).trans (h.lowv b hb),
  fun b => Nat.le_trans (h.vis b) (k.vis b), fun b o ho => (k.cell b o (Nat.lt_of_lt_of_le ho (h.vis b))).trans (h.cell b o ho),
  fun r b hb => k.box r b (h.box r b hb), fun s x hx => k.own s x (h.own s x hx), k.cond.trans h.cond⟩
theorem Ext.holds {g g' : Gh} {w w' : World} (e : Ext g w g' w') (h : g.cond.holds g.lo w) : g'.cond.holds g'.lo w' := by
 rw [e.cond, e.lo]; exact g.cond.stable h (Nat.le_refl _) e.low
theorem Rel.ext {g g' : Gh} {w w' : World} {x : AV} {v : Value} (h : Rel g w x v) (e : Ext g w g' w') : Rel g' w' x v := by
 induction h with
 | bad v => exact .bad v
 | lit v => exact .lit v
 | nil => exact .nil
 | sl o es a n cap sz f ho hn hcap hex hown hsz h1 ha hr ih =>
  refine .sl o es a n cap sz f ho hn hcap hex ?_ hsz h1 ?_ ih
  ·intro s t z hs
   obtain ⟨h4, b, h2, h3⟩ := hown s t z hs
   exact ⟨h4, b, h2, e.own _ _ h3⟩
  ·intro h0
   obtain ⟨b, off, h4, h2, h3⟩ := ha h0
   exact ⟨b, off, h4, Nat.le_trans h2 (e.vis b), fun k hk => (e.cell b (off + k) (by omega)).trans (h3 k hk)⟩
 | ptr r off b h => exact .ptr r off b (e.box r b h)
 | ep cs b off f hv hc hr ih => exact .ep cs b off f (Nat.le_trans hv (e.vis b)) (fun k hk => (e.cell b (off + k) (by omega)).trans (hc k hk)) ih
 | fn fid caps vs hl hr ih => exact .fn fid caps vs hl ih
 | bf fid bs vs hl hr ih => exact .bf fid bs vs hl ih
 | ifc t x v h ih => exact .ifc t x v ih
 | mp r b h => exact .mp r b (e.box r b h)
 | ar r lo n sz b cap m off c t h ho hn hc hoff => exact .ar r lo n sz b cap m off c t (e.box r b h) (e.own _ _ ho) hn hc hoff
 | agg cs vs hl hr ih => exact .agg cs vs hl ih
 | tup cs vs hl hr ih => exact .tup cs vs hl ih
theorem RelL.ext {g g' : Gh} {w w' : World} {cs : List AV} {vs : List Value} (h : RelL g w cs vs) (e : Ext g w g' w') : RelL g' w' cs vs :=
 ⟨h.1, fun i x v hx hv => (h.2 i x v hx hv).ext e⟩
theorem getElem?_sanL {cs : List AV} {i : Nat} {x : AV} (h : (sanL cs)[i]? = some x) : ∃ y, cs[i]? = some y ∧ x = san y := by
 rw [sanL_map, List.getElem?_map] at h
 cases hc : cs[i]? with
 | none => simp [hc] at h
 | some y => simp [hc] at h; exact ⟨y, rfl, h.symm⟩
theorem getElem?_sanLL {es : List (List AV)} {i : Nat} {x : List AV} (h : (sanLL es)[i]? = some x) : ∃ y, es[i]? = some y ∧ x = sanL y := by
 rw [sanLL_map, List.getElem?_map] at h
 cases hc : es[i]? with
 | none => simp [hc] at h
 | some y => simp [hc] at h; exact ⟨y, rfl, h.symm⟩
theorem length_sanL (l : List AV) : (sanL l).length = l.length := by rw [sanL_map]; simp
theorem length_sanLL (l : List (List AV)) : (sanLL l).length = l.length := by rw [sanLL_map]; simp
/-- Without the caller's own memory a value means the same in whatever ghost sees as much. -/
theorem Rel.san {g g' : Gh} {w : World} {x : AV} {v : Value} (h : Rel g w x v) (hv : ∀ b, g.vis b ≤ g'.vis b) : Rel g' w (san x) v := by
 induction h with
 | bad v => exact .bad v
 | lit v => exact .lit v
 | nil => exact .sl .sh [] none 0 0 0 (fun _ => undef) (by simp) rfl (Nat.le_refl _) (by simp) (by simp) (by simp) (by simp) (fun h => absurd rfl h) (by simp)
 | sl o es a n cap sz f ho hn hcap hex hown hsz h1 ha hr ih =>
  simp only [VA.san]
  refine .sl .sh (sanLL es) a n cap sz f (by simp) (by rw [length_sanLL]; exact hn) hcap (by simp) (by simp) ?_ h1 ?_ ?_
  ·intro x hx
   rw [sanLL_map] at hx
   obtain ⟨y, hy, rfl⟩ := List.mem_map.1 hx
   rw [length_sanL]
   exact hsz y hy
  ·intro h0
   obtain ⟨b, off, h4, h2, h3⟩ := ha h0
   exact ⟨b, off, h4, Nat.le_trans h2 (hv b), h3⟩
  ·intro i e j x he hx
   obtain ⟨e', he', rfl⟩ := getElem?_sanLL he
   obtain ⟨x', hx', rfl⟩ := getElem?_sanL hx
   exact ih i e' j x' he' hx'
 | ptr r off b h => exact .bad _
 | ep cs b off f hvv hc hr ih =>
  simp only [VA.san]
  refine .ep (sanL cs) b off f (by rw [length_sanL]; exact Nat.le_trans hvv (hv b)) (by rw [length_sanL]; exact hc) ?_
  intro j x hx
  obtain ⟨x', hx', rfl⟩ := getElem?_sanL hx
  exact ih j x' hx'
 | fn fid caps vs hl hr ih =>
  simp only [VA.san]
  refine .fn fid (sanL caps) vs (by rw [length_sanL]; exact hl) ?_
  intro i x v hx hv'
  obtain ⟨x', hx', rfl⟩ := getElem?_sanL hx
  exact ih i x' v hx' hv'
 | bf fid bs vs hl hr ih =>
  simp only [VA.san]
  refine .bf fid (sanL bs) vs (by rw [length_sanL]; exact hl) ?_
  intro i x v hx hv'
  obtain ⟨x', hx', rfl⟩ := getElem?_sanL hx
  exact ih i x' v hx' hv'
 | ifc t x v h ih => exact .ifc t _ v ih
 | mp r b h => exact .bad _
 | ar r lo n sz b cap m off c t h ho hn hc hoff => exact .bad _
 | agg cs vs hl hr ih =>
  simp only [VA.san]
  refine .agg (sanL cs) vs (by rw [length_sanL]; exact hl) ?_
  intro i x v hx hv'
  obtain ⟨x', hx', rfl⟩ := getElem?_sanL hx
  exact ih i x' v hx' hv'
 | tup cs vs hl hr ih =>
  simp only [VA.san]
  refine .tup (sanL cs) vs (by rw [length_sanL]; exact hl) ?_
  intro i x v hx hv'
  obtain ⟨x', hx', rfl⟩ := getElem?_sanL hx
  exact ih i x' v hx' hv'
theorem RelL.san {g g' : Gh} {w : World} {cs : List AV} {vs : List Value} (h : RelL g w cs vs) (hv : ∀ b, g.vis b ≤ g'.vis b) : RelL g' w (sanL cs) vs := by
 refine ⟨by rw [length_sanL]; exact h.1, fun i x v hx hv' => ?_⟩
 obtain ⟨x', hx', rfl⟩ := getElem?_sanL hx
 exact (h.2 i x' v hx' hv').san hv
theorem Rel.one {g : Gh} {w : World} {x : AV} {v : Value} (h : Rel g w x v) (ho : x.one = true) : v.oneCell' = true := by
 cases h with
 | lit v => exact ho
 | bad | agg | tup => simp [AV.one] at ho
 | _ => rfl
theorem Rel.cells {g : Gh} {w : World} {x : AV} {v : Value} (h : Rel g w x v) (hx : x.cells.all AV.one = true) : RelL g w x.cells v.cells.toList := by
 have single : ∀ {y : AV} {u : Value}, Rel g w y u → y.one = true → y.cells = [y] → RelL g w y.cells u.cells.toList := by
  intro y u hr ho hc
  rw [hc]
  have h1 := hr.one ho
  have h2 : u.cells = #[u] := by cases u <;> first | rfl | simp [Value.oneCell'] at h1
  rw [h2]
  exact RelL.cons hr (RelL.nil g w)
 cases h with
 | agg cs vs hl hr => exact ⟨by simpa [AV.cells, Value.cells] using hl, fun i x v hx hv => hr i x v hx (by simpa [Value.cells] using hv)⟩
 | bad v => simp [AV.cells, AV.one] at hx
 | tup cs vs hl hr => simp [AV.cells, AV.one] at hx
 | lit v => exact single (.lit v) (by simpa [AV.cells] using hx) rfl
 | nil => exact single .nil rfl rfl
 | sl o es a n cap sz f ho hn hcap hex hown hsz h1 ha hr => exact single (.sl o es a n cap sz f ho hn hcap hex hown hsz h1 ha hr) rfl rfl
 | ptr r off b h => exact single (.ptr r off b h) rfl rfl
 | ep cs b off f hv hc hr => exact single (.ep cs b off f hv hc hr) rfl rfl
 | fn fid caps vs hl hr => exact single (.fn fid caps vs hl hr) rfl rfl
 | bf fid bs vs hl hr => exact single (.bf fid bs vs hl hr) rfl rfl
 | ifc t x v h => exact single (.ifc t x v h) rfl rfl
 | mp r b h => exact single (.mp r b h) rfl rfl
 | ar r lo n sz b cap m off c t h ho hn hc hoff => exact single (.ar r lo n sz b cap m off c t h ho hn hc hoff) rfl rfl
/-- A constant of the program's text. -/
def ofV : Value → AV
 | .slice none 0 0 => .sl .nil []
 | v => .lit v
theorem Rel.ofV (g : Gh) (w : World) (v : Value) : Rel g w (ofV v) v := by
 unfold VA.ofV
 split
 ·exact .nil
 ·exact .lit _

/-! ### the abstract memory -/
/-- What a number names: cells; a map, as keys and what is there. -/
inductive HO where
 | bx (cs : List AV)
 | mpo (ks vs : List AV)
structure Heap where
 ho : Nat → Option HO
 live : Nat → Bool
 next : Nat
def Heap.empty : Heap := ⟨fun _ => none, fun _ => false, 0⟩
def HO.cells : Option HO → Option (List AV)
 | some (.bx cs) => some cs
 | _ => none
def HO.pairs : Option HO → Option (List AV × List AV)
 | some (.mpo ks vs) => some (ks, vs)
 | _ => none
def Heap.get (H : Heap) (r : Nat) : Option (List AV) := HO.cells (H.ho r)
def Heap.getM (H : Heap) (r : Nat) : Option (List AV × List AV) := HO.pairs (H.ho r)
def Heap.set (H : Heap) (r : Nat) (o : HO) : Heap := { H with ho := fun i => if r = i then some o else H.ho i }
def Heap.put (H : Heap) (r : Nat) (cs : List AV) : Heap := H.set r (.bx cs)
def Heap.putM (H : Heap) (r : Nat) (ks vs : List AV) : Heap := H.set r (.mpo ks vs)
def Heap.isLive (H : Heap) (s : Nat) : Bool := H.live s
def Heap.setLive (H : Heap) (s : Nat) (b : Bool) : Heap := { H with live := fun i => if s = i then b else H.live i }
def Heap.del (H : Heap) (r : Nat) : Heap := { H with ho := fun i => if r = i then none else H.ho i }
@[simp] theorem Heap.get_del (H : Heap) (r r' : Nat) : (H.del r).get r' = if r = r' then none else H.get r' := by
 unfold Heap.get Heap.del; dsimp only; split <;> rfl
@[simp] theorem Heap.getM_del (H : Heap) (r r' : Nat) : (H.del r).getM r' = if r = r' then none else H.getM r' := by
 unfold Heap.getM Heap.del; dsimp only; split <;> rfl
@[simp] theorem Heap.isLive_del (H : Heap) (r s : Nat) : (H.del r).isLive s = H.isLive s := rfl
@[simp] theorem Heap.next_del (H : Heap) (r : Nat) : (H.del r).next = H.next := rfl
theorem Heap.live_get {H : Heap} {r : Nat} {cs : List AV} (h : H.get r = some cs) : (H.ho r).isSome = true := by
 unfold Heap.get at h
 cases hh : H.ho r with
 | none => rw [hh] at h; cases h
 | some o => rfl
theorem Heap.live_getM {H : Heap} {r : Nat} {x : List AV × List AV} (h : H.getM r = some x) : (H.ho r).isSome = true := by
 unfold Heap.getM at h
 cases hh : H.ho r with
 | none => rw [hh] at h; cases h
 | some o => rfl
theorem Heap.ho_set (H : Heap) (r : Nat) (o : HO) (i : Nat) : (H.set r o).ho i = if r = i then some o else H.ho i := rfl
theorem HO.cells_some {o : Option HO} {cs : List AV} : HO.cells o = some cs ↔ o = some (.bx cs) := by
 cases o with
 | none => simp [HO.cells]
 | some o => cases o <;> simp [HO.cells]
theorem HO.pairs_some {o : Option HO} {ks vs : List AV} : HO.pairs o = some (ks, vs) ↔ o = some (.mpo ks vs) := by
 cases o with
 | none => simp [HO.pairs]
 | some o => cases o <;> simp [HO.pairs]
@[simp] theorem Heap.get_put (H : Heap) (r : Nat) (cs : List AV) (r' : Nat) : (H.put r cs).get r' = if r = r' then some cs else H.get r' := by
 simp only [Heap.get, Heap.put, Heap.ho_set]; split <;> rfl
@[simp] theorem Heap.getM_put (H : Heap) (r : Nat) (cs : List AV) (r' : Nat) : (H.put r cs).getM r' = if r = r' then none else H.getM r' := by
 simp only [Heap.getM, Heap.put, Heap.ho_set]; split <;> rfl
@[simp] theorem Heap.get_putM (H : Heap) (r : Nat) (ks vs : List AV) (r' : Nat) : (H.putM r ks vs).get r' = if r = r' then none else H.get r' := by
 simp only [Heap.get, Heap.putM, Heap.ho_set]; split <;> rfl
@[simp] theorem Heap.getM_putM (H : Heap) (r : Nat) (ks vs : List AV) (r' : Nat) : (H.putM r ks vs).getM r' = if r = r' then some (ks, vs) else H.getM r' := by
 simp only [Heap.getM, Heap.putM, Heap.ho_set]; split <;> rfl
@[simp] theorem Heap.isLive_putM (H : Heap) (r : Nat) (ks vs : List AV) (s : Nat) : (H.putM r ks vs).isLive s = H.isLive s := rfl
@[simp] theorem Heap.next_putM (H : Heap) (r : Nat) (ks vs : List AV) : (H.putM r ks vs).next = H.next := rfl
@[simp] theorem Heap.getM_setLive (H : Heap) (s : Nat) (b : Bool) (r : Nat) : (H.setLive s b).getM r = H.getM r := rfl
@[simp] theorem Heap.getM_empty (r : Nat) : Heap.empty.getM r = none := rfl
@[simp] theorem Heap.isLive_put (H : Heap) (r : Nat) (cs : List AV) (s : Nat) : (H.put r cs).isLive s = H.isLive s := rfl
@[simp] theorem Heap.next_put (H : Heap) (r : Nat) (cs : List AV) : (H.put r cs).next = H.next := rfl
@[simp] theorem Heap.isLive_setLive (H : Heap) (s : Nat) (b : Bool) (s' : Nat) : (H.setLive s b).isLive s' = if s = s' then b else H.isLive s' := rfl
@[simp] theorem Heap.get_setLive (H : Heap) (s : Nat) (b : Bool) (r : Nat) : (H.setLive s b).get r = H.get r := rfl
@[simp] theorem Heap.next_setLive (H : Heap) (s : Nat) (b : Bool) : (H.setLive s b).next = H.next := rfl
@[simp] theorem Heap.get_empty (r : Nat) : Heap.empty.get r = none := rfl
@[simp] theorem Heap.isLive_empty (r : Nat) : Heap.empty.isLive r = false := rfl
@[simp] theorem Heap.next_empty : Heap.empty.next = 0 := rfl

structure Inv (g : Gh) (H : Heap) (w : World) : Prop where
 lo : g.lo ≤ w.heap.size
 fresh : ∀ b, w.heap.size ≤ b → g.vis b = 0
 boxS : ∀ r b, g.box r = some b → g.lo ≤ b ∧ b < w.heap.size
 boxB : ∀ r b, (H.ho r).isSome = true → g.box r = some b → g.vis b = 0
 boxI : ∀ r r' b, (H.ho r).isSome = true → (H.ho r').isSome = true → g.box r = some b → g.box r' = some b → r = r'
 box : ∀ r cs b, H.get r = some cs → g.box r = some b → ∃ vs t, w.heap[b]? = some (.cells vs t (0, 0)) ∧ RelL g w cs (vs.toList.take cs.length)
 live : ∀ s, H.isLive s = true → ∃ b n cap e sz vs, g.own s = some (b, n, cap, e, sz) ∧ g.lo ≤ b ∧ w.heap[b]? = some (.cells vs e (0, 0)) ∧
  n ≤ cap ∧ cap ≤ maxLen ∧ vs.size = cap * sz ∧ g.vis b = n * sz ∧ (∀ r, (H.ho r).isSome = true → g.box r ≠ some b)
 liveI : ∀ s s' b x y, H.isLive s = true → H.isLive s' = true → g.own s = some (b, x) → g.own s' = some (b, y) → s = s'
 map : ∀ r ks vs, H.getM r = some (ks, vs) → ∃ b es clock, g.box r = some b ∧ w.heap[b]? = some (.map es clock) ∧ RelL g w ks (es.toList.map (·.key)) ∧ RelL g w vs (es.toList.map (·.val))
 arr : ∀ r b n cap e sz, (H.get r).isSome = true → g.box r = some b → g.own r = some (b, n, cap, e, sz) → cap ≤ maxLen ∧ ∃ vs, w.heap[b]? = some (.cells vs e (0, 0)) ∧ vs.size = cap * sz
 cond : g.cond.holds g.lo w
theorem Inv.boxE {g : Gh} {H : Heap} {w : World} (h : Inv g H w) {r b : Nat} {cs : List AV} (hr : H.get r = some cs) (hb : g.box r = some b) :
  ∃ b vs t, g.box r = some b ∧ w.heap[b]? = some (.cells vs t (0, 0)) ∧ RelL g w cs (vs.toList.take cs.length) := by
 obtain ⟨vs, t, h1, h2⟩ := h.box r cs b hr hb
 exact ⟨b, vs, t, hb, h1, h2⟩
/-- A number that names nothing yet. -/
def Fresh (g : Gh) (H : Heap) (r : Nat) : Prop := g.box r = none ∧ g.own r = none ∧ H.isLive r = false
theorem Inv.fresh_of {g : Gh} {H : Heap} {w : World} (h : Inv g H w) {r : Nat} (hb : g.box r = none) (ho : g.own r = none) : Fresh g H r := by
 refine ⟨hb, ho, ?_⟩
 cases hl : H.isLive r with
 | false => rfl
 | true =>
  obtain ⟨b, n, cap, e, sz, vs, h1, _⟩ := h.live r hl
  rw [ho] at h1; cases h1

/-- The slots. -/
def EnvRel (g : Gh) (w : World) (e : List AV) (tmps : Array Value) : Prop := ∀ i, Rel g w (gget .bad e i) (tmps.getD i undef)
theorem EnvRel.ext {g g' : Gh} {w w' : World} {e : List AV} {tmps : Array Value} (h : EnvRel g w e tmps) (x : Ext g w g' w') : EnvRel g' w' e tmps := fun i => (h i).ext x
def aput (e : List AV) (dst : Option Tmp) (v : AV) : List AV :=
 match dst with
 | some d => gset .bad e d v
 | none => e
theorem EnvRel.put {g : Gh} {w : World} {e : List AV} {a : Act} (h : EnvRel g w e a.tmps) {dst : Option Tmp} (hd : ∀ d, dst = some d → d < a.tmps.size) {x : AV} {v : Value} (hv : Rel g w x v) :
  EnvRel g w (aput e dst x) (a.put dst v).tmps := by
 cases dst with
 | none => exact h
 | some d =>
  intro i
  have hlt := hd d rfl
  simp only [aput, Act.put, gget_gset]
  by_cases hi : d = i
  ·subst hi
   simp [hlt, hv]
  ·rw [if_neg hi]
   have := h i
   simpa [Array.getElem?_setIfInBounds_ne hi] using this
theorem size_put (a : Act) (dst : Option Tmp) (v : Value) : (a.put dst v).tmps.size = a.tmps.size := by
 cases dst <;> simp [Act.put]
theorem defers_put (a : Act) (dst : Option Tmp) (v : Value) : (a.put dst v).defers = a.defers := by
 cases dst <;> simp [Act.put]
def aeval (e : List AV) : Operand → AV
 | .tmp t => gget .bad e t
 | .const v => ofV v
 | .global _ => .bad
 | .func f => .fn f []
theorem EnvRel.eval {g : Gh} {w : World} {e : List AV} {a : Act} (h : EnvRel g w e a.tmps) (x : Operand) : Rel g w (aeval e x) (a.eval x) := by
 cases x with
 | tmp t => exact h t
 | const v => exact Rel.ofV g w v
 | global _ => exact .bad _
 | func f => exact .fn f [] #[] rfl (by simp)
end Go.Proofs.YtnoahchdmkpleaaGreat.VA

/-! Va2 -/
namespace Go.Proofs.YtnoahchdmkpleaaGreat.VA
open Go Go.RowKit

/-! ### types -/
def tAgg (P : Program) (t : TypeId) : Option Bool := (P.underlying t).map fun | .struct _ | .array _ _ => true | _ => false
def tSize (P : Program) (t : TypeId) : Option Nat := (P.info? t).map (·.size)
def tZero (P : Program) (t : TypeId) : Option (List AV) := ((P.info? t).bind (·.zero)).map fun z => z.cells.toList.map ofV
def tField (P : Program) (t : TypeId) (i : Nat) : Option (Nat × Nat × Bool) :=
 match P.underlying t with
 | some (.struct fs) =>
  match fs[i]? with
  | some f =>
   match tSize P f.type, tAgg P f.type with
   | some s, some a => some (f.offset, s, a)
   | _, _ => none
  | none => none
 | _ => none
/-- Of a slice's type: the elements' type, their cells, their bytes. -/
def tElem (P : Program) (t : TypeId) : Option (TypeId × Nat × Nat) :=
 match P.underlying t with
 | some (.slice e) => (P.info? e).map fun i => (e, i.size, i.bytes)
 | _ => none
theorem tAgg_run {P : Program} {t : TypeId} {b : Bool} (h : tAgg P t = some b) (w : World) : (isAgg t).run P w = .ok b w := by
 unfold tAgg at h
 cases hu : P.underlying t with
 | none => simp [hu] at h
 | some d =>
  simp [hu] at h
  unfold isAgg
  rw [Sem.run_bind, run_underlying hu w]
  subst h
  cases d <;> rfl
theorem tSize_info {P : Program} {t : TypeId} {n : Nat} (h : tSize P t = some n) : ∃ i, P.info? t = some i ∧ i.size = n := by
 unfold tSize at h
 cases hu : P.info? t with
 | none => simp [hu] at h
 | some d => simp [hu] at h; exact ⟨d, rfl, h⟩
theorem tSize_run {P : Program} {t : TypeId} {n : Nat} (h : tSize P t = some n) (w : World) : (sizeOf t).run P w = .ok n w := by
 obtain ⟨i, h1, rfl⟩ := tSize_info h
 simp [sizeOf, typeInfo, h1]
theorem tZero_run {P : Program} {t : TypeId} {cs : List AV} (h : tZero P t = some cs) (g : Gh) (w : World) :
  ∃ z i, (zeroValue t).run P w = .ok z w ∧ P.info? t = some i ∧ i.zero = some z ∧ RelL g w cs z.cells.toList := by
 unfold tZero at h
 cases hu : P.info? t with
 | none => simp [hu] at h
 | some i =>
  cases hz : i.zero with
  | none => simp [hu, hz] at h
  | some z =>
   simp [hu, hz] at h
   refine ⟨z, i, by simp [zeroValue, typeInfo, hu, hz], rfl, hz, ?_⟩
   subst h
   refine ⟨by simp, fun j x v hx hv => ?_⟩
   rw [List.getElem?_map, hv] at hx
   simp at hx
   subst hx
   exact Rel.ofV g w v
theorem tElem_spec {P : Program} {t e : TypeId} {n b : Nat} (h : tElem P t = some (e, n, b)) : P.underlying t = some (.slice e) ∧ ∃ i, P.info? e = some i ∧ i.size = n ∧ i.bytes = b := by
 unfold tElem at h
 split at h
 ·rename_i e' hu
  cases hi : P.info? e' with
  | none => simp [hi] at h
  | some i => simp [hi] at h; obtain ⟨rfl, rfl, rfl⟩ := h; exact ⟨hu, i, hi, rfl, rfl⟩
 ·cases h
theorem tField_spec {P : Program} {t : TypeId} {k o n : Nat} {b : Bool} (h : tField P t k = some (o, n, b)) :
  ∃ fs f, P.underlying t = some (.struct fs) ∧ fs[k]? = some f ∧ f.offset = o ∧ tSize P f.type = some n ∧ tAgg P f.type = some b := by
 unfold tField at h
 split at h
 ·rename_i fs hu
  split at h
  ·rename_i f hf
   split at h
   ·rename_i s a hs ha
    simp at h
    obtain ⟨rfl, rfl, rfl⟩ := h
    exact ⟨fs, f, hu, hf, rfl, hs, ha⟩
   ·cases h
  ·cases h
 ·cases h

/-! ### updates of the abstract memory -/
inductive U where
 | box (r : Nat) (cs : List AV)
 | live (s : Nat) (b : Bool)
 | map (r : Nat) (ks vs : List AV)
 | del (r : Nat)
def U.key : U → Nat
 | .box r _ => r
 | .live s _ => s
 | .map r _ _ => r
 | .del r => r
def U.app (H : Heap) : U → Heap
 | .box r cs => H.put r cs
 | .live s b => H.setLive s b
 | .map r ks vs => H.putM r ks vs
 | .del r => H.del r
def appU (H : Heap) : List U → Heap
 | [] => H
 | u :: us => appU (u.app H) us
inductive Sr where
 /-- a value, what is written, what was read -/
 | val (v : AV) (us : List U) (rs : List Nat)
 | call (f : FuncId) (args : List AV)
 | pan (v : AV)

/-! ### operations -/
def strEq (x y : ByteArray) : Bool := x.data.toList == y.data.toList
theorem strEq_toList (x y : ByteArray) : (x.toList == y.toList) = strEq x y := by
 unfold strEq; rw [ByteArray.toList_eq, ByteArray.toList_eq]
theorem strEq_iff (x y : ByteArray) : strEq x y = true ↔ x = y := by
 unfold strEq
 constructor
 ·intro h
  have := eq_of_beq h
  cases x; cases y
  simp at this
  cases this
  rfl
 ·rintro rfl; simp
theorem strEq_decide (x y : ByteArray) : strEq x y = decide (x = y) := by
 by_cases h : x = y
 ·simp [h, strEq]
 ·rw [decide_eq_false h]
  cases hs : strEq x y
  ·rfl
  ·exact absurd ((strEq_iff x y).1 hs) h
def aIntCmp (op : BinOp) (a b : Int) : Option Bool :=
 match op with
 | .eql => some (decide (a = b))
 | .neq => some (!decide (a = b))
 | .lss => some (decide (a < b))
 | .leq => some (decide (a ≤ b))
 | .gtr => some (decide (b < a))
 | .geq => some (decide (b ≤ a))
 | _ => none
def aInt (op : BinOp) (k : IntKind) (a b : Int) : Option AV :=
 match op with
 | .add => some (.lit (.int k (k.wrap (a + b))))
 | .sub => some (.lit (.int k (k.wrap (a - b))))
 | .mul => some (.lit (.int k (k.wrap (a * b))))
 | .quo => if b = 0 then none else some (.lit (.int k (k.wrap (a.tdiv b))))
 | .rem => if b = 0 then none else some (.lit (.int k (a.tmod b)))
 | .shr => if b = 1 then some (.lit (.int k (a.fdiv 2))) else none
 | op => (aIntCmp op a b).map fun b => .lit (.bool b)
def aStr (op : BinOp) (x y : ByteArray) : Option AV :=
 match op with
 | .add => if x.size + y.size ≤ 9223372036854775807 then some (.lit (.string (x ++ y))) else none
 | .eql => some (.lit (.bool (strEq x y)))
 | .neq => some (.lit (.bool (!strEq x y)))
 | .lss => some (.lit (.bool (Op.bytesLess x.data.toList y.data.toList)))
 | .leq => some (.lit (.bool (Op.bytesLess x.data.toList y.data.toList || strEq x y)))
 | .gtr => some (.lit (.bool (!(Op.bytesLess x.data.toList y.data.toList || strEq x y))))
 | .geq => some (.lit (.bool (!Op.bytesLess x.data.toList y.data.toList)))
 | _ => none
/-- Are two structs equal, field by field? -/
def aEqs (P : Program) (eq : TypeId → AV → AV → Option Bool) (xs ys : List AV) : List Field → Option Bool
 | [] => some true
 | f :: fs =>
  if f.name = "_" then aEqs P eq xs ys fs else
  match tSize P f.type, tAgg P f.type with
  | some n, some true =>
   if f.offset + n ≤ xs.length ∧ f.offset + n ≤ ys.length then
    match eq f.type (.agg ((xs.drop f.offset).take n)) (.agg ((ys.drop f.offset).take n)) with
    | some true => aEqs P eq xs ys fs
    | r => r
   else none
  | some _, some false =>
   match xs[f.offset]?, ys[f.offset]? with
   | some x, some y =>
    match eq f.type x y with
    | some true => aEqs P eq xs ys fs
    | r => r
   | _, _ => none
  | _, _ => none
/-- Are two values of a type equal? Integers, truth values, strings, and structs of these. -/
def aEq (P : Program) : Nat → TypeId → AV → AV → Option Bool
 | 0, _, _, _ => none
 | d + 1, t, x, y =>
  match x, y with
  | .lit (.bool a), .lit (.bool b) => match P.underlying t with | some .bool => some (a == b) | _ => none
  | .lit (.int k a), .lit (.int k' b) => match P.underlying t with | some (.int _) => if k = k' then some (decide (a = b)) else none | _ => none
  | .lit (.string a), .lit (.string b) => match P.underlying t with | some .string => some (strEq a b) | _ => none
  | .agg xs, .agg ys =>
   match P.underlying t with
   | some (.struct fs) => if P.stoodInHeld t = false then aEqs P (aEq P d) xs ys fs.toList else none
   | _ => none
  | _, _ => none
theorem Rel.agg_inv {g : Gh} {w : World} {cs : List AV} {v : Value} (h : Rel g w (.agg cs) v) : ∃ vs, v = .agg vs ∧ RelL g w cs vs.toList := by
 cases h with
 | agg cs vs hl hr => exact ⟨vs, rfl, by simpa using hl, fun i x v hx hv => hr i x v hx (by simpa using hv)⟩
theorem Rel.lit_inv {g : Gh} {w : World} {u v : Value} (h : Rel g w (.lit u) v) : v = u := by cases h; rfl
theorem Rel.mk_agg {g : Gh} {w : World} {cs : List AV} {vs : Array Value} (h : RelL g w cs vs.toList) : Rel g w (.agg cs) (.agg vs) :=
 .agg cs vs (by simpa using h.1) (fun i x v hx hv => h.2 i x v hx (by simpa using hv))
theorem Rel.mk_tup {g : Gh} {w : World} {cs : List AV} {vs : Array Value} (h : RelL g w cs vs.toList) : Rel g w (.tup cs) (.tuple vs) :=
 .tup cs vs (by simpa using h.1) (fun i x v hx hv => h.2 i x v hx (by simpa using hv))
theorem part_agg {P : Program} {g : Gh} {w : World} {t : TypeId} {n o : Nat} {cs : List AV} {vs : Array Value} (ha : tAgg P t = some true) (hs : tSize P t = some n) (h : RelL g w cs vs.toList) :
  ∃ u, (part t vs o).run P w = .ok u w ∧ Rel g w (.agg ((cs.drop o).take n)) u := by
 refine ⟨.agg (vs.extract o (o + n)), ?_, Rel.mk_agg ?_⟩
 ·simp [part, tAgg_run ha, tSize_run hs]
 ·have : (vs.extract o (o + n)).toList = (vs.toList.drop o).take n := by
   rw [Array.toList_extract]
   simp [List.extract_eq_take_drop]
  rw [this]
  exact (h.drop o).take n
theorem part_one {P : Program} {g : Gh} {w : World} {t : TypeId} {o : Nat} {cs : List AV} {vs : Array Value} {x : AV} (ha : tAgg P t = some false) (hx : cs[o]? = some x) (h : RelL g w cs vs.toList) :
  ∃ u, (part t vs o).run P w = .ok u w ∧ Rel g w x u := by
 have hlt : o < cs.length := (List.getElem?_eq_some_iff.1 hx).1
 have hlt' : o < vs.size := by have := h.1; simp at this; omega
 refine ⟨vs[o], ?_, h.2 o x _ hx (by simp [hlt'])⟩
 simp [part, tAgg_run ha, hlt']
theorem aEq_sound {P : Program} {g : Gh} {w : World} : ∀ (d : Nat) (t : TypeId) (x y : AV) (u v : Value) (b : Bool), aEq P d t x y = some b → Rel g w x u → Rel g w y v →
  ∀ D, d ≤ D → (Op.equalIn D t u v).run P w = .ok b w := by
 intro d
 induction d with
 | zero => intro t x y u v b h; simp [aEq] at h
 | succ d ih =>
  intro t x y u v b h hx hy D hD
  obtain ⟨D, rfl⟩ : ∃ E, D = E + 1 := ⟨D - 1, by omega⟩
  unfold aEq at h
  split at h
  ·rename_i a c
   split at h
   ·rename_i hu
    simp at h; subst h
    rw [hx.lit_inv, hy.lit_inv]
    exact run_equalIn_bool' w D t _ _ hu
   ·cases h
  ·rename_i k a k' c
   split at h
   ·rename_i k2 hu
    split at h
    ·rename_i hk
     simp at h; subst h; subst hk
     rw [hx.lit_inv, hy.lit_inv, run_equalIn_int w D t _ _ _ _ hu]
     congr 1
    ·cases h
   ·cases h
  ·rename_i a c
   split at h
   ·rename_i hu
    simp at h; subst h
    rw [hx.lit_inv, hy.lit_inv, run_equalIn_string w D t _ _ hu, strEq_toList]
   ·cases h
  ·rename_i xs ys
   split at h
   ·rename_i fs hu
    split at h
    ·rename_i hst
     obtain ⟨us, rfl, hxs⟩ := hx.agg_inv
     obtain ⟨vs, rfl, hys⟩ := hy.agg_inv
     have hfo : P.fieldsOf t = fs := by simp [Program.fieldsOf, hu]
     rw [run_equalIn_struct w D t us vs (by rw [hfo]; exact hu) hst, hfo]
     generalize fs.toList = l at h
     clear hu hfo hst
     induction l with
     | nil => simp [aEqs] at h; subst h; simp [Op.eqFields]
     | cons f l ihl =>
      simp only [aEqs] at h
      simp only [Op.eqFields]
      by_cases hn : f.name = "_"
      ·rw [if_pos hn] at h
       simp only [hn, ne_eq, not_true_eq_false, if_false]
       exact ihl h
      ·rw [if_neg hn] at h
       simp only [hn, ne_eq, not_false_eq_true, if_true]
       split at h
       ·rename_i n hs ha
        split at h
        ·obtain ⟨u1, hu1, r1⟩ := part_agg (P := P) (o := f.offset) ha hs hxs
         obtain ⟨v1, hv1, r2⟩ := part_agg (P := P) (o := f.offset) ha hs hys
         simp only [Sem.run_bind, hu1, hv1, Result.andThen_ok]
         cases he : aEq P d f.type (.agg ((xs.drop f.offset).take n)) (.agg ((ys.drop f.offset).take n)) with
         | none => rw [he] at h; cases h
         | some c =>
          rw [ih _ _ _ _ _ _ he r1 r2 D (by omega)]
          rw [he] at h
          cases c
          ·simp at h; subst h; simp
          ·simp only [Result.andThen_ok, Bool.not_true, Bool.false_eq_true, if_false]
           exact ihl h
        ·cases h
       ·rename_i n hs ha
        split at h
        ·rename_i x1 y1 hx1 hy1
         obtain ⟨u1, hu1, r1⟩ := part_one (P := P) ha hx1 hxs
         obtain ⟨v1, hv1, r2⟩ := part_one (P := P) ha hy1 hys
         simp only [Sem.run_bind, hu1, hv1, Result.andThen_ok]
         cases he : aEq P d f.type x1 y1 with
         | none => rw [he] at h; cases h
         | some c =>
          rw [ih _ _ _ _ _ _ he r1 r2 D (by omega)]
          rw [he] at h
          cases c
          ·simp at h; subst h; simp
          ·simp only [Result.andThen_ok, Bool.not_true, Bool.false_eq_true, if_false]
           exact ihl h
        ·cases h
       ·cases h
    ·cases h
   ·cases h
  ·cases h
end Go.Proofs.YtnoahchdmkpleaaGreat.VA

/-! Va3 -/
namespace Go.Proofs.YtnoahchdmkpleaaGreat.VA
open Go Go.RowKit

theorem addr_add (b o k : Nat) : (⟨b, o, none⟩ : Addr).add k = ⟨b, o + k, none⟩ := by
 unfold Addr.add
 split
 ·rename_i h; subst h; rfl
 ·rfl

/-! ### filling aggregates -/
def aFill (place : Nat → Option (Nat × Nat)) (cells : List AV) : List (Nat × AV) → Option (List AV)
 | [] => some cells
 | (i, v) :: rest =>
  match place i with
  | none => none
  | some (off, size) =>
   if v.cells.length = size ∧ off + size ≤ cells.length ∧ v.cells.all AV.one = true then aFill place (cells.take off ++ (v.cells ++ cells.drop (off + size))) rest else none
theorem foldl_set (off : Nat) : ∀ (l : List Value) (k : Nat) (cs : Array Value), off + k + l.length ≤ cs.size →
  ((l.zipIdx k).foldl (fun cs (x : Value × Nat) => cs.setIfInBounds (off + x.2) x.1) cs).toList = cs.toList.take (off + k) ++ (l ++ cs.toList.drop (off + k + l.length))
 | [], k, cs, h => by simp
 | v :: l, k, cs, h => by
  simp only [List.zipIdx_cons, List.foldl_cons]
  have hl : off + k + 1 + l.length ≤ cs.size := by simp at h; omega
  have ih := foldl_set off l (k + 1) (cs.setIfInBounds (off + k) v) (by simp; omega)
  rw [ih]
  have hlt : off + k < cs.toList.length := by simp; omega
  simp only [Array.toList_setIfInBounds]
  rw [← Nat.add_assoc, List.take_succ_eq_append_getElem (by simpa using hlt)]
  simp only [List.getElem_set_self, List.take_set_of_le (Nat.le_refl _), List.append_assoc, List.cons_append, List.nil_append]
  congr 2
  rw [List.drop_set_of_lt (by omega)]
  simp only [List.length_cons]
  congr 2
  omega
def Parts (g : Gh) (w : World) (ps : List (Nat × AV)) (qs : List (Nat × Value)) : Prop := ps.map (·.1) = qs.map (·.1) ∧ RelL g w (ps.map (·.2)) (qs.map (·.2))
theorem aFill_sound {g : Gh} {w : World} {place : Nat → Option (Nat × Nat)} : ∀ (ps : List (Nat × AV)) (qs : List (Nat × Value)) (cells res : List AV) (cs : Array Value),
  aFill place cells ps = some res → Parts g w ps qs → RelL g w cells cs.toList → ∃ cs', Instr.fill place cs qs = some cs' ∧ RelL g w res cs'.toList ∧ cs'.size = cs.size := by
 intro ps
 induction ps with
 | nil =>
  intro qs cells res cs h hp hc
  cases qs with
  | nil => simp [aFill] at h; subst h; exact ⟨cs, rfl, hc, rfl⟩
  | cons q qs => simp [Parts] at hp
 | cons p ps ih =>
  intro qs cells res cs h hp hc
  obtain ⟨i, v⟩ := p
  cases qs with
  | nil => simp [Parts] at hp
  | cons q qs =>
   obtain ⟨i', u⟩ := q
   obtain ⟨h1, h2⟩ := hp
   simp only [List.map_cons, List.cons.injEq] at h1
   obtain ⟨rfl, h1⟩ := h1
   simp only [List.map_cons] at h2
   simp only [aFill] at h
   cases hpl : place i with
   | none => simp [hpl] at h
   | some os =>
    obtain ⟨off, size⟩ := os
    simp only [hpl] at h
    split at h
    ·rename_i hc1
     obtain ⟨hs, hle, hone⟩ := hc1
     have hv : RelL g w v.cells u.cells.toList := h2.head.cells hone
     have hsz : u.cells.size = size := by have := hv.1; simp at this; omega
     have hcs : cells.length = cs.size := by have := hc.1; simpa using this
     have hfold := foldl_set off u.cells.toList 0 cs (by simp; omega)
     simp only [Nat.add_zero, Array.length_toList, hsz] at hfold
     have hfold' : (u.cells.zipIdx.foldl (fun cs (x : Value × Nat) => cs.setIfInBounds (off + x.2) x.1) cs).toList = cs.toList.take off ++ (u.cells.toList ++ cs.toList.drop (off + size)) := by
      rw [← hfold, ← Array.foldl_toList, Array.toList_zipIdx]
     have hrel : RelL g w (cells.take off ++ (v.cells ++ cells.drop (off + size))) (u.cells.zipIdx.foldl (fun cs (x : Value × Nat) => cs.setIfInBounds (off + x.2) x.1) cs).toList := by
      rw [hfold']
      exact (hc.take off).append (hv.append (hc.drop (off + size)))
     obtain ⟨cs', hf, hr, hz⟩ := ih qs _ res _ h ⟨h1, h2.tail⟩ hrel
     refine ⟨cs', ?_, hr, ?_⟩
     ·simp only [Instr.fill, hpl]
      rw [if_neg (by simp; omega)]
      exact hf
     ·rw [hz]
      have := congrArg List.length hfold'
      rw [Array.length_toList, List.length_append, List.length_append, List.length_take, List.length_drop, Array.length_toList, Array.length_toList] at this
      rw [this]
      omega
    ·cases h
def tPlaces (P : Program) : List Field → Option (List (Nat × Nat))
 | [] => some []
 | f :: fs =>
  match tSize P f.type, tPlaces P fs with
  | some n, some r => some ((f.offset, n) :: r)
  | _, _ => none
theorem tPlaces_run {P : Program} (w : World) : ∀ (fs : List Field) (r : List (Nat × Nat)), tPlaces P fs = some r →
  (fs.mapM (fun f => do pure (f.offset, ← sizeOf f.type)) : Sem (List (Nat × Nat))).run P w = .ok r w
 | [], r, h => by simp [tPlaces] at h; subst h; rfl
 | f :: fs, r, h => by
  simp only [tPlaces] at h
  split at h
  ·rename_i n r' hn hr
   simp at h; subst h
   have ih := tPlaces_run w fs r' hr
   simp only [List.mapM_cons, Sem.run_bind, tSize_run hn, Result.andThen_ok, Sem.run_pure, ih]
  ·cases h

/-! ### numbers -/
def aNat : AV → Option Nat
 | .lit (.int _ i) => if 0 ≤ i then some i.toNat else none
 | _ => none
theorem aNat_spec {g : Gh} {w : World} {x : AV} {v : Value} {n : Nat} (h : aNat x = some n) (r : Rel g w x v) : ∃ k i, v = .int k i ∧ 0 ≤ i ∧ i.toNat = n := by
 unfold aNat at h
 split at h
 ·split at h
  ·simp at h
   exact ⟨_, _, r.lit_inv, by assumption, h⟩
  ·cases h
 ·cases h
theorem Rel.sl_inv {g : Gh} {w : World} {o : Own} {es : List (List AV)} {v : Value} (h : Rel g w (.sl o es) v) :
  ∃ a cap, v = .slice a es.length cap ∧ es.length ≤ cap ∧ (∃ sz, ∀ x, x ∈ es → x.length = sz) ∧
   (∀ i e, es[i]? = some e → ∃ b off sz, a = some ⟨b, off, none⟩ ∧ Rel g w (.ep e) (.pointer (some ⟨b, off + i * sz, none⟩)) ∧ e.length = sz) := by
 cases h with
 | nil => exact ⟨none, 0, rfl, Nat.le_refl _, ⟨0, by simp⟩, by simp⟩
 | sl o es a n cap sz f ho hn hcap hex hown hsz hone ha hr =>
  subst hn
  refine ⟨a, cap, rfl, hcap, ⟨sz, hsz⟩, fun i e he => ?_⟩
  have hi : i < es.length := (List.getElem?_eq_some_iff.1 he).1
  obtain ⟨b, off, h1, h2, h3⟩ := ha (by omega)
  have hel : e.length = sz := hsz e (List.mem_of_getElem? he)
  have hb : i * sz + sz ≤ es.length * sz := by
   have := Nat.mul_le_mul_right sz (show i + 1 ≤ es.length by omega)
   rw [Nat.add_mul] at this
   omega
  refine ⟨b, off, sz, h1, .ep e b (off + i * sz) (fun j => f (i * sz + j)) ?_ ?_ ?_, hel⟩
  ·rw [hel]; omega
  ·intro k hk
   have := h3 (i * sz + k) (by omega)
   rw [← Nat.add_assoc] at this
   exact this
  ·intro j x hx
   exact hr i e j x he hx

theorem Rel.ar_inv {g : Gh} {w : World} {r lo n sz : Nat} {v : Value} (h : Rel g w (.ar r lo n sz) v) :
  ∃ b cap m off c e, v = .slice (some ⟨b, off, none⟩) n c ∧ g.box r = some b ∧ g.own r = some (b, m, cap, e, sz) ∧ n ≤ c ∧ lo + c = cap ∧ (c ≠ 0 → off = lo * sz) := by
 cases h with
 | ar r lo n sz b cap m off c e h ho hn hc hoff => exact ⟨b, cap, m, off, c, e, rfl, h, ho, hn, hc, hoff⟩

/-! ### operations that leave memory alone -/
def optNat (d : Nat) : Option AV → Option Nat
 | some x => aNat x
 | none => some d
inductive OptRel (g : Gh) (w : World) : Option AV → Option Value → Prop
 | none : OptRel g w none none
 | some (x : AV) (v : Value) (h : Rel g w x v) : OptRel g w (some x) (some v)
theorem optNat_spec {g : Gh} {w : World} {d n : Nat} {x : Option AV} {v : Option Value} (h : optNat d x = some n) (r : OptRel g w x v) :
  (v = none ∧ n = d) ∨ ∃ k i, v = some (.int k i) ∧ 0 ≤ i ∧ i.toNat = n := by
 cases r with
 | none => simp [optNat] at h; exact .inl ⟨rfl, h.symm⟩
 | some x v r => obtain ⟨k, i, rfl, h0, h1⟩ := aNat_spec h r; exact .inr ⟨k, i, rfl, h0, h1⟩
def aSlice (P : Program) (t : TypeId) (x : AV) (lo hi : Option AV) : Option AV :=
 match x with
 | .lit (.string s) =>
  match P.underlying t with
  | some .string =>
   match optNat s.size hi, optNat 0 lo with
   | some h, some l => if l ≤ h ∧ h ≤ s.size then some (.lit (.string (s.extract l h))) else none
   | _, _ => none
  | _ => none
 | .sl _ es =>
  match tElem P t with
  | some (_, n, _) =>
   match optNat es.length hi, optNat 0 lo with
   | some h, some l =>
    if l ≤ h ∧ h ≤ es.length then
     if l = h then some (.sl .sh [])
     else
      match es[l]? with
      | some e => if e.length = n then some (.sl .sh ((es.drop l).take (h - l))) else none
      | none => none
    else none
   | _, _ => none
  | none => none
 | .ar r a m sz =>
  match tElem P t with
  | some (_, n, _) =>
   match optNat m hi, optNat 0 lo with
   | some h, some l => if l ≤ h ∧ h ≤ m ∧ sz = n then some (.ar r (a + l) (h - l) sz) else none
   | _, _ => none
  | none => none
 | _ => none
/-- A slice with a capacity of its own: nobody looks at it, or it is empty. -/
def aSlice3 (P : Program) (t : TypeId) (x : AV) (lo hi mx : Option AV) : Option AV :=
 match x with
 | .ar _ _ m _ =>
  match tElem P t with
  | some _ =>
   match optNat 0 lo, optNat m hi, optNat m mx with
   | some l, some h, some k => if l ≤ h ∧ h ≤ k ∧ k ≤ m ∧ hi.isSome = true ∧ mx.isSome = true then some .bad else none
   | _, _, _ => none
  | none => none
 | _ => none
def aBin (P : Program) (op : BinOp) (t : TypeId) (x y : AV) : Option AV :=
 match x, y with
 | .lit (.int k a), .lit (.int k' b) => if k = k' then aInt op k a b else none
 | .lit (.string a), .lit (.string b) => aStr op a b
 | .lit (.bool a), .lit (.bool b) =>
  match op, P.underlying t with
  | .eql, some .bool => some (.lit (.bool (a == b)))
  | .neq, some .bool => some (.lit (.bool (!(a == b))))
  | _, _ => none
 | .agg xs, .agg ys =>
  if P.eqGuardType P.depth t = false then
   match op, aEq P 8 t (.agg xs) (.agg ys) with
   | .eql, some b => some (.lit (.bool b))
   | .neq, some b => some (.lit (.bool (!b)))
   | _, _ => none
  else none
 | .sl o es, .sl .nil [] =>
  match o, es, op, tElem P t with
  | .nil, _, .eql, some _ => some (.lit (.bool true))
  | .nil, _, .neq, some _ => some (.lit (.bool false))
  | _, _ :: _, .eql, some _ => some (.lit (.bool false))
  | _, _ :: _, .neq, some _ => some (.lit (.bool true))
  | _, _, _, _ => none
 | _, _ => none
def aPure (P : Program) (ρ : Operand → AV) : Op → Option AV
 | .move x | .assign x => some (ρ x)
 | .pick c a b =>
  match ρ c with
  | .lit (.bool true) => some (ρ a)
  | .lit (.bool false) => some (ρ b)
  | _ => none
 | .build t parts =>
  match P.underlying t with
  | some (.struct fs) =>
   match tPlaces P fs.toList, tZero P t with
   | some pl, some z => (aFill (fun i => pl[i]?) z (parts.toList.map fun p => (p.1, ρ p.2))).map .agg
   | _, _ => none
  | _ => none
 | .nilCheck x =>
  match ρ x with
  | .ptr r o => some (.ptr r o)
  | .ep cs => some (.ep cs)
  | .fn f cs => some (.fn f cs)
  | .bf f cs => some (.bf f cs)
  | _ => none
 | .binOp op t x y _ => aBin P op t (ρ x) (ρ y)
 | .unOp op _ x =>
  match op, ρ x with
  | .not, .lit (.bool b) => some (.lit (.bool (!b)))
  | .neg, .lit (.int k n) => some (.lit (.int k (k.wrap (0 - n))))
  | _, _ => none
 | .convert src dst x =>
  match P.underlying src, P.underlying dst, ρ x with
  | some _, some (.int k), .lit (.int _ n) => some (.lit (.int k (k.wrap n)))
  | some .string, some .string, .lit (.string s) => some (.lit (.string s))
  | _, _, _ => none
 | .makeInterface t x => if P.concrete t = true then some (.ifc t (ρ x)) else none
 | .makeFunc (.func f) first caps => if first = #[] then some (.fn f (caps.toList.map ρ)) else if caps = #[] then some (.bf f (first.toList.map ρ)) else none
 | .slice t x lo hi none => aSlice P t (ρ x) (lo.map ρ) (hi.map ρ)
 | .slice t x lo hi (some mx) => aSlice3 P t (ρ x) (lo.map ρ) (hi.map ρ) (some (ρ mx))
 | .fieldAddr t x k =>
  match tField P t k, ρ x with
  | some (o, n, _), .ptr r off => if n = 0 then none else some (.ptr r (off + o))
  | some (o, n, _), .ep cs => if n = 0 then none else if o ≤ cs.length then some (.ep (cs.drop o)) else none
  | _, _ => none
 | .field t x k =>
  match tField P t k, ρ x with
  | some (o, n, true), .agg cs => if o + n ≤ cs.length then some (.agg ((cs.drop o).take n)) else none
  | some (o, _, false), .agg cs => cs[o]?
  | _, _ => none
 | .indexAddr t x i =>
  match tElem P t, ρ x, aNat (ρ i) with
  | some (_, n, _), .sl _ es, some i =>
   match es[i]? with
   | some e => if e.length = n then some (.ep e) else none
   | none => none
  | some (_, n, _), .ar r a m sz, some i => if i < m ∧ sz = n then some (.ptr r ((a + i) * sz)) else none
  | _, _, _ => none
 | .index t x i =>
  match P.underlying t, ρ x, aNat (ρ i) with
  | some .string, .lit (.string s), some i =>
   if h : i < s.size then some (.lit (.int .u8 (s[i]'h).toNat)) else none
  | _, _, _ => none
 | .extract x i =>
  match ρ x with
  | .tup vs => vs[i]?
  | _ => none
 | .call { callee := .builtin .len, args, argTypes } =>
  match args.toList, argTypes.toList with
  | [x], t :: _ =>
   match ρ x with
   | .lit (.string s) => match P.underlying t with | some .string => some (.lit (.int .i64 s.size)) | _ => none
   | .sl _ es => match tElem P t with | some _ => some (.lit (.int .i64 es.length)) | none => none
   | .ar _ _ n _ => match tElem P t with | some _ => some (.lit (.int .i64 n)) | none => none
   | _ => none
  | _, _ => none
 | .call { callee := .builtin .min, args, .. } =>
  match args.toList with
  | [x, y] =>
   match ρ x, ρ y with
   | .lit (.int k a), .lit (.int _ b) => some (.lit (.int k (if b < a then b else a)))
   | _, _ => none
  | _ => none
 | .call { callee := .builtin .max, args, .. } =>
  match args.toList with
  | [x, y] =>
   match ρ x, ρ y with
   | .lit (.int k a), .lit (.int _ b) => some (.lit (.int k (if b > a then b else a)))
   | _, _ => none
  | [x, y, z] =>
   match ρ x, ρ y, ρ z with
   | .lit (.int k a), .lit (.int _ b), .lit (.int _ c) => some (.lit (.int k (if c > (if b > a then b else a) then c else (if b > a then b else a))))
   | _, _, _ => none
  | _ => none
 | _ => none

theorem aSlice_sound {P : Program} {g : Gh} {w : World} {t : TypeId} {x z : AV} {lo hi : Option AV} {v : Value} {lo' hi' : Option Value} (h : aSlice P t x lo hi = some z)
  (hx : Rel g w x v) (hl : OptRel g w lo lo') (hh : OptRel g w hi hi') : ∃ u, (Instr.sliceAt t v lo' hi' none).run P w = .ok u w ∧ Rel g w z u := by
 unfold aSlice at h
 split at h
 ·rename_i s
  split at h
  ·rename_i hu
   rw [hx.lit_inv]
   split at h
   ·rename_i h1 l1 hh1 hl1
    split at h
    ·rename_i hc
     simp at h; subst h
     refine ⟨.string (s.extract l1 h1), ?_, .lit _⟩
     rcases optNat_spec hh1 hh with ⟨rfl, rfl⟩ | ⟨k, i, rfl, h0, rfl⟩ <;> rcases optNat_spec hl1 hl with ⟨rfl, rfl⟩ | ⟨k', i', rfl, h0', rfl⟩
     ·simp [Instr.sliceAt, Instr.slice, Instr.sliceBounds, run_underlying hu]
     ·simp [Instr.sliceAt, Instr.slice, Instr.sliceBounds, Instr.sliceBound, asIntOf, run_underlying hu, h0', show i' ≤ (s.size : Int) by omega]
     ·simp [Instr.sliceAt, Instr.slice, Instr.sliceBounds, Instr.sliceBound, asIntOf, run_underlying hu, h0, show i ≤ (s.size : Int) by omega]
     ·simp [Instr.sliceAt, Instr.slice, Instr.sliceBounds, Instr.sliceBound, asIntOf, run_underlying hu, h0, h0', show i ≤ (s.size : Int) by omega]
      intro hbad
      omega
    ·cases h
   ·cases h
  ·cases h
 ·rename_i o es
  split at h
  ·rename_i e0 n bb het
   obtain ⟨hu, i0, hi0, hs0, _⟩ := tElem_spec het
   have e3 : (sizeOf e0).run P w = .ok n w := by simp [sizeOf, typeInfo, hi0, hs0]
   split at h
   ·rename_i h1 l1 hh1 hl1
    split at h
    ·rename_i hc
     have key : ∀ a cap, v = .slice a es.length cap → es.length ≤ cap → (Instr.sliceAt t v lo' hi' none).run P w = .ok (.slice (if cap = l1 then a else a.map (·.add (l1 * n))) (h1 - l1) (cap - l1)) w := by
      intro a cap hv hcap
      subst hv
      rcases optNat_spec hh1 hh with ⟨rfl, rfl⟩ | ⟨k, i, rfl, h0, rfl⟩ <;> rcases optNat_spec hl1 hl with ⟨rfl, rfl⟩ | ⟨k', i', rfl, h0', rfl⟩
      ·simp [Instr.sliceAt, Instr.slice, Instr.sliceBounds, run_underlying hu, e3]
      ·simp [Instr.sliceAt, Instr.slice, Instr.sliceBounds, Instr.sliceBound, asIntOf, run_underlying hu, e3, h0', show i' ≤ (es.length : Int) by omega]
      ·simp [Instr.sliceAt, Instr.slice, Instr.sliceBounds, Instr.sliceBound, asIntOf, run_underlying hu, e3, h0, show i ≤ (cap : Int) by omega]
      ·simp [Instr.sliceAt, Instr.slice, Instr.sliceBounds, Instr.sliceBound, asIntOf, run_underlying hu, e3, h0, h0', show i ≤ (cap : Int) by omega]
       intro hbad
       omega
     obtain ⟨a, cap, hv, hcap, _⟩ := hx.sl_inv
     refine ⟨_, key a cap hv hcap, ?_⟩
     split at h
     ·rename_i hlh
      simp at h; subst h
      rw [show h1 - l1 = 0 by omega]
      exact .sl .sh [] _ 0 (cap - l1) 0 (fun _ => undef) (by simp) rfl (Nat.zero_le _) (by simp) (by simp) (by simp) (by simp) (fun h => absurd rfl h) (by simp)
     ·rename_i hlh
      split at h
      ·rename_i el hel
       split at h
       ·rename_i hn
        simp at h; subst h
        cases hx with
        | nil => simp at hel
        | sl o es a' n' cap' sz f ho hn' hcap' hex hown hsz hone ha hr =>
         subst hn'
         simp only [Value.slice.injEq] at hv
         obtain ⟨rfl, _, rfl⟩ := hv
         have hszn : sz = n := by rw [← hn]; exact (hsz el (List.mem_of_getElem? hel)).symm
         subst hszn
         have hlen : ((es.drop l1).take (h1 - l1)).length = h1 - l1 := by simp; omega
         obtain ⟨b, off, rfl, hvis, hcell⟩ := ha (by omega)
         have hb := Nat.mul_le_mul_right sz (show l1 + (h1 - l1) ≤ es.length by omega)
         rw [Nat.add_mul] at hb
         refine .sl .sh _ _ (h1 - l1) (cap' - l1) sz (fun k => f (l1 * sz + k)) (by simp) hlen (by omega) (by simp) (by simp) ?_ (fun k hk => hone _ (by omega)) ?_ ?_
         ·intro x hx
          exact hsz x (List.mem_of_mem_drop (List.mem_of_mem_take hx))
         ·intro _
          refine ⟨b, off + l1 * sz, ?_, by omega, ?_⟩
          ·rw [if_neg (by omega)]
           simp [addr_add]
          ·intro k hk
           have h3 := hcell (l1 * sz + k) (by omega)
           rw [← Nat.add_assoc] at h3
           exact h3
         ·intro i e j x he hx
          rw [List.getElem?_take] at he
          split at he
          ·rw [List.getElem?_drop] at he
           have := hr _ e j x he hx
           rw [Nat.add_mul, Nat.add_assoc] at this
           exact this
          ·cases he
       ·cases h
      ·cases h
    ·cases h
   ·cases h
  ·cases h
 ·rename_i r a0 m sz
  split at h
  ·rename_i e0 n bb het
   obtain ⟨hu, i0, hi0, hs0, _⟩ := tElem_spec het
   have e3 : (sizeOf e0).run P w = .ok n w := by simp [sizeOf, typeInfo, hi0, hs0]
   split at h
   ·rename_i h1 l1 hh1 hl1
    split at h
    ·rename_i hc
     obtain ⟨hlh, hhm, rfl⟩ := hc
     simp only [Option.some.injEq] at h
     subst h
     obtain ⟨b, cap, m0, off, c, e1, rfl, hbx, hown, hmc, hcc, hoff⟩ := hx.ar_inv
     refine ⟨.slice (if c = l1 then some ⟨b, off, none⟩ else (some (⟨b, off, none⟩ : Addr)).map (·.add (l1 * sz))) (h1 - l1) (c - l1), ?_, ?_⟩
     ·rcases optNat_spec hh1 hh with ⟨rfl, rfl⟩ | ⟨k, i, rfl, h0, rfl⟩ <;> rcases optNat_spec hl1 hl with ⟨rfl, rfl⟩ | ⟨k', i', rfl, h0', rfl⟩
      ·simp [Instr.sliceAt, Instr.slice, Instr.sliceBounds, run_underlying hu, e3]
      ·simp [Instr.sliceAt, Instr.slice, Instr.sliceBounds, Instr.sliceBound, asIntOf, run_underlying hu, e3, h0', show i' ≤ (h1 : Int) by omega]
      ·simp [Instr.sliceAt, Instr.slice, Instr.sliceBounds, Instr.sliceBound, asIntOf, run_underlying hu, e3, h0, show i ≤ (c : Int) by omega]
      ·simp [Instr.sliceAt, Instr.slice, Instr.sliceBounds, Instr.sliceBound, asIntOf, run_underlying hu, e3, h0, h0', show i ≤ (c : Int) by omega]
       intro hbad
       omega
     ·by_cases hcl : c = l1
      ·rw [if_pos hcl]
       exact .ar r (a0 + l1) (h1 - l1) sz b cap m0 off (c - l1) e1 hbx hown (by omega) (by omega) (by omega)
      ·rw [if_neg hcl]
       simp only [Option.map_some, addr_add]
       exact .ar r (a0 + l1) (h1 - l1) sz b cap m0 _ (c - l1) e1 hbx hown (by omega) (by omega) (fun _ => by rw [hoff (by omega), Nat.add_mul])
    ·cases h
   ·cases h
  ·cases h
 ·cases h
theorem aSlice3_sound {P : Program} {g : Gh} {w : World} {t : TypeId} {x z : AV} {lo hi mx : Option AV} {v : Value} {lo' hi' mx' : Option Value} (h : aSlice3 P t x lo hi mx = some z)
  (hx : Rel g w x v) (hl : OptRel g w lo lo') (hh : OptRel g w hi hi') (hm : OptRel g w mx mx') : ∃ u, (Instr.sliceAt t v lo' hi' mx').run P w = .ok u w ∧ Rel g w z u := by
 unfold aSlice3 at h
 split at h
 ·rename_i r a0 m sz
  split at h
  ·rename_i q het
   obtain ⟨e0, n, bb⟩ := q
   obtain ⟨hu, i0, hi0, hs0, _⟩ := tElem_spec het
   have e3 : (sizeOf e0).run P w = .ok n w := by simp [sizeOf, typeInfo, hi0, hs0]
   split at h
   ·rename_i l1 h1 k1 hl1 hh1 hk1
    split at h
    ·rename_i hc
     obtain ⟨hlh, hhk, hkm, hhs, hms⟩ := hc
     simp only [Option.some.injEq] at h
     subst h
     obtain ⟨b, cap, m0, off, c, e1, rfl, hbx, hown, hmc, hcc, hoff⟩ := hx.ar_inv
     rcases optNat_spec hh1 hh with ⟨rfl, rfl⟩ | ⟨k, i, rfl, h0, rfl⟩
     ·cases hh; cases hhs
     ·rcases optNat_spec hk1 hm with ⟨rfl, rfl⟩ | ⟨k2, i2, rfl, h02, rfl⟩
      ·cases hm; cases hms
      ·rcases optNat_spec hl1 hl with ⟨rfl, rfl⟩ | ⟨k', i', rfl, h0', rfl⟩
       ·exact ⟨_, by simp [Instr.sliceAt, Instr.slice, Instr.sliceBounds, Instr.sliceBound, asIntOf, run_underlying hu, e3, h0, h02, show i2 ≤ (c : Int) by omega, show i ≤ max i2 0 by omega]; rfl, .bad _⟩
       ·exact ⟨_, by simp [Instr.sliceAt, Instr.slice, Instr.sliceBounds, Instr.sliceBound, asIntOf, run_underlying hu, e3, h0, h02, h0', show i2 ≤ (c : Int) by omega, show i ≤ max i2 0 by omega, show i' ≤ max i 0 by omega]; rfl, .bad _⟩
    ·cases h
   ·cases h
  ·cases h
 ·cases h
theorem aIntCmp_sound {P : Program} {w : World} {op : BinOp} {a b : Int} {r : Bool} (h : aIntCmp op a b = some r) : (Op.intCmp op a b).run P w = .ok (.bool r) w := by
 cases op <;> simp only [aIntCmp, Option.some.injEq, reduceCtorEq] at h <;> subst h <;> rfl
theorem aInt_sound {P : Program} {g : Gh} {w : World} {op : BinOp} {k : IntKind} {t : TypeId} {a b : Int} {z : AV} (h : aInt op k a b = some z) :
  ∃ u, (binOp op t (.int k a) (.int k b)).run P w = .ok u w ∧ Rel g w z u := by
 unfold aInt at h
 split at h
 ·simp at h; subst h; exact ⟨_, by simp [binOp, Op.intArith], .lit _⟩
 ·simp at h; subst h; exact ⟨_, by simp [binOp, Op.intArith], .lit _⟩
 ·simp at h; subst h; exact ⟨_, by simp [binOp, Op.intArith], .lit _⟩
 ·split at h
  ·cases h
  ·simp at h; subst h; exact ⟨_, by simp [binOp, Op.intDiv, *], .lit _⟩
 ·split at h
  ·cases h
  ·simp at h; subst h; exact ⟨_, by simp [binOp, Op.intDiv, *], .lit _⟩
 ·split at h
  ·rename_i hb
   subst hb
   simp at h; subst h
   exact ⟨_, by cases k <;> simp [binOp, Op.shift, IntKind.bits], .lit _⟩
  ·cases h
 ·cases hc : aIntCmp op a b with
  | none => simp [hc] at h
  | some r =>
   simp [hc] at h; subst h
   refine ⟨.bool r, ?_, .lit _⟩
   rw [← aIntCmp_sound (P := P) (w := w) hc]
   cases op <;> first | (simp [aIntCmp] at hc; done) | simp [binOp]
theorem aStr_sound {P : Program} {g : Gh} {w : World} {op : BinOp} {t : TypeId} {a b : ByteArray} {z : AV} (h : aStr op a b = some z) :
  ∃ u, (binOp op t (.string a) (.string b)).run P w = .ok u w ∧ Rel g w z u := by
 have hmax : IntKind.i64.max = 9223372036854775807 := by decide +kernel
 cases op <;> simp only [aStr, reduceCtorEq] at h
 case add =>
  split at h
  ·simp at h; subst h
   refine ⟨.string (a ++ b), ?_, .lit _⟩
   simp only [binOp, Op.stringOp, hmax]
   rw [if_neg (by omega)]
   rfl
  ·cases h
 all_goals
  simp only [Option.some.injEq] at h; subst h
  refine ⟨_, ?_, .lit _⟩
  simp only [binOp, Op.stringOp, strEq_toList]
  try simp only [ByteArray.toList_eq]
  rfl
theorem run_equal_nil {P : Program} {w : World} {t e : TypeId} {a : Option Addr} {n c : Nat} (hu : P.underlying t = some (.slice e)) :
  (Op.equal t (.slice a n c) (.slice none 0 0)).run P w = .ok a.isNone w := by
 have key : ∀ d, (Op.equalIn (d + 1) t (.slice a n c) (.slice none 0 0)).run P w = .ok a.isNone w := by
  intro d
  cases a <;> simp only [Op.equalIn, Sem.run_bind, run_underlying hu, Result.andThen_ok, Sem.run_pure, Option.isNone]
 exact key 9999
theorem aBin_sound {P : Program} {g : Gh} {w : World} {op : BinOp} {t : TypeId} {x y z : AV} {u v : Value} (h : aBin P op t x y = some z) (hx : Rel g w x u) (hy : Rel g w y v) (ox oy : Operand) :
  ∃ r, ((do eqGuard op t ox oy u v; binOp op t u v) : Sem Value).run P w = .ok r w ∧ Rel g w z r := by
 unfold aBin at h
 split at h
 ·rename_i k a k' b
  split at h
  ·rename_i hk
   subst hk
   rw [hx.lit_inv, hy.lit_inv]
   obtain ⟨r, h1, h2⟩ := aInt_sound (P := P) (g := g) (w := w) (t := t) h
   refine ⟨r, ?_, h2⟩
   rw [← h1]
   cases op <;> simp [eqGuard]
  ·cases h
 ·rw [hx.lit_inv, hy.lit_inv]
  obtain ⟨r, h1, h2⟩ := aStr_sound (P := P) (g := g) (w := w) (t := t) h
  refine ⟨r, ?_, h2⟩
  rw [← h1]
  cases op <;> simp [eqGuard]
 ·rename_i a b
  rw [hx.lit_inv, hy.lit_inv]
  split at h
  ·rename_i hu
   simp at h; subst h
   refine ⟨_, ?_, .lit _⟩
   simp [eqGuard, binOp, Op.equal, Op.maxDepth, run_equalIn_bool' w _ t a b hu]
  ·rename_i hu
   simp at h; subst h
   refine ⟨_, ?_, .lit _⟩
   simp [eqGuard, binOp, Op.equal, Op.maxDepth, run_equalIn_bool' w _ t a b hu]
  ·cases h
 ·rename_i xs ys
  split at h
  ·rename_i hg
   obtain ⟨us, rfl, hxs⟩ := hx.agg_inv
   obtain ⟨vs, rfl, hys⟩ := hy.agg_inv
   split at h
   ·rename_i b hb
    simp at h; subst h
    have he := aEq_sound 8 t _ _ _ _ b hb (Rel.mk_agg hxs) (Rel.mk_agg hys) 10000 (by omega)
    refine ⟨_, ?_, .lit _⟩
    rw [Sem.run_bind, run_eqGuard_agg w _ t ox oy us vs hg]
    simp only [Result.andThen_ok]
    rw [run_eql_struct, he]
    rfl
   ·rename_i b hb
    simp at h; subst h
    have he := aEq_sound 8 t _ _ _ _ b hb (Rel.mk_agg hxs) (Rel.mk_agg hys) 10000 (by omega)
    refine ⟨_, ?_, .lit _⟩
    rw [Sem.run_bind, run_eqGuard_agg w _ t ox oy us vs hg]
    simp only [Result.andThen_ok]
    rw [run_neq_struct, he]
    rfl
   ·cases h
  ·cases h
 ·rename_i o es
  have hv : v = .slice none 0 0 := by cases hy with | nil => rfl | sl o es a n cap sz f ho hn => exact absurd rfl ho
  subst hv
  have hne : ∀ (e0 : TypeId × Nat × Nat) (b : Bool), tElem P t = some e0 → (Op.equal t u (.slice none 0 0)).run P w = .ok b w →
    ((do eqGuard .eql t ox oy u (.slice none 0 0); binOp .eql t u (.slice none 0 0)) : Sem Value).run P w = .ok (.bool b) w ∧
    ((do eqGuard .neq t ox oy u (.slice none 0 0); binOp .neq t u (.slice none 0 0)) : Sem Value).run P w = .ok (.bool (!b)) w := by
   intro e0 b he hb
   cases hx <;> simp [eqGuard, binOp, hb]
  split at h
  ·rename_i e0 he
   simp at h; subst h
   obtain ⟨hu, _⟩ := tElem_spec he
   have hu0 : u = .slice none 0 0 := by cases hx with | nil => rfl | sl o es a n cap sz f ho hn => exact absurd rfl ho
   subst hu0
   exact ⟨.bool true, (hne _ true he (run_equal_nil hu)).1, .lit _⟩
  ·rename_i e0 he
   simp at h; subst h
   obtain ⟨hu, _⟩ := tElem_spec he
   have hu0 : u = .slice none 0 0 := by cases hx with | nil => rfl | sl o es a n cap sz f ho hn => exact absurd rfl ho
   subst hu0
   exact ⟨.bool false, (hne _ true he (run_equal_nil hu)).2, .lit _⟩
  ·rename_i e1 l1 e0 hnn he
   simp at h; subst h
   obtain ⟨hu, _⟩ := tElem_spec he
   obtain ⟨a, cap, rfl, _, _, hel⟩ := hx.sl_inv
   obtain ⟨b, off, sz, rfl, _⟩ := hel 0 e1 rfl
   exact ⟨.bool false, (hne _ false he (run_equal_nil hu)).1, .lit _⟩
  ·rename_i e1 l1 e0 hnn he
   simp at h; subst h
   obtain ⟨hu, _⟩ := tElem_spec he
   obtain ⟨a, cap, rfl, _, _, hel⟩ := hx.sl_inv
   obtain ⟨b, off, sz, rfl, _⟩ := hel 0 e1 rfl
   exact ⟨.bool true, (hne _ false he (run_equal_nil hu)).2, .lit _⟩
  ·cases h
 ·cases h
end Go.Proofs.YtnoahchdmkpleaaGreat.VA

/-! Va4 -/
namespace Go.Proofs.YtnoahchdmkpleaaGreat.VA
open Go Go.RowKit

theorem execOp_value {P : Program} {w : World} {s : Sem Value} {u : Value} (h : s.run P w = .ok u w) : ((do pure (.value (← s))) : Sem Next).run P w = .ok (.value u) w := by
 simp [h]
theorem RelL.of_map {g : Gh} {w : World} {ρ : Operand → AV} {ρ' : Operand → Value} (h : ∀ x, Rel g w (ρ x) (ρ' x)) (l : List Operand) : RelL g w (l.map ρ) (l.map ρ') := by
 induction l with
 | nil => exact RelL.nil g w
 | cons x l ih => exact RelL.cons (h x) ih
theorem OptRel.of_map {g : Gh} {w : World} {ρ : Operand → AV} {ρ' : Operand → Value} (h : ∀ x, Rel g w (ρ x) (ρ' x)) (o : Option Operand) : OptRel g w (o.map ρ) (o.map ρ') := by
 cases o with
 | none => exact .none
 | some x => exact .some _ _ (h x)
theorem Rel.tup_inv {g : Gh} {w : World} {cs : List AV} {v : Value} (h : Rel g w (.tup cs) v) : ∃ vs, v = .tuple vs ∧ RelL g w cs vs.toList := by
 cases h with
 | tup cs vs hl hr => exact ⟨vs, rfl, by simpa using hl, fun i x v hx hv => hr i x v hx (by simpa using hv)⟩
set_option maxHeartbeats 1000000 in
theorem aPure_sound {P : Program} {g : Gh} {w : World} {ρ : Operand → AV} {ρ' : Operand → Value} {o : Oper} {z : AV} (h : aPure P ρ o.op = some z) (hρ : ∀ x, Rel g w (ρ x) (ρ' x)) :
  ∃ u, (execOp ρ' o).run P w = .ok (.value u) w ∧ Rel g w z u := by
 obtain ⟨dst, op, type, pos, after, guard⟩ := o
 simp only at h
 unfold aPure at h
 split at h
 -- move
 ·simp only [Option.some.injEq] at h; subst h; exact ⟨_, rfl, hρ _⟩
 -- assign
 ·simp only [Option.some.injEq] at h; subst h; exact ⟨_, rfl, hρ _⟩
 -- pick
 ·rename_i c a b
  split at h
  ·rename_i hc
   simp only [Option.some.injEq] at h; subst h
   have := hρ c
   rw [hc] at this
   exact ⟨_, by simp [execOp, this.lit_inv, asBool], hρ a⟩
  ·rename_i hc
   simp only [Option.some.injEq] at h; subst h
   have := hρ c
   rw [hc] at this
   exact ⟨_, by simp [execOp, this.lit_inv, asBool], hρ b⟩
  ·cases h
 -- build
 ·rename_i t parts
  split at h
  ·rename_i fs hu
   split at h
   ·rename_i pl z0 hpl hz
    cases hf : aFill (fun i => pl[i]?) z0 (parts.toList.map fun p => (p.1, ρ p.2)) with
    | none => simp [hf] at h
    | some res =>
     simp [hf] at h; subst h
     obtain ⟨zv, i, hzr, hi, hiz, hrel⟩ := tZero_run hz g w
     have hparts : Parts g w (parts.toList.map fun p => (p.1, ρ p.2)) ((parts.map fun (i, x) => (i, ρ' x)).toList) := by
      refine ⟨by simp, ?_⟩
      have h1 : (parts.toList.map fun p => (p.1, ρ p.2)).map (·.2) = (parts.toList.map (·.2)).map ρ := by simp [Function.comp_def]
      have h2 : ((parts.map fun (i, x) => (i, ρ' x)).toList).map (·.2) = (parts.toList.map (·.2)).map ρ' := by simp [Function.comp_def]
      rw [h1, h2]
      exact RelL.of_map hρ _
     obtain ⟨cs', hfill, hr, _⟩ := aFill_sound _ _ _ _ _ hf hparts hrel
     refine ⟨.agg cs', ?_, Rel.mk_agg hr⟩
     simp only [execOp]
     refine execOp_value ?_
     have hpr := tPlaces_run (P := P) w fs.toList pl hpl
     simp only [Instr.build, Sem.run_bind, hzr, Result.andThen_ok, run_underlying hu, Array.mapM_eq_mapM_toList, Sem.run_map, hpr]
     have : (fun (i : Nat) => (pl.toArray)[i]?) = fun (i : Nat) => pl[i]? := by funext i; simp
     simp only [this, hfill, Sem.run_pure]
   ·cases h
  ·cases h
 -- nilCheck
 ·rename_i x
  have hx := hρ x
  split at h
  ·rename_i r o hr
   simp only [Option.some.injEq] at h; subst h
   rw [hr] at hx
   refine ⟨ρ' x, ?_, hx⟩
   generalize hv : ρ' x = v at hx
   cases hx with | ptr r off b hb => simp [execOp, hv]
  ·rename_i cs hr
   simp only [Option.some.injEq] at h; subst h
   rw [hr] at hx
   refine ⟨ρ' x, ?_, hx⟩
   generalize hv : ρ' x = v at hx
   cases hx with | ep cs b off f hvv hc hrr => simp [execOp, hv]
  ·rename_i f cs hr
   simp only [Option.some.injEq] at h; subst h
   rw [hr] at hx
   refine ⟨ρ' x, ?_, hx⟩
   generalize hv : ρ' x = v at hx
   cases hx with | fn fid caps vs hl hrr => simp [execOp, hv]
  ·rename_i f cs hr
   simp only [Option.some.injEq] at h; subst h
   rw [hr] at hx
   refine ⟨ρ' x, ?_, hx⟩
   generalize hv : ρ' x = v at hx
   cases hx with | bf fid caps vs hl hrr => simp [execOp, hv]
  ·cases h
 -- binOp
 ·rename_i op t x y yt
  obtain ⟨r, h1, h2⟩ := aBin_sound h (hρ x) (hρ y) x y
  exact ⟨r, execOp_value h1, h2⟩
 -- unOp
 ·rename_i op t x
  have hx := hρ x
  split at h
  ·rename_i b hb
   simp only [Option.some.injEq] at h; subst h
   rw [hb] at hx
   exact ⟨.bool (!b), execOp_value (by rw [hx.lit_inv]; rfl), .lit _⟩
  ·rename_i k n hb
   simp only [Option.some.injEq] at h; subst h
   rw [hb] at hx
   exact ⟨_, execOp_value (by rw [hx.lit_inv]; simp [Op.unary, Op.intArith]), .lit _⟩
  ·cases h
 -- convert
 ·rename_i src dst x
  have hx := hρ x
  split at h
  ·rename_i d k k0 n hs hd hb
   simp only [Option.some.injEq] at h; subst h
   rw [hb] at hx
   refine ⟨.int k (k.wrap n), execOp_value ?_, .lit _⟩
   rw [hx.lit_inv]
   simp [convert, run_underlying hs, run_underlying hd, Conv.intToInt]
  ·rename_i s hs hd hb
   simp only [Option.some.injEq] at h; subst h
   rw [hb] at hx
   refine ⟨.string s, execOp_value ?_, .lit _⟩
   rw [hx.lit_inv]
   simp [convert, run_underlying hs, run_underlying hd]
  ·cases h
 -- makeInterface
 ·rename_i t x
  split at h
  ·rename_i hc
   simp only [Option.some.injEq] at h; subst h
   exact ⟨_, execOp_value (run_makeInterface w t (ρ' x) hc), .ifc t _ _ (hρ x)⟩
  ·cases h
 -- makeFunc
 ·rename_i f first caps
  split at h
  ·rename_i hf
   simp only [Option.some.injEq] at h; subst h
   refine ⟨.func (.func f) (first.map ρ') (caps.map ρ'), execOp_value rfl, ?_⟩
   subst hf
   have hr := RelL.of_map hρ caps.toList
   have e : (#[] : Array Operand).map ρ' = #[] := by simp
   rw [e]
   refine .fn f _ (caps.map ρ') (by simp) (fun i x v hx hv => hr.2 i x v hx ?_)
   rw [← Array.toList_map, Array.getElem?_toList]
   exact hv
  ·split at h
   ·rename_i hf
    simp only [Option.some.injEq] at h; subst h
    refine ⟨.func (.func f) (first.map ρ') (caps.map ρ'), execOp_value rfl, ?_⟩
    subst hf
    have hr := RelL.of_map hρ first.toList
    have e : (#[] : Array Operand).map ρ' = #[] := by simp
    rw [e]
    refine .bf f _ (first.map ρ') (by simp) (fun i x v hx hv => hr.2 i x v hx ?_)
    rw [← Array.toList_map, Array.getElem?_toList]
    exact hv
   ·cases h
 -- slice
 ·rename_i t x lo hi
  obtain ⟨u, h1, h2⟩ := aSlice_sound h (hρ x) (OptRel.of_map hρ lo) (OptRel.of_map hρ hi)
  exact ⟨u, execOp_value h1, h2⟩
 -- slice, with a capacity
 ·rename_i t x lo hi mx
  obtain ⟨u, h1, h2⟩ := aSlice3_sound h (hρ x) (OptRel.of_map hρ lo) (OptRel.of_map hρ hi) (.some _ _ (hρ mx))
  exact ⟨u, execOp_value h1, h2⟩
 -- fieldAddr
 ·rename_i t x k
  have hx := hρ x
  split at h
  ·rename_i o n bb r off hf hr
   split at h
   ·cases h
   ·rename_i hn
    simp only [Option.some.injEq] at h; subst h
    rw [hr] at hx
    obtain ⟨fs, f, hu, hfk, hfo, hfs, hfa⟩ := tField_spec hf
    generalize hv : ρ' x = v at hx
    cases hx with
    | ptr r off b hb =>
     refine ⟨.pointer (some ⟨b, off + o, none⟩), execOp_value ?_, .ptr r _ b hb⟩
     simp [Instr.fieldAt, run_underlying hu, hfk, hv, Instr.sureAddr, fieldPlace, tSize_run hfs, hn, hfo, addr_add]
  ·rename_i o n bb cs hf hr
   split at h
   ·cases h
   ·rename_i hn
    split at h
    ·rename_i ho
     simp only [Option.some.injEq] at h; subst h
     rw [hr] at hx
     obtain ⟨fs, f, hu, hfk, hfo, hfs, hfa⟩ := tField_spec hf
     generalize hv : ρ' x = v at hx
     cases hx with
     | ep cs b off f' hvv hc hrr =>
      refine ⟨.pointer (some ⟨b, off + o, none⟩), execOp_value ?_, .ep _ b _ (fun j => f' (o + j)) (by simp; omega) ?_ ?_⟩
      ·simp [Instr.fieldAt, run_underlying hu, hfk, hv, Instr.sureAddr, fieldPlace, tSize_run hfs, hn, hfo, addr_add]
      ·intro k hk
       have := hc (o + k) (by simp at hk; omega)
       rw [← Nat.add_assoc] at this
       exact this
      ·intro j x hx
       rw [List.getElem?_drop] at hx
       exact hrr _ x hx
    ·cases h
  ·cases h
 -- field
 ·rename_i t x k
  have hx := hρ x
  split at h
  ·rename_i o n cs hf hr
   split at h
   ·simp only [Option.some.injEq] at h; subst h
    rw [hr] at hx
    obtain ⟨fs, f, hu, hfk, hfo, hfs, hfa⟩ := tField_spec hf
    obtain ⟨vs, hv, hrel⟩ := hx.agg_inv
    obtain ⟨u, h1, h2⟩ := part_agg (P := P) (o := o) hfa hfs hrel
    refine ⟨u, execOp_value ?_, h2⟩
    simp only [Instr.field, Sem.run_bind, run_underlying hu, Result.andThen_ok, hfk, hv, asAgg, Sem.run_pure, hfo, h1]
   ·cases h
  ·rename_i o n cs hf hr
   rw [hr] at hx
   obtain ⟨fs, f, hu, hfk, hfo, hfs, hfa⟩ := tField_spec hf
   obtain ⟨vs, hv, hrel⟩ := hx.agg_inv
   obtain ⟨u, h1, h2⟩ := part_one (P := P) hfa h hrel
   refine ⟨u, execOp_value ?_, h2⟩
   simp only [Instr.field, Sem.run_bind, run_underlying hu, Result.andThen_ok, hfk, hv, asAgg, Sem.run_pure, hfo, h1]
  ·cases h
 -- indexAddr
 ·rename_i t x i
  have hx := hρ x
  have hi := hρ i
  split at h
  ·rename_i e0 n bb oo es idx hte hr hidx
   split at h
   ·rename_i el hel
    split at h
    ·rename_i hn
     simp only [Option.some.injEq] at h; subst h
     obtain ⟨hu, i0, hi0, hs0, _⟩ := tElem_spec hte
     obtain ⟨k, ii, hiv, h0, rfl⟩ := aNat_spec hidx hi
     rw [hr] at hx
     obtain ⟨a, cap, hxv, hcap, _, hels⟩ := hx.sl_inv
     obtain ⟨b, off, sz, rfl, hrel, hlen⟩ := hels _ el hel
     have hlt : ii.toNat < es.length := (List.getElem?_eq_some_iff.1 hel).1
     refine ⟨_, execOp_value ?_, hrel⟩
     have e3 : (sizeOf e0).run P w = .ok sz w := by simp [sizeOf, typeInfo, hi0, hs0, ← hn, hlen]
     simp only [Instr.indexAt, hiv, hxv, asIntOf, Sem.run_bind, Sem.run_pure, Result.andThen_ok, run_underlying hu]
     rw [if_pos (by omega)]
     simp [e3, addr_add]
    ·cases h
   ·cases h
  ·rename_i e0 n bb r a0 m sz idx hte hr hidx
   split at h
   ·rename_i hc
    obtain ⟨hlt, rfl⟩ := hc
    simp only [Option.some.injEq] at h; subst h
    obtain ⟨hu, i0, hi0, hs0, _⟩ := tElem_spec hte
    obtain ⟨k, ii, hiv, h0, rfl⟩ := aNat_spec hidx hi
    rw [hr] at hx
    obtain ⟨b, cap, m0, off, c, e1, hxv, hbx, _, hcap, hcc, hoff⟩ := hx.ar_inv
    have hoff' := hoff (by omega)
    subst hoff'
    refine ⟨_, execOp_value ?_, .ptr r ((a0 + ii.toNat) * sz) b hbx⟩
    have e3 : (sizeOf e0).run P w = .ok sz w := by simp [sizeOf, typeInfo, hi0, hs0]
    simp only [Instr.indexAt, hiv, hxv, asIntOf, Sem.run_bind, Sem.run_pure, Result.andThen_ok, run_underlying hu]
    rw [if_pos (by omega)]
    simp [e3, addr_add, Nat.add_mul]
   ·cases h
  ·cases h
 -- index
 ·rename_i t x i
  have hx := hρ x
  have hi := hρ i
  split at h
  ·rename_i s idx hu hr hidx
   split at h
   ·rename_i hlt
    simp only [Option.some.injEq] at h; subst h
    obtain ⟨k, ii, hiv, h0, rfl⟩ := aNat_spec hidx hi
    rw [hr] at hx
    refine ⟨_, execOp_value ?_, .lit _⟩
    simp only [Instr.index, hiv, hx.lit_inv, asIntOf, Sem.run_bind, Sem.run_pure, Result.andThen_ok, run_underlying hu, if_pos h0]
    simp [hlt]
   ·cases h
  ·cases h
 -- extract
 ·rename_i x i
  have hx := hρ x
  split at h
  ·rename_i vs hr
   rw [hr] at hx
   obtain ⟨us, hv, hrel⟩ := hx.tup_inv
   have hlt : i < vs.length := (List.getElem?_eq_some_iff.1 h).1
   have hlt' : i < us.size := by have := hrel.1; simp at this; omega
   refine ⟨us[i], execOp_value ?_, hrel.2 i _ _ h (by simp [hlt'])⟩
   simp [Instr.extract, hv, hlt']
  ·cases h
 -- len
 ·rename_i args argTypes
  split at h
  ·rename_i x t ts hargs hts
   have hargs' : args = #[x] := by cases args; simp at hargs; simp [hargs]
   have hts' : argTypes[0]? = some t := by cases argTypes; simp at hts; simp [hts]
   have hx := hρ x
   split at h
   ·rename_i s hr
    split at h
    ·rename_i hu
     simp only [Option.some.injEq] at h; subst h
     rw [hr] at hx
     refine ⟨_, ?_, .lit _⟩
     simp [execOp, resolve, invoke, builtin, Builtin.len_, hargs', hts', hx.lit_inv, run_underlying hu, goInt]
    ·cases h
   ·rename_i oo es hr
    split at h
    ·rename_i e0 hte
     simp only [Option.some.injEq] at h; subst h
     obtain ⟨hu, _⟩ := tElem_spec hte
     rw [hr] at hx
     obtain ⟨a, cap, hxv, _⟩ := hx.sl_inv
     refine ⟨_, ?_, .lit _⟩
     simp [execOp, resolve, invoke, builtin, Builtin.len_, hargs', hts', hxv, run_underlying hu, goInt]
    ·cases h
   ·rename_i r a0 n sz hr
    split at h
    ·rename_i e0 hte
     simp only [Option.some.injEq] at h; subst h
     obtain ⟨hu, _⟩ := tElem_spec hte
     rw [hr] at hx
     obtain ⟨b, cap, m0, off, c, e1, hxv, _⟩ := hx.ar_inv
     refine ⟨_, ?_, .lit _⟩
     simp [execOp, resolve, invoke, builtin, Builtin.len_, hargs', hts', hxv, run_underlying hu, goInt]
    ·cases h
   ·cases h
  ·cases h
 -- min
 ·rename_i args argTypes
  split at h
  ·rename_i x y hargs
   have hargs' : args = #[x, y] := by cases args; simp at hargs; simp [hargs]
   have hx := hρ x
   have hy := hρ y
   split at h
   ·rename_i k a k' b h1 h2
    simp only [Option.some.injEq] at h; subst h
    rw [h1] at hx
    rw [h2] at hy
    refine ⟨_, ?_, .lit _⟩
    simp [execOp, resolve, invoke, builtin, Builtin.min_, Builtin.min2, hargs', hx.lit_inv, hy.lit_inv]
   ·cases h
  ·cases h
 -- max
 ·rename_i args argTypes
  split at h
  ·rename_i x y hargs
   have hargs' : args = #[x, y] := by cases args; simp at hargs; simp [hargs]
   have hx := hρ x
   have hy := hρ y
   split at h
   ·rename_i k a k' b h1 h2
    simp only [Option.some.injEq] at h; subst h
    rw [h1] at hx
    rw [h2] at hy
    refine ⟨_, ?_, .lit _⟩
    simp [execOp, resolve, invoke, builtin, Builtin.max_, Builtin.max2, hargs', hx.lit_inv, hy.lit_inv]
   ·cases h
  ·rename_i x y z hargs
   have hargs' : args = #[x, y, z] := by cases args; simp at hargs; simp [hargs]
   have hx := hρ x
   have hy := hρ y
   have hz := hρ z
   split at h
   ·rename_i k a k' b k'' c h1 h2 h3
    simp only [Option.some.injEq] at h; subst h
    rw [h1] at hx
    rw [h2] at hy
    rw [h3] at hz
    refine ⟨_, ?_, .lit _⟩
    simp [execOp, resolve, invoke, builtin, Builtin.max_, Builtin.max2, hargs', hx.lit_inv, hy.lit_inv, hz.lit_inv]
   ·cases h
  ·cases h
 ·cases h
end Go.Proofs.YtnoahchdmkpleaaGreat.VA

/-! Va5 -/
namespace Go.Proofs.YtnoahchdmkpleaaGreat.VA
open Go Go.RowKit

theorem Inv.same_heap {g : Gh} {H : Heap} {w w' : World} (h : Inv g H w) (hh : w'.heap = w.heap) (ho : w'.os = w.os) (ht : w'.tape = w.tape) (hp : w'.output = w.output) (hd : w.drawn ≤ w'.drawn) :
  Ext g w g w' ∧ Inv g H w' := by
 have hc : ∀ a, w'.cell? a = w.cell? a := fun a => by simp [World.cell?, hh]
 have he : Ext g w g w' := ⟨rfl, ho, ht, ⟨hp, hd⟩, by rw [hh]; exact Nat.le_refl _, fun _ _ => by rw [hh], fun _ _ => rfl, fun _ => Nat.le_refl _, fun _ _ _ => hc _, fun _ _ h => h, fun _ _ h => h, rfl⟩
 refine ⟨he, ⟨by rw [hh]; exact h.lo, by rw [hh]; exact h.fresh, by rw [hh]; exact h.boxS, h.boxB, h.boxI, ?_, by rw [hh]; exact h.live, h.liveI, ?_, by rw [hh]; exact h.arr, he.holds h.cond⟩⟩
 rotate_left
 ·intro r ks vs hr
  obtain ⟨b, es, ck, h1, h2, h3, h4⟩ := h.map r ks vs hr
  exact ⟨b, es, ck, h1, by rw [hh]; exact h2, h3.ext he, h4.ext he⟩
 intro r cs b hr h1
 obtain ⟨vs, t, h2, h3⟩ := h.box r cs b hr h1
 exact ⟨vs, t, by rw [hh]; exact h2, h3.ext he⟩
theorem Inv.drew {g : Gh} {H : Heap} {w : World} (h : Inv g H w) : Ext g w g w.drew ∧ Inv g H w.drew := h.same_heap rfl rfl rfl rfl (Nat.le_succ _)

theorem ext_alloc {g g' : Gh} {H : Heap} {w : World} (hi : Inv g H w) (o : Obj) (hlo : g'.lo = g.lo) (hv : ∀ b, b ≠ w.heap.size → g'.vis b = g.vis b)
  (hb : ∀ r b, g.box r = some b → g'.box r = some b) (hw : ∀ s x, g.own s = some x → g'.own s = some x) (hcd : g'.cond = g.cond := by rfl) : Ext g w g' (w.alloc o) := by
 have h0 : g.vis w.heap.size = 0 := hi.fresh _ (Nat.le_refl _)
 refine ⟨hlo, rfl, rfl, ⟨rfl, Nat.le_refl _⟩, by simp, ?_, ?_, ?_, ?_, hb, hw, hcd⟩
 ·intro b hb; exact heap_alloc_old w o b (Nat.lt_of_lt_of_le hb hi.lo)
 ·intro b hb; exact hv b (by have := hi.lo; omega)
 ·intro b
  by_cases h : b = w.heap.size
  ·subst h; omega
  ·rw [hv b h]; exact Nat.le_refl _
 ·intro b k hk
  have : b < w.heap.size := by
   rcases Nat.lt_or_ge b w.heap.size with h | h
   ·exact h
   ·rw [hi.fresh b h] at hk; omega
  exact World.cell?_alloc_lt w o ⟨b, k, none⟩ this

theorem getM_of_put {H : Heap} {r i : Nat} {cs : List AV} {x : List AV × List AV} (h : (H.put r cs).getM i = some x) : H.getM i = some x := by
 rw [Heap.getM_put] at h
 split at h
 ·cases h
 ·exact h
theorem Inv.mapA {g g' : Gh} {H H1 : Heap} {w : World} (hi : Inv g H w) {o : Obj} (he : Ext g w g' (w.alloc o)) (hm : ∀ r x, H1.getM r = some x → H.getM r = some x) :
  ∀ r ks vs, H1.getM r = some (ks, vs) → ∃ b es clock, g'.box r = some b ∧ (w.alloc o).heap[b]? = some (.map es clock) ∧ RelL g' (w.alloc o) ks (es.toList.map (·.key)) ∧ RelL g' (w.alloc o) vs (es.toList.map (·.val)) := by
 intro r ks vs hr
 obtain ⟨b, es, ck, h1, h2, h3, h4⟩ := hi.map r ks vs (hm _ _ hr)
 exact ⟨b, es, ck, he.box r b h1, by rw [heap_alloc_old w o b (hi.boxS r b h1).2]; exact h2, h3.ext he, h4.ext he⟩
theorem Inv.mapS {g g' : Gh} {H H1 : Heap} {w : World} (hi : Inv g H w) {b0 : Nat} {vs0 vs' : Array Value} {t : TypeId} (hh : w.heap[b0]? = some (.cells vs0 t (0, 0))) (he : Ext g w g' (w.setRow b0 vs'))
  (hm : ∀ r x, H1.getM r = some x → H.getM r = some x) :
  ∀ r ks vs, H1.getM r = some (ks, vs) → ∃ b es clock, g'.box r = some b ∧ (w.setRow b0 vs').heap[b]? = some (.map es clock) ∧ RelL g' (w.setRow b0 vs') ks (es.toList.map (·.key)) ∧ RelL g' (w.setRow b0 vs') vs (es.toList.map (·.val)) := by
 intro r ks vs hr
 obtain ⟨b, es, ck, h1, h2, h3, h4⟩ := hi.map r ks vs (hm _ _ hr)
 have hne : b ≠ b0 := by rintro rfl; rw [hh] at h2; cases h2
 exact ⟨b, es, ck, he.box r b h1, by rw [setRow_other w b0 b vs' hne]; exact h2, h3.ext he, h4.ext he⟩

theorem Inv.arrA {g g' : Gh} {H H1 : Heap} {w : World} (hi : Inv g H w) {o : Obj}
  (hb : ∀ r b x, (H1.get r).isSome = true → g'.box r = some b → g'.own r = some x → (H.get r).isSome = true ∧ g.box r = some b ∧ g.own r = some x) :
  ∀ r b n cap e sz, (H1.get r).isSome = true → g'.box r = some b → g'.own r = some (b, n, cap, e, sz) → cap ≤ maxLen ∧ ∃ vs, (w.alloc o).heap[b]? = some (.cells vs e (0, 0)) ∧ vs.size = cap * sz := by
 intro r b n cap e sz h1 h2 h3
 obtain ⟨k1, k2, k3⟩ := hb r b _ h1 h2 h3
 obtain ⟨q1, vs, q2, q3⟩ := hi.arr r b n cap e sz k1 k2 k3
 exact ⟨q1, vs, by rw [heap_alloc_old w o b (hi.boxS r b k2).2]; exact q2, q3⟩
theorem Inv.arrS {g g' : Gh} {H H1 : Heap} {w : World} (hi : Inv g H w) {b0 : Nat} {vs0 vs' : Array Value} {t : TypeId} (hh : w.heap[b0]? = some (.cells vs0 t (0, 0))) (hz : vs'.size = vs0.size)
  (hb : ∀ r b x, (H1.get r).isSome = true → g'.box r = some b → g'.own r = some x → (H.get r).isSome = true ∧ g.box r = some b ∧ g.own r = some x) :
  ∀ r b n cap e sz, (H1.get r).isSome = true → g'.box r = some b → g'.own r = some (b, n, cap, e, sz) → cap ≤ maxLen ∧ ∃ vs, (w.setRow b0 vs').heap[b]? = some (.cells vs e (0, 0)) ∧ vs.size = cap * sz := by
 intro r b n cap e sz h1 h2 h3
 obtain ⟨k1, k2, k3⟩ := hb r b _ h1 h2 h3
 obtain ⟨q1, vs, q2, q3⟩ := hi.arr r b n cap e sz k1 k2 k3
 by_cases hbb : b = b0
 ·subst hbb
  rw [hh] at q2
  simp only [Option.some.injEq, Obj.cells.injEq] at q2
  obtain ⟨rfl, rfl, _⟩ := q2
  exact ⟨q1, vs', setRow_heap w b vs0 vs' t (0, 0) hh, by omega⟩
 ·exact ⟨q1, vs, by rw [setRow_other w b0 b vs' hbb]; exact q2, q3⟩
/-- A new block that slices may look at. -/
def Gh.see (g : Gh) (b n : Nat) : Gh := { g with vis := fun i => if i = b then n else g.vis i }
theorem inv_see {g : Gh} {H : Heap} {w : World} (hi : Inv g H w) (o : Obj) (n : Nat) : Ext g w (g.see w.heap.size n) (w.alloc o) ∧ Inv (g.see w.heap.size n) H (w.alloc o) := by
 have he : Ext g w (g.see w.heap.size n) (w.alloc o) := ext_alloc hi o rfl (fun b h => by simp [Gh.see, h]) (fun _ _ h => h) (fun _ _ h => h)
 refine ⟨he, ⟨by have := hi.lo; simp [Gh.see]; omega, ?_, fun r b hb => ⟨(hi.boxS r b hb).1, Nat.lt_of_lt_of_le (hi.boxS r b hb).2 (by simp)⟩, ?_, hi.boxI, ?_, ?_, hi.liveI, hi.mapA he (fun _ _ h => h), hi.arrA (fun _ _ _ a b c => ⟨a, b, c⟩), he.holds hi.cond⟩⟩
 ·intro b hb
  simp at hb
  simp only [Gh.see]
  rw [if_neg (by omega)]
  exact hi.fresh b (by omega)
 ·intro r b hl hb
  have h2 := hi.boxS r b hb
  simp only [Gh.see]
  rw [if_neg (by omega)]
  exact hi.boxB r b hl hb
 ·intro r cs b hr h1
  obtain ⟨vs, t, h2, h3⟩ := hi.box r cs b hr h1
  have hlt := (hi.boxS r b h1).2
  exact ⟨vs, t, by rw [heap_alloc_old w o b hlt]; exact h2, h3.ext he⟩
 ·intro s hs
  obtain ⟨b, m, cap, e, sz, vs, h1, h2, h3, h4, h5, h6, h7, h8⟩ := hi.live s hs
  have hlt : b < w.heap.size := (Array.getElem?_eq_some_iff.1 h3).1
  refine ⟨b, m, cap, e, sz, vs, h1, h2, by rw [heap_alloc_old w o b hlt]; exact h3, h4, h5, h6, ?_, h8⟩
  simp only [Gh.see]
  rw [if_neg (by omega)]
  exact h7

theorem Heap.live_set {H : Heap} {r i : Nat} {o : HO} (h : ((H.set r o).ho i).isSome = true) : r = i ∨ (H.ho i).isSome = true := by
 rw [Heap.ho_set] at h
 split at h
 ·rename_i hr; exact .inl hr
 ·exact .inr h
/-- A new box. -/
def Gh.addBox (g : Gh) (r b : Nat) : Gh := { g with box := fun i => if i = r then some b else g.box i }
theorem inv_addBox {g : Gh} {H : Heap} {w : World} (hi : Inv g H w) {r : Nat} (hf : Fresh g H r) {cs : List AV} {vs : Array Value} {t : TypeId} (hrel : RelL g w cs vs.toList) :
  Ext g w (g.addBox r w.heap.size) (w.alloc (.cells vs t)) ∧ Inv (g.addBox r w.heap.size) (H.put r cs) (w.alloc (.cells vs t)) ∧
   Rel (g.addBox r w.heap.size) (w.alloc (.cells vs t)) (.ptr r 0) (.pointer (some ⟨w.heap.size, 0, none⟩)) := by
 have he : Ext g w (g.addBox r w.heap.size) (w.alloc (.cells vs t)) := ext_alloc hi _ rfl (fun b h => rfl)
  (fun i b h => by
   simp only [Gh.addBox]
   split
   ·rename_i hir; subst hir; rw [hf.1] at h; cases h
   ·exact h) (fun _ _ h => h)
 have hnew : (g.addBox r w.heap.size).box r = some w.heap.size := by simp [Gh.addBox]
 have hlen : cs.length = vs.size := by simpa using hrel.1
 refine ⟨he, ⟨by have := hi.lo; simp [Gh.addBox]; omega, ?_, ?_, ?_, ?_, ?_, ?_, hi.liveI, hi.mapA he (fun _ _ h => getM_of_put h), hi.arrA ?_, he.holds hi.cond⟩, .ptr r 0 _ hnew⟩
 ·intro b hb
  simp at hb
  exact hi.fresh b (by omega)
 ·intro i b hb
  simp only [Gh.addBox] at hb
  split at hb
  ·simp at hb; subst hb
   exact ⟨hi.lo, by simp⟩
  ·obtain ⟨h1, h2⟩ := hi.boxS i b hb
   exact ⟨h1, by simp; omega⟩
 ·intro i b hl hb
  simp only [Gh.addBox] at hb
  split at hb
  ·simp at hb; subst hb
   exact hi.fresh _ (Nat.le_refl _)
  ·rename_i hir
   exact hi.boxB i b ((Heap.live_set hl).resolve_left (fun h => hir h.symm)) hb
 ·intro i j b l1 l2 h1 h2
  simp only [Gh.addBox] at h1 h2
  split at h1
  ·rename_i hir
   simp at h1; subst h1
   split at h2
   ·rename_i hjr; rw [hir, hjr]
   ·have := (hi.boxS j _ h2).2; omega
  ·rename_i hir
   split at h2
   ·simp at h2; subst h2
    have := (hi.boxS i _ h1).2; omega
   ·rename_i hjr
    exact hi.boxI i j b ((Heap.live_set l1).resolve_left (fun h => hir h.symm)) ((Heap.live_set l2).resolve_left (fun h => hjr h.symm)) h1 h2
 ·intro i ds b hd hbb
  rw [Heap.get_put] at hd
  split at hd
  ·rename_i hir
   simp at hd; subst hd; subst hir
   rw [hnew] at hbb
   simp at hbb; subst hbb
   exact ⟨vs, t, heap_alloc_new w _, by rw [hlen, List.take_of_length_le (by simp)]; exact hrel.ext he⟩
  ·rename_i hir
   have hir' : ¬ i = r := fun h => hir h.symm
   simp only [Gh.addBox, if_neg hir'] at hbb
   obtain ⟨us, t', h2, h3⟩ := hi.box i ds b hd hbb
   have hlt := (hi.boxS i b hbb).2
   refine ⟨us, t', by rw [heap_alloc_old w _ b hlt]; exact h2, h3.ext he⟩
 ·intro s hs
  obtain ⟨b, m, cap, e, sz, us, h1, h2, h3, h4, h5, h6, h7, h8⟩ := hi.live s hs
  have hlt : b < w.heap.size := (Array.getElem?_eq_some_iff.1 h3).1
  refine ⟨b, m, cap, e, sz, us, h1, h2, by rw [heap_alloc_old w _ b hlt]; exact h3, h4, h5, h6, h7, ?_⟩
  intro i hl hi'
  simp only [Gh.addBox] at hi'
  split at hi'
  ·simp at hi'; omega
  ·rename_i hir
   exact h8 i ((Heap.live_set hl).resolve_left (fun h => hir h.symm)) hi'
 ·intro i b x a1 a2 a3
  by_cases hir : i = r
  ·subst hir
   have a3' : g.own i = some x := a3
   rw [hf.2.1] at a3'; cases a3'
  ·simp only [Gh.addBox, if_neg hir] at a2
   rw [Heap.get_put, if_neg (fun h => hir h.symm)] at a1
   exact ⟨a1, a2, a3⟩

/-- A store into a box. -/
theorem inv_store {g : Gh} {H : Heap} {w : World} (hi : Inv g H w) {r b : Nat} {cs cs' : List AV} {vs vs' : Array Value} {t : TypeId} (hg : H.get r = some cs) (hb : g.box r = some b)
  (hh : w.heap[b]? = some (.cells vs t (0, 0))) (hz : vs'.size = vs.size) (hrel : RelL g w cs' (vs'.toList.take cs'.length)) : Ext g w g (w.setRow b vs') ∧ Inv g (H.put r cs') (w.setRow b vs') := by
 have hlr := Heap.live_get hg
 have hB := hi.boxS r b hb
 have hB0 := hi.boxB r b hlr hb
 have lv : ∀ i, ((H.put r cs').ho i).isSome = true → (H.ho i).isSome = true := fun i h => by
  rcases Heap.live_set h with rfl | h
  ·exact hlr
  ·exact h
 have he : Ext g w g (w.setRow b vs') := by
  refine ⟨rfl, rfl, rfl, ⟨rfl, Nat.le_refl _⟩, by simp, ?_, fun _ _ => rfl, fun _ => Nat.le_refl _, ?_, fun _ _ h => h, fun _ _ h => h, rfl⟩
  ·intro k hk; exact setRow_other w b k vs' (by omega)
  ·intro k o ho
   by_cases hkb : k = b
   ·subst hkb; omega
   ·exact cell_setRow_other w b vs' ⟨k, o, none⟩ hkb
 refine ⟨he, ⟨by simp; exact hi.lo, by simpa using hi.fresh, by simpa using hi.boxS, fun i k hl => hi.boxB i k (lv i hl), fun i j k l1 l2 => hi.boxI i j k (lv i l1) (lv j l2), ?_, ?_, hi.liveI, hi.mapS hh he (fun _ _ h => getM_of_put h), hi.arrS hh hz (fun i k x a1 a2 a3 => ⟨?_, a2, a3⟩), he.holds hi.cond⟩⟩
 ·intro i ds b' hd h1
  rw [Heap.get_put] at hd
  split at hd
  ·rename_i hir
   simp at hd; subst hd; subst hir
   rw [hb] at h1
   simp at h1; subst h1
   exact ⟨vs', t, setRow_heap w b vs vs' t (0, 0) hh, hrel.ext he⟩
  ·rename_i hir
   obtain ⟨us, t', h2, h3⟩ := hi.box i ds b' hd h1
   have hne : b' ≠ b := fun h => hir (hi.boxI r i b hlr (Heap.live_get hd) hb (by rw [h1, h]))
   exact ⟨us, t', by rw [setRow_other w b b' vs' hne]; exact h2, h3.ext he⟩
 ·intro s hs
  obtain ⟨b', m, cap, e, sz, us, h1, h2, h3, h4, h5, h6, h7, h8⟩ := hi.live s hs
  have hne : b' ≠ b := fun h => h8 r hlr (by rw [hb, h])
  exact ⟨b', m, cap, e, sz, us, h1, h2, by rw [setRow_other w b b' vs' hne]; exact h3, h4, h5, h6, h7, fun i hl => h8 i (lv i hl)⟩
 ·rw [Heap.get_put] at a1
  split at a1
  ·rename_i hri; subst hri; rw [hg]; rfl
  ·exact a1

/-- What a number named is gone. -/
theorem Heap.live_del {H : Heap} {r i : Nat} (h : ((H.del r).ho i).isSome = true) : r ≠ i ∧ (H.ho i).isSome = true := by
 unfold Heap.del at h
 dsimp only at h
 split at h
 ·cases h
 ·rename_i hr; exact ⟨hr, h⟩
theorem inv_del {g : Gh} {H : Heap} {w : World} (hi : Inv g H w) (r : Nat) : Inv g (H.del r) w := by
 refine ⟨hi.lo, hi.fresh, hi.boxS, fun i b h => hi.boxB i b (Heap.live_del h).2, fun i j b h k => hi.boxI i j b (Heap.live_del h).2 (Heap.live_del k).2, ?_, ?_, hi.liveI, ?_, ?_, hi.cond⟩
 ·intro i cs b h
  rw [Heap.get_del] at h
  split at h
  ·cases h
  ·exact hi.box i cs b h
 ·intro s hs
  obtain ⟨b, m, cap, e, sz, us, h1, h2, h3, h4, h5, h6, h7, h8⟩ := hi.live s hs
  exact ⟨b, m, cap, e, sz, us, h1, h2, h3, h4, h5, h6, h7, fun i hl => h8 i (Heap.live_del hl).2⟩
 ·intro i ks vs h
  rw [Heap.getM_del] at h
  split at h
  ·cases h
  ·exact hi.map i ks vs h
 ·intro i b n cap e sz h
  rw [Heap.get_del] at h
  split at h
  ·cases h
  ·exact hi.arr i b n cap e sz h
/-- A new array. -/
def Gh.addArr (g : Gh) (r b : Nat) (x : Nat × Nat × Nat × TypeId × Nat) : Gh := { g with box := fun i => if i = r then some b else g.box i, own := fun i => if i = r then some x else g.own i }
theorem Gh.addArr_box (g : Gh) (r b : Nat) (x : Nat × Nat × Nat × TypeId × Nat) : (g.addArr r b x).box r = some b := by simp [Gh.addArr]
theorem Gh.addArr_own (g : Gh) (r b : Nat) (x : Nat × Nat × Nat × TypeId × Nat) : (g.addArr r b x).own r = some x := by simp [Gh.addArr]
theorem Gh.addArr_ne (g : Gh) (r b : Nat) (x : Nat × Nat × Nat × TypeId × Nat) {i : Nat} (h : i ≠ r) : (g.addArr r b x).box i = g.box i ∧ (g.addArr r b x).own i = g.own i := by simp [Gh.addArr, h]
theorem inv_arrNew {g : Gh} {H : Heap} {w : World} (hi : Inv g H w) {r : Nat} (hf : Fresh g H r) {cs : List AV} {vs : Array Value} {e : TypeId} {m cap sz : Nat} (hcm : cap ≤ maxLen) (hz : vs.size = cap * sz)
  (hrel : RelL g w cs (vs.toList.take cs.length)) : Ext g w (g.addArr r w.heap.size (w.heap.size, m, cap, e, sz)) (w.alloc (.cells vs e)) ∧
   Inv (g.addArr r w.heap.size (w.heap.size, m, cap, e, sz)) (H.put r cs) (w.alloc (.cells vs e)) := by
 have he : Ext g w (g.addArr r w.heap.size (w.heap.size, m, cap, e, sz)) (w.alloc (.cells vs e)) := ext_alloc hi _ rfl (fun b h => rfl)
  (fun i b h => by
   simp only [Gh.addArr]
   split
   ·rename_i hir; subst hir; rw [hf.1] at h; cases h
   ·exact h) (fun i x h => by
   simp only [Gh.addArr]
   split
   ·rename_i hir; subst hir; rw [hf.2.1] at h; cases h
   ·exact h)
 have lne : ∀ s, H.isLive s = true → s ≠ r := fun s hs e => by subst e; rw [hf.2.2] at hs; cases hs
 refine ⟨he, ⟨by have := hi.lo; simp [Gh.addArr]; omega, ?_, ?_, ?_, ?_, ?_, ?_, ?_, hi.mapA he (fun _ _ h => getM_of_put h), ?_, he.holds hi.cond⟩⟩
 ·intro b hb
  simp at hb
  exact hi.fresh b (by omega)
 ·intro i b hb
  simp only [Gh.addArr] at hb
  split at hb
  ·simp at hb; subst hb
   exact ⟨hi.lo, by simp⟩
  ·obtain ⟨h1, h2⟩ := hi.boxS i b hb
   exact ⟨h1, by simp; omega⟩
 ·intro i b hl hb
  simp only [Gh.addArr] at hb
  split at hb
  ·simp at hb; subst hb
   exact hi.fresh _ (Nat.le_refl _)
  ·rename_i hir
   exact hi.boxB i b ((Heap.live_set hl).resolve_left (fun h => hir h.symm)) hb
 ·intro i j b l1 l2 h1 h2
  simp only [Gh.addArr] at h1 h2
  split at h1
  ·rename_i hir
   simp at h1; subst h1
   split at h2
   ·rename_i hjr; rw [hir, hjr]
   ·have := (hi.boxS j _ h2).2; omega
  ·rename_i hir
   split at h2
   ·simp at h2; subst h2
    have := (hi.boxS i _ h1).2; omega
   ·rename_i hjr
    exact hi.boxI i j b ((Heap.live_set l1).resolve_left (fun h => hir h.symm)) ((Heap.live_set l2).resolve_left (fun h => hjr h.symm)) h1 h2
 ·intro i ds b hd hbb
  rw [Heap.get_put] at hd
  split at hd
  ·rename_i hir
   simp at hd; subst hd; subst hir
   rw [Gh.addArr_box] at hbb
   simp at hbb; subst hbb
   exact ⟨vs, e, heap_alloc_new w _, hrel.ext he⟩
  ·rename_i hir
   rw [(Gh.addArr_ne g r _ _ (fun h => hir h.symm)).1] at hbb
   obtain ⟨us, t', h2, h3⟩ := hi.box i ds b hd hbb
   have hlt := (hi.boxS i b hbb).2
   refine ⟨us, t', by rw [heap_alloc_old w _ b hlt]; exact h2, h3.ext he⟩
 ·intro s hs
  obtain ⟨b, m', cap', e', sz', us, h1, h2, h3, h4, h5, h6, h7, h8⟩ := hi.live s hs
  have hlt : b < w.heap.size := (Array.getElem?_eq_some_iff.1 h3).1
  refine ⟨b, m', cap', e', sz', us, he.own _ _ h1, h2, by rw [heap_alloc_old w _ b hlt]; exact h3, h4, h5, h6, h7, ?_⟩
  intro i hl hi'
  simp only [Gh.addArr] at hi'
  split at hi'
  ·simp at hi'; omega
  ·rename_i hir
   exact h8 i ((Heap.live_set hl).resolve_left (fun h => hir h.symm)) hi'
 ·intro s s' b x y h1 h2 h3 h4
  rw [(Gh.addArr_ne g r _ _ (lne s h1)).2] at h3
  rw [(Gh.addArr_ne g r _ _ (lne s' h2)).2] at h4
  exact hi.liveI s s' b x y h1 h2 h3 h4
 ·intro i b n' cap' e' sz' a1 a2 a3
  by_cases hir : i = r
  ·subst hir
   rw [Gh.addArr_own] at a3
   simp only [Option.some.injEq, Prod.mk.injEq] at a3
   obtain ⟨rfl, rfl, rfl, rfl, rfl⟩ := a3
   exact ⟨hcm, vs, heap_alloc_new w _, hz⟩
  ·rw [(Gh.addArr_ne g r _ _ hir).1] at a2
   rw [(Gh.addArr_ne g r _ _ hir).2] at a3
   rw [Heap.get_put, if_neg (fun h => hir h.symm)] at a1
   obtain ⟨q1, us, q2, q3⟩ := hi.arr i b n' cap' e' sz' a1 a2 a3
   exact ⟨q1, us, by rw [heap_alloc_old w _ b (hi.boxS i b a2).2]; exact q2, q3⟩
/-- An array goes on under a new number, in its own block. -/
theorem inv_arrRoom {g : Gh} {H : Heap} {w : World} (hi : Inv g H w) {r k0 b m m0 cap sz : Nat} {e t : TypeId} (hf : Fresh g H r) {cs cs0 : List AV} {vs vs' : Array Value} (hg : H.get k0 = some cs0) (hb : g.box k0 = some b)
  (ho : g.own k0 = some (b, m0, cap, e, sz)) (hh : w.heap[b]? = some (.cells vs t (0, 0))) (hz : vs'.size = vs.size) (hrel : RelL g w cs (vs'.toList.take cs.length)) :
  Ext g w (g.addArr r b (b, m, cap, e, sz)) (w.setRow b vs') ∧ Inv (g.addArr r b (b, m, cap, e, sz)) ((H.del k0).put r cs) (w.setRow b vs') := by
 have hlr := Heap.live_get hg
 have hB := hi.boxS k0 b hb
 have hB0 := hi.boxB k0 b hlr hb
 obtain ⟨ha1, us0, ha2, ha3⟩ := hi.arr k0 b m0 cap e sz (by rw [hg]; rfl) hb ho
 rw [hh] at ha2
 simp only [Option.some.injEq, Obj.cells.injEq] at ha2
 obtain ⟨rfl, rfl, _⟩ := ha2
 have lne : ∀ s, H.isLive s = true → s ≠ r := fun s hs e => by subst e; rw [hf.2.2] at hs; cases hs
 have lv : ∀ i, i ≠ r → (((H.del k0).put r cs).ho i).isSome = true → k0 ≠ i ∧ (H.ho i).isSome = true := fun i hir h => by
  rcases Heap.live_set h with rfl | h
  ·exact absurd rfl hir
  ·exact Heap.live_del h
 have he : Ext g w (g.addArr r b (b, m, cap, t, sz)) (w.setRow b vs') := by
  refine ⟨rfl, rfl, rfl, ⟨rfl, Nat.le_refl _⟩, by simp, ?_, fun _ _ => rfl, fun _ => Nat.le_refl _, ?_, ?_, ?_, rfl⟩
  ·intro k hk; exact setRow_other w b k vs' (by omega)
  ·intro k o ho
   by_cases hkb : k = b
   ·subst hkb; omega
   ·exact cell_setRow_other w b vs' ⟨k, o, none⟩ hkb
  ·intro i k h
   simp only [Gh.addArr]
   split
   ·rename_i hir; subst hir; rw [hf.1] at h; cases h
   ·exact h
  ·intro i x h
   simp only [Gh.addArr]
   split
   ·rename_i hir; subst hir; rw [hf.2.1] at h; cases h
   ·exact h
 refine ⟨he, ⟨by simp [Gh.addArr]; exact hi.lo, by simpa [Gh.addArr] using hi.fresh, ?_, ?_, ?_, ?_, ?_, ?_, hi.mapS hh he (fun i x h => ?_), ?_, he.holds hi.cond⟩⟩
 ·intro i k hk
  simp only [Gh.addArr] at hk
  split at hk
  ·simp at hk; subst hk; exact ⟨hB.1, by simpa using hB.2⟩
  ·obtain ⟨h1, h2⟩ := hi.boxS i k hk
   exact ⟨h1, by simpa using h2⟩
 ·intro i k hl hk
  by_cases hir : i = r
  ·subst hir
   rw [Gh.addArr_box] at hk
   simp at hk; subst hk; exact hB0
  ·rw [(Gh.addArr_ne g r _ _ hir).1] at hk
   exact hi.boxB i k (lv i hir hl).2 hk
 ·intro i j k l1 l2 h1 h2
  by_cases hir : i = r <;> by_cases hjr : j = r
  ·rw [hir, hjr]
  ·subst hir
   rw [Gh.addArr_box] at h1
   rw [(Gh.addArr_ne g i _ _ hjr).1] at h2
   simp at h1; subst h1
   obtain ⟨q1, q2⟩ := lv j hjr l2
   exact absurd (hi.boxI k0 j b hlr q2 hb h2) q1
  ·subst hjr
   rw [Gh.addArr_box] at h2
   rw [(Gh.addArr_ne g j _ _ hir).1] at h1
   simp at h2; subst h2
   obtain ⟨q1, q2⟩ := lv i hir l1
   exact absurd (hi.boxI k0 i b hlr q2 hb h1) q1
  ·rw [(Gh.addArr_ne g r _ _ hir).1] at h1
   rw [(Gh.addArr_ne g r _ _ hjr).1] at h2
   exact hi.boxI i j k (lv i hir l1).2 (lv j hjr l2).2 h1 h2
 ·intro i ds b' hd h1
  by_cases hir : i = r
  ·subst hir
   rw [Heap.get_put, if_pos rfl] at hd
   simp at hd; subst hd
   rw [Gh.addArr_box] at h1
   simp at h1; subst h1
   exact ⟨vs', t, setRow_heap w b vs vs' t (0, 0) hh, hrel.ext he⟩
  ·have hl := lv i hir (Heap.live_get hd)
   rw [Heap.get_put, if_neg (fun h => hir h.symm), Heap.get_del, if_neg hl.1] at hd
   rw [(Gh.addArr_ne g r _ _ hir).1] at h1
   obtain ⟨us, t', h2, h3⟩ := hi.box i ds b' hd h1
   have hne : b' ≠ b := fun h => hl.1 (hi.boxI k0 i b hlr hl.2 hb (by rw [h1, h]))
   exact ⟨us, t', by rw [setRow_other w b b' vs' hne]; exact h2, h3.ext he⟩
 ·intro s hs
  obtain ⟨b', m', cap', e', sz', us, h1, h2, h3, h4, h5, h6, h7, h8⟩ := hi.live s hs
  have hne : b' ≠ b := fun h => h8 k0 hlr (by rw [hb, h])
  refine ⟨b', m', cap', e', sz', us, he.own _ _ h1, h2, by rw [setRow_other w b b' vs' hne]; exact h3, h4, h5, h6, h7, fun i hl hk => ?_⟩
  by_cases hir : i = r
  ·subst hir
   rw [Gh.addArr_box] at hk
   simp at hk; exact hne hk.symm
  ·rw [(Gh.addArr_ne g r _ _ hir).1] at hk
   exact h8 i (lv i hir hl).2 hk
 ·intro s s' k x y h1 h2 h3 h4
  rw [(Gh.addArr_ne g r _ _ (lne s h1)).2] at h3
  rw [(Gh.addArr_ne g r _ _ (lne s' h2)).2] at h4
  exact hi.liveI s s' k x y h1 h2 h3 h4
 ·have h2 := getM_of_put h
  rw [Heap.getM_del] at h2
  split at h2
  ·cases h2
  ·exact h2
 ·intro i k n' cap' e' sz' a1 a2 a3
  by_cases hir : i = r
  ·subst hir
   rw [Gh.addArr_own] at a3
   simp only [Option.some.injEq, Prod.mk.injEq] at a3
   obtain ⟨rfl, rfl, rfl, rfl, rfl⟩ := a3
   exact ⟨ha1, vs', setRow_heap w b vs vs' t (0, 0) hh, by omega⟩
  ·rw [(Gh.addArr_ne g r _ _ hir).1] at a2
   rw [(Gh.addArr_ne g r _ _ hir).2] at a3
   have hl := lv i hir (by cases hgi : ((H.del k0).put r cs).get i with | none => rw [hgi] at a1; cases a1 | some c => exact Heap.live_get hgi)
   rw [Heap.get_put, if_neg (fun h => hir h.symm), Heap.get_del, if_neg hl.1] at a1
   obtain ⟨q1, us, q2, q3⟩ := hi.arr i k n' cap' e' sz' a1 a2 a3
   have hne : k ≠ b := fun h => hl.1 (hi.boxI k0 i b hlr hl.2 hb (by rw [a2, h]))
   exact ⟨q1, us, by rw [setRow_other w b k vs' hne]; exact q2, q3⟩

/-- A right to append in place. -/
def Gh.addOwn (g : Gh) (s : Nat) (x : Nat × Nat × Nat × TypeId × Nat) (b n : Nat) : Gh :=
 { g with own := fun i => if i = s then some x else g.own i, vis := fun i => if i = b then n else g.vis i }
theorem Fresh.live_ne {g : Gh} {H : Heap} {r s : Nat} (h : Fresh g H r) (hs : H.isLive s = true) : s ≠ r := fun e => by subst e; rw [h.2.2] at hs; cases hs
theorem inv_ownNew {g : Gh} {H H1 : Heap} {w : World} (hi : Inv g H w) {s : Nat} (hf : Fresh g H s) {vs : Array Value} {e : TypeId} {n cap sz : Nat} (hnc : n ≤ cap) (hcm : cap ≤ maxLen)
  (hsz : vs.size = cap * sz) (hg : ∀ r, H1.ho r = H.ho r) (hl : ∀ k, H1.isLive k = true → k = s ∨ H.isLive k = true) :
  Ext g w (g.addOwn s (w.heap.size, n, cap, e, sz) w.heap.size (n * sz)) (w.alloc (.cells vs e)) ∧
   Inv (g.addOwn s (w.heap.size, n, cap, e, sz) w.heap.size (n * sz)) H1 (w.alloc (.cells vs e)) := by
 have he : Ext g w (g.addOwn s (w.heap.size, n, cap, e, sz) w.heap.size (n * sz)) (w.alloc (.cells vs e)) :=
  ext_alloc hi _ rfl (fun b h => by simp [Gh.addOwn, h]) (fun _ _ h => h) (fun i x h => by
   simp only [Gh.addOwn]
   split
   ·rename_i his; subst his; rw [hf.2.1] at h; cases h
   ·exact h)
 refine ⟨he, ⟨by have := hi.lo; simp [Gh.addOwn]; omega, ?_, fun r b hb => ⟨(hi.boxS r b hb).1, Nat.lt_of_lt_of_le (hi.boxS r b hb).2 (by simp)⟩, ?_, fun r r' b l1 l2 => hi.boxI r r' b (by rw [← hg]; exact l1) (by rw [← hg]; exact l2), ?_, ?_, ?_, hi.mapA he (fun r x h => by rw [Heap.getM, hg] at h; exact h), hi.arrA ?_, he.holds hi.cond⟩⟩
 ·intro b hb
  simp at hb
  simp only [Gh.addOwn]
  rw [if_neg (by omega)]
  exact hi.fresh b (by omega)
 ·intro r b hl hb
  have h2 := hi.boxS r b hb
  simp only [Gh.addOwn]
  rw [if_neg (by omega)]
  exact hi.boxB r b (by rw [← hg]; exact hl) hb
 ·intro r cs b hr h1
  rw [Heap.get, hg] at hr
  obtain ⟨us, t, h2, h3⟩ := hi.box r cs b hr h1
  have hlt := (hi.boxS r b h1).2
  exact ⟨us, t, by rw [heap_alloc_old w _ b hlt]; exact h2, h3.ext he⟩
 ·intro k hk
  by_cases hks : k = s
  ·subst hks
   refine ⟨w.heap.size, n, cap, e, sz, vs, by simp [Gh.addOwn], hi.lo, heap_alloc_new w _, hnc, hcm, hsz, by simp [Gh.addOwn], ?_⟩
   intro r _ hr
   have := (hi.boxS r _ hr).2
   omega
  ·have hk' := (hl k hk).resolve_left hks
   obtain ⟨b, m, cap', e', sz', us, h1, h2, h3, h4, h5, h6, h7, h8⟩ := hi.live k hk'
   have hlt : b < w.heap.size := (Array.getElem?_eq_some_iff.1 h3).1
   refine ⟨b, m, cap', e', sz', us, he.own _ _ h1, h2, by rw [heap_alloc_old w _ b hlt]; exact h3, h4, h5, h6, ?_, fun r hr => h8 r (by rw [← hg]; exact hr)⟩
   simp only [Gh.addOwn]
   rw [if_neg (by omega)]
   exact h7
 ·intro k k' b x y hk hk' h1 h2
  simp only [Gh.addOwn] at h1 h2
  have lt : ∀ j z, H.isLive j = true → g.own j = some (b, z) → b < w.heap.size := by
   intro j z hj hz
   obtain ⟨b', m, cap', e', sz', us, g1, _, g3, _⟩ := hi.live j hj
   rw [hz] at g1
   simp at g1
   rw [g1.1]
   exact (Array.getElem?_eq_some_iff.1 g3).1
  by_cases a1 : k = s <;> by_cases a2 : k' = s
  ·rw [a1, a2]
  ·rw [if_pos a1] at h1
   rw [if_neg a2] at h2
   simp at h1
   have := lt k' y ((hl k' hk').resolve_left a2) h2
   omega
  ·rw [if_neg a1] at h1
   rw [if_pos a2] at h2
   simp at h2
   have := lt k x ((hl k hk).resolve_left a1) h1
   omega
  ·rw [if_neg a1] at h1
   rw [if_neg a2] at h2
   exact hi.liveI k k' b x y ((hl k hk).resolve_left a1) ((hl k' hk').resolve_left a2) h1 h2
 ·intro i k x a1 a2 a3
  rw [Heap.get, hg] at a1
  by_cases his : i = s
  ·subst his
   have a2' : g.box i = some k := a2
   rw [hf.1] at a2'; cases a2'
  ·simp only [Gh.addOwn, if_neg his] at a3
   exact ⟨a1, a2, a3⟩
/-- An append in place: the right passes from 'k' to 's'. -/
theorem inv_ownRoom {g : Gh} {H H1 : Heap} {w : World} (hi : Inv g H w) {s k0 : Nat} (hf : Fresh g H s) (hk0 : H.isLive k0 = true) {b n m cap sz : Nat} {e : TypeId} {vs vs' : Array Value}
  (ho : g.own k0 = some (b, n, cap, e, sz)) (hh : w.heap[b]? = some (.cells vs e (0, 0))) (hnm : n ≤ m) (hmc : m ≤ cap) (hsz : vs'.size = cap * sz)
  (hsame : ∀ o, o < n * sz → vs'[o]? = vs[o]?) (hg : ∀ r, H1.ho r = H.ho r) (hl : ∀ k, H1.isLive k = true → k = s ∨ (k ≠ k0 ∧ H.isLive k = true)) :
  Ext g w (g.addOwn s (b, m, cap, e, sz) b (m * sz)) (w.setRow b vs') ∧ Inv (g.addOwn s (b, m, cap, e, sz) b (m * sz)) H1 (w.setRow b vs') := by
 obtain ⟨b0, n0, cap0, e0, sz0, us0, g1, g2, g3, g4, g5, g6, g7, g8⟩ := hi.live k0 hk0
 rw [ho] at g1
 simp only [Option.some.injEq, Prod.mk.injEq] at g1
 obtain ⟨rfl, rfl, rfl, rfl, rfl⟩ := g1
 have hmul : n * sz ≤ m * sz := Nat.mul_le_mul_right sz hnm
 have hvz : vs'.size = vs.size := by
  have g3' := g3
  rw [hh] at g3'
  simp only [Option.some.injEq, Obj.cells.injEq] at g3'
  rw [g3'.1, g6]; exact hsz
 have he : Ext g w (g.addOwn s (b, m, cap, e, sz) b (m * sz)) (w.setRow b vs') := by
  refine ⟨rfl, rfl, rfl, ⟨rfl, Nat.le_refl _⟩, by simp, ?_, ?_, ?_, ?_, fun _ _ h => h, ?_, rfl⟩
  ·intro k hk; exact setRow_other w b k vs' (by omega)
  ·intro k hk
   simp only [Gh.addOwn]
   rw [if_neg (by omega)]
  ·intro k
   simp only [Gh.addOwn]
   split
   ·rename_i hkb; subst hkb; omega
   ·exact Nat.le_refl _
  ·intro k o hko
   by_cases hkb : k = b
   ·subst hkb
    rw [cell_of_row _ k o vs' e (0, 0) (setRow_heap w k vs vs' e (0, 0) hh), cell_of_row w k o vs e (0, 0) hh]
    exact hsame o (by omega)
   ·exact cell_setRow_other w b vs' ⟨k, o, none⟩ hkb
  ·intro i x h
   simp only [Gh.addOwn]
   split
   ·rename_i his; subst his; rw [hf.2.1] at h; cases h
   ·exact h
 refine ⟨he, ⟨by simp [Gh.addOwn]; exact hi.lo, ?_, by simpa [Gh.addOwn] using hi.boxS, ?_, fun r r' b l1 l2 => hi.boxI r r' b (by rw [← hg]; exact l1) (by rw [← hg]; exact l2), ?_, ?_, ?_, hi.mapS hh he (fun r x h => by rw [Heap.getM, hg] at h; exact h), hi.arrS hh hvz ?_, he.holds hi.cond⟩⟩
 ·intro k hk
  simp at hk
  simp only [Gh.addOwn]
  have := (Array.getElem?_eq_some_iff.1 hh).1
  rw [if_neg (by omega)]
  exact hi.fresh k hk
 ·intro r k hl' hk
  have hl2 : (H.ho r).isSome = true := by rw [← hg]; exact hl'
  simp only [Gh.addOwn]
  rw [if_neg (fun h => g8 r hl2 (by rw [← h]; exact hk))]
  exact hi.boxB r k hl2 hk
 ·intro r cs k hr h1
  rw [Heap.get, hg] at hr
  obtain ⟨us, t, h2, h3⟩ := hi.box r cs k hr h1
  have hne : k ≠ b := fun h => g8 r (Heap.live_get (H := H) hr) (by rw [← h]; exact h1)
  exact ⟨us, t, by rw [setRow_other w b k vs' hne]; exact h2, h3.ext he⟩
 ·intro k hk
  by_cases hks : k = s
  ·subst hks
   exact ⟨b, m, cap, e, sz, vs', by simp [Gh.addOwn], g2, setRow_heap w b vs vs' e (0, 0) hh, hmc, g5, hsz, by simp [Gh.addOwn], fun r hr => g8 r (by rw [← hg]; exact hr)⟩
  ·obtain ⟨hkk, hk'⟩ := (hl k hk).resolve_left hks
   obtain ⟨b', m', cap', e', sz', us, h1, h2, h3, h4, h5, h6, h7, h8⟩ := hi.live k hk'
   have hne : b' ≠ b := fun h => hkk (hi.liveI k k0 b (m', cap', e', sz') (n, cap, e, sz) hk' hk0 (by rw [h1, h]) ho)
   refine ⟨b', m', cap', e', sz', us, he.own _ _ h1, h2, by rw [setRow_other w b b' vs' hne]; exact h3, h4, h5, h6, ?_, fun r hr => h8 r (by rw [← hg]; exact hr)⟩
   simp only [Gh.addOwn]
   rw [if_neg hne]
   exact h7
 ·intro k k' b' x y hk hk' h1 h2
  simp only [Gh.addOwn] at h1 h2
  by_cases a1 : k = s <;> by_cases a2 : k' = s
  ·rw [a1, a2]
  ·rw [if_pos a1] at h1
   rw [if_neg a2] at h2
   simp only [Option.some.injEq, Prod.mk.injEq] at h1
   obtain ⟨rfl, _⟩ := h1
   obtain ⟨q1, q2⟩ := (hl k' hk').resolve_left a2
   exact absurd (hi.liveI k' k0 b y _ q2 hk0 h2 ho) q1
  ·rw [if_neg a1] at h1
   rw [if_pos a2] at h2
   simp only [Option.some.injEq, Prod.mk.injEq] at h2
   obtain ⟨rfl, _⟩ := h2
   obtain ⟨q1, q2⟩ := (hl k hk).resolve_left a1
   exact absurd (hi.liveI k k0 b x _ q2 hk0 h1 ho) q1
  ·rw [if_neg a1] at h1
   rw [if_neg a2] at h2
   exact hi.liveI k k' b' x y ((hl k hk).resolve_left a1).2 ((hl k' hk').resolve_left a2).2 h1 h2
 ·intro i k x a1 a2 a3
  rw [Heap.get, hg] at a1
  by_cases his : i = s
  ·subst his
   have a2' : g.box i = some k := a2
   rw [hf.1] at a2'; cases a2'
  ·simp only [Gh.addOwn, if_neg his] at a3
   exact ⟨a1, a2, a3⟩
end Go.Proofs.YtnoahchdmkpleaaGreat.VA

/-! Va6 -/
namespace Go.Proofs.YtnoahchdmkpleaaGreat.VA
open Go Go.RowKit

/-! ### memory -/
def aLoad (P : Program) (t : TypeId) (x : AV) (H : Heap) : Option (AV × List Nat) :=
 match tAgg P t with
 | some true =>
  match tSize P t, x with
  | some n, .ptr r off =>
   match H.get r with
   | some cs => if off + n ≤ cs.length then some (.agg ((cs.drop off).take n), [r]) else none
   | none => none
  | some n, .ep cs => if n ≤ cs.length then some (.agg (cs.take n), []) else none
  | _, _ => none
 | some false =>
  match x with
  | .ptr r off =>
   match H.get r with
   | some cs =>
    match cs[off]? with
    | some v => some (v, [r])
    | none => none
   | none => none
  | .ep cs =>
   match cs[0]? with
   | some v => some (v, [])
   | none => none
  | _ => none
 | none => none
def aStore (P : Program) (t : TypeId) (x v : AV) (H : Heap) : Option (List U) :=
 match tSize P t, x with
 | some n, .ptr r off =>
  match H.get r with
  | some cs => if v.cells.length = n ∧ off + n ≤ cs.length ∧ v.cells.all AV.one = true then some [.box r (cs.take off ++ (v.cells ++ cs.drop (off + n)))] else none
  | none => none
 | _, _ => none
def firstLen (n : Nat) : List (List AV) → Bool
 | [] => true
 | e :: _ => e.length == n
def zeroOk (P : Program) (e : TypeId) (n : Nat) : Bool :=
 match tZero P e with
 | some z => z.length == n
 | none => false
/-- A row cut into elements. -/
def chunk {α : Type} : Nat → Nat → List α → List (List α)
 | 0, _, _ => []
 | n + 1, sz, cs => cs.take sz :: chunk n sz (cs.drop sz)
/-- The news of an append to an array: cells, how many elements, what was read. -/
def newsA (sz : Nat) (H : Heap) : AV → Option (List AV × Nat × List Nat)
 | .sl _ xs => if (xs.all fun e => e.length == sz) = true then some (xs.flatten, xs.length, []) else none
 | .ar r lo m z =>
  match H.get r with
  | some cs => if z = sz ∧ (lo + m) * sz ≤ cs.length then some ((cs.drop (lo * sz)).take (m * sz), m, [r]) else none
  | none => none
 | _ => none
/-- Appending to an array, from its beginning on. -/
def aAppAr (P : Program) (e : TypeId) (sz by_ r n : Nat) (x : AV) (H : Heap) (id : Nat) : Option (AV × List U × List Nat) :=
 match newsA sz H x, H.get r with
 | some (ns, m, rs), some cs =>
  if 0 < m ∧ 0 < sz ∧ zeroOk P e sz = true ∧ (n + m) * by_ ≤ 140737488355328 ∧ n + m ≤ 140737488355328 ∧ n * sz ≤ cs.length ∧ ns.all AV.one = true then
   if (n + m) * sz ≤ cs.length then some (.ar r 0 (n + m) sz, [.box r (cs.take (n * sz) ++ (ns ++ cs.drop ((n + m) * sz)))], r :: rs)
   else some (.ar id 0 (n + m) sz, [.del r, .box id (cs.take (n * sz) ++ ns)], r :: rs)
  else if m = 0 then some (.ar r 0 n sz, [], r :: rs) else none
 | _, _ => none
def aAppend (P : Program) (t : TypeId) (s x : AV) (H : Heap) (id : Nat) : Option (AV × List U × List Nat) :=
 match tElem P t, s, x with
 | some (e, sz, by_), .ar r 0 n z, x => if z = sz then aAppAr P e sz by_ r n x H id else none
 | some (e, sz, by_), .sl o es, .sl _ xs =>
  match xs with
  | [] => some (.sl o es, [], [])
  | x0 :: xs' =>
   if x0.length = sz ∧ 0 < sz ∧ zeroOk P e sz = true ∧ (es.length + (xs'.length + 1)) * by_ ≤ 140737488355328 ∧ es.length + (xs'.length + 1) ≤ 140737488355328 then
    match o with
    | .nil =>
     if mutT e = true then
      if ((x0 :: xs').all fun e => e.length == sz) = true then some (.ar id 0 (xs'.length + 1) sz, [.box id (x0 :: xs').flatten], []) else none
     else some (.sl (.own id e sz) (es ++ sanLL (x0 :: xs')), [.live id true], [])
    | .ex => if firstLen sz es = true then some (.sl (.own id e sz) (es ++ sanLL (x0 :: xs')), [.live id true], []) else none
    | .own k e' sz' => if e' = e ∧ sz' = sz ∧ H.isLive k = true then some (.sl (.own id e sz) (es ++ sanLL (x0 :: xs')), [.live k false, .live id true], [k]) else none
    | .sh => none
   else none
 | _, _, _ => none
/-- clear, at an array. -/
def aClear (P : Program) (t : TypeId) (x : AV) (H : Heap) : Option (List U) :=
 match tElem P t, x with
 | some (e, sz, _), .ar r lo n z =>
  match H.get r, tZero P e with
  | some cs, some zs => if z = sz ∧ zs.length = sz ∧ zs.all AV.one = true ∧ (lo + n) * sz ≤ cs.length then some [.box r (cs.take (lo * sz) ++ ((List.replicate n zs).flatten ++ cs.drop ((lo + n) * sz)))] else none
  | _, _ => none
 | _, _ => none
def aBuildSlice (P : Program) (t : TypeId) (len : Nat) (ps : List (Nat × AV)) : Option AV :=
 match tElem P t with
 | some (e, sz, _) =>
  if len * sz ≤ 16777216 then
   match tZero P e with
   | some z =>
    if z.length = sz ∧ z.all AV.one = true then
     match aFill (fun i => some (i * sz, sz)) (List.replicate len z).flatten ps with
     | some cells => some (.sl .ex (chunk len sz cells))
     | none => none
    else none
   | none => none
  else none
 | none => none
/-- Are two keys the same? Whole numbers of a kind, and strings. -/
def kEq (d : TypeDesc) (x y : AV) : Option Bool :=
 match d, x, y with
 | .int k, .lit (.int k1 a), .lit (.int k2 b) => if k1 = k ∧ k2 = k then some (decide (a = b)) else none
 | .string, .lit (.string a), .lit (.string b) => some (strEq a b)
 | _, _, _ => none
def kFind (d : TypeDesc) (x : AV) : List AV → Option (Option Nat)
 | [] => some none
 | y :: l =>
  match kEq d x y with
  | some true => some (some 0)
  | some false => (kFind d x l).map (·.map (· + 1))
  | none => none
def tKey (P : Program) (t : TypeId) : Option (TypeDesc × TypeId) :=
 match P.underlying t with
 | some (.map k e) => (P.underlying k).map (·, e)
 | _ => none
def tZ1 (P : Program) (e : TypeId) : Option AV :=
 match (P.info? e).bind (·.zero) with
 | some (.agg vs) => some (.agg (vs.toList.map ofV))
 | some z => some (ofV z)
 | none => none
def okd (ok : Bool) (v : AV) (is : Bool) : AV := match ok with | true => .tup [v, .lit (.bool is)] | false => v
def aLookup (P : Program) (t : TypeId) (m k : AV) (ok : Bool) (H : Heap) : Option (AV × List Nat) :=
 match tKey P t, m with
 | some (d, e), .mp r =>
  match H.getM r with
  | some (ks, vs) =>
   if kEq d k k = some true then
    match kFind d k ks with
    | some (some i) => (vs[i]?).map fun v => (okd ok v true, [r])
    | some none => (tZ1 P e).map fun z => (okd ok z false, [r])
    | none => none
   else none
  | none => none
 | _, _ => none
def aMapSet (P : Program) (t : TypeId) (m k v : AV) (H : Heap) : Option (List U) :=
 match tKey P t, m with
 | some (d, _), .mp r =>
  match H.getM r with
  | some (ks, vs) =>
   if kEq d k k = some true then
    match kFind d k ks with
    | some (some i) => some [.map r ks (vs.set i v)]
    | some none => some [.map r (ks ++ [k]) (vs ++ [v])]
    | none => none
   else none
  | none => none
 | _, _ => none
/-- One operation. 'id': the number that it may give to what it makes. -/
def astep (P : Program) (ρ : Operand → AV) (H : Heap) (id : Nat) (op : Op) : Option Sr :=
 match op with
 | .alloc t =>
  match tZero P t with
  | some z => some (.val (.ptr id 0) [.box id z] [])
  | none => none
 | .box _ x => if (ρ x).cells.all AV.one = true then some (.val (.ptr id 0) [.box id (ρ x).cells] []) else none
 | .buildSlice t len ps => (aBuildSlice P t len (ps.toList.map fun p => (p.1, ρ p.2))).map fun v => .val v [] []
 | .load t x => (aLoad P t (ρ x) H).map fun r => .val r.1 [] r.2
 | .store t x v => (aStore P t (ρ x) (ρ v) H).map fun us => .val (.tup []) us []
 | .call { callee := .builtin .append, args, argTypes } =>
  match args.toList, argTypes.toList with
  | [s, x], [t, t'] => if t = t' then (aAppend P t (ρ s) (ρ x) H id).map fun r => .val r.1 r.2.1 r.2.2 else none
  | _, _ => none
 | .call { callee := .builtin .clear, args, argTypes } =>
  match args.toList, argTypes.toList with
  | [s], [t] => (aClear P t (ρ s) H).map fun us => .val (.tup []) us []
  | _, _ => none
 | .call { callee := .value f, args, .. } =>
  match ρ f with
  | .fn k caps => some (.call k (args.toList.map ρ ++ caps))
  | .bf k bs => some (.call k (bs ++ args.toList.map ρ))
  | _ => none
 | .panic x =>
  match ρ x with
  | .ifc t v => some (.pan (.ifc t v))
  | _ => none
 | .makeMap _ none => some (.val (.mp id) [.map id [] []] [])
 | .insert t m k v | .mapUpdate t m k v => (aMapSet P t (ρ m) (ρ k) (ρ v) H).map fun us => .val (.tup []) us []
 | .lookup t m k ok => (aLookup P t (ρ m) (ρ k) ok H).map fun r => .val r.1 [] r.2
 | op => (aPure P ρ op).map fun v => .val v [] []

/-- What is asked of a step's result. -/
def StepOk (P : Program) (g : Gh) (H : Heap) (w : World) (id : Nat) (o : Oper) (ρ' : Operand → Value) : Sr → Prop
 | .val v us _ => ∃ g' w' nx u, (execOp ρ' o).run P w = .ok nx w' ∧ (nx = .value u ∨ nx = .skip ∧ u = undef) ∧ Ext g w g' w' ∧ Inv g' (appU H us) w' ∧ Rel g' w' v u ∧
   (∀ r, r ≠ id → g'.box r = g.box r ∧ g'.own r = g.own r)
 | .call f args => ∃ vs : Array Value, (execOp ρ' o).run P w = (callFunc f vs).run P w ∧ RelL g w args vs.toList
 | .pan v => ∃ u, (execOp ρ' o).run P w = .halt (.panic u) w ∧ Rel g w v u

theorem StepOk.pure {P : Program} {g : Gh} {H : Heap} {w : World} {id : Nat} {o : Oper} {ρ' : Operand → Value} {v : AV} {rs : List Nat} (hi : Inv g H w)
  (h : ∃ u, (execOp ρ' o).run P w = .ok (.value u) w ∧ Rel g w v u) : StepOk P g H w id o ρ' (.val v [] rs) := by
 obtain ⟨u, h1, h2⟩ := h
 exact ⟨g, w, _, u, h1, .inl rfl, Ext.refl g w, hi, h2, fun _ _ => ⟨rfl, rfl⟩⟩

theorem loadVar_agg {P : Program} {g : Gh} {w : World} {t : TypeId} {n b off : Nat} {cs : List AV} {f : Nat → Value} (ha : tAgg P t = some true) (hs : tSize P t = some n) (hl : cs.length = n)
  (hc : ∀ k, k < n → w.cell? ⟨b, off + k, none⟩ = some (f k)) (hr : ∀ j x, cs[j]? = some x → Rel g w x (f j)) :
  ∃ u, (loadVar t ⟨b, off, none⟩).run P w = .ok u w ∧ Rel g w (.agg cs) u := by
 refine ⟨.agg ((List.range n).map f).toArray, ?_, ?_⟩
 ·simp only [loadVar, Sem.run_bind, tAgg_run ha, Result.andThen_ok, if_true, tSize_run hs]
  rw [run_loadCells w ⟨b, off, none⟩ n f (fun j hj => by rw [addr_add]; exact hc j hj)]
  rfl
 ·refine Rel.mk_agg ⟨by simp [hl], fun i x v hx hv => ?_⟩
  simp [List.getElem?_map] at hv
  obtain ⟨a, ha', rfl⟩ := hv
  have : a = i := by
   rw [List.getElem?_range] at ha'
   ·simpa using ha'.symm
   ·exact (by have := (List.getElem?_eq_some_iff.1 ha').1; simpa using this)
  subst this
  exact hr _ x hx

theorem aLoad_sound {P : Program} {g : Gh} {H : Heap} {w : World} {t : TypeId} {x z : AV} {v : Value} {rs : List Nat} (h : aLoad P t x H = some (z, rs)) (hi : Inv g H w) (hx : Rel g w x v) :
  ∃ u, (Instr.loadAt t v).run P w = .ok u w ∧ Rel g w z u := by
 unfold aLoad at h
 split at h
 ·rename_i ha
  split at h
  ·rename_i n r off hs
   split at h
   ·rename_i cs hcs
    split at h
    ·rename_i hle
     simp only [Option.some.injEq, Prod.mk.injEq] at h
     obtain ⟨rfl, rfl⟩ := h
     cases hx with
     | ptr r off b hb =>
      obtain ⟨b', vs, t', h1, h2, h3⟩ := hi.boxE hcs hb
      rw [hb] at h1
      simp at h1; subst h1
      have hlen : cs.length ≤ vs.size := by have := h3.1; simp only [List.length_take, Array.length_toList] at this; exact this ▸ Nat.min_le_right _ _
      have := loadVar_agg (P := P) (g := g) (w := w) (b := b) (off := off) (cs := (cs.drop off).take n) (f := fun k => vs.getD (off + k) undef) ha hs (by simp; omega)
       (fun k hk => by rw [cell_of_row w b (off + k) vs t' (0, 0) h2]; simp [show off + k < vs.size by omega])
       (fun j x hx => by
        rw [List.getElem?_take] at hx
        split at hx
        ·rw [List.getElem?_drop] at hx
         exact h3.2 (off + j) x _ hx (by rw [List.getElem?_take_of_lt (by omega)]; simp [show off + j < vs.size by omega])
        ·cases hx)
      simpa [Instr.loadAt, Instr.sureAddr] using this
    ·cases h
   ·cases h
  ·rename_i n cs hs
   split at h
   ·rename_i hle
    simp only [Option.some.injEq, Prod.mk.injEq] at h
    obtain ⟨rfl, rfl⟩ := h
    cases hx with
    | ep cs b off f hv hc hr =>
     have := loadVar_agg (P := P) (g := g) (w := w) (b := b) (off := off) (cs := cs.take n) (f := f) ha hs (by simp; omega) (fun k hk => hc k (by omega))
      (fun j x hx => by
       rw [List.getElem?_take] at hx
       split at hx
       ·exact hr j x hx
       ·cases hx)
     simpa [Instr.loadAt, Instr.sureAddr] using this
   ·cases h
  ·cases h
 ·rename_i ha
  split at h
  ·rename_i r off
   split at h
   ·rename_i cs hcs
    split at h
    ·rename_i y hy
     simp only [Option.some.injEq, Prod.mk.injEq] at h
     obtain ⟨rfl, rfl⟩ := h
     cases hx with
     | ptr r off b hb =>
      obtain ⟨b', vs, t', h1, h2, h3⟩ := hi.boxE hcs hb
      rw [hb] at h1
      simp at h1; subst h1
      have hlt : off < vs.size := by
       have := (List.getElem?_eq_some_iff.1 hy).1
       have hlen : cs.length ≤ vs.size := by have := h3.1; simp only [List.length_take, Array.length_toList] at this; exact this ▸ Nat.min_le_right _ _
       omega
      refine ⟨vs[off], ?_, h3.2 off _ _ hy (by rw [List.getElem?_take_of_lt (List.getElem?_eq_some_iff.1 hy).1]; simp [hlt])⟩
      have hcell : w.cell? ⟨b, off, none⟩ = some vs[off] := by rw [cell_of_row w b off vs t' (0, 0) h2]; simp [hlt]
      simp [Instr.loadAt, Instr.sureAddr, loadVar, tAgg_run ha, hcell]
    ·cases h
   ·cases h
  ·rename_i cs
   split at h
   ·rename_i y hy
    simp only [Option.some.injEq, Prod.mk.injEq] at h
    obtain ⟨rfl, rfl⟩ := h
    cases hx with
    | ep cs b off f hv hc hr =>
     have hlt : 0 < cs.length := (List.getElem?_eq_some_iff.1 hy).1
     refine ⟨f 0, ?_, hr 0 _ hy⟩
     have hcell : w.cell? ⟨b, off, none⟩ = some (f 0) := by have := hc 0 hlt; simpa using this
     simp [Instr.loadAt, Instr.sureAddr, loadVar, tAgg_run ha, hcell]
   ·cases h
  ·cases h
 ·cases h

theorem RelL.one {g : Gh} {w : World} {cs : List AV} {vs : List Value} (h : RelL g w cs vs) (ho : cs.all AV.one = true) : ∀ u, u ∈ vs → u.oneCell' = true := by
 intro u hu
 obtain ⟨i, hi, rfl⟩ := List.getElem_of_mem hu
 have hi' : i < cs.length := by rw [h.1]; exact hi
 have := h.2 i cs[i] vs[i] (by simp [hi']) (by simp [hi])
 exact this.one (List.all_eq_true.1 ho _ (List.getElem_mem hi'))

theorem aStore_sound {P : Program} {g : Gh} {H : Heap} {w : World} {t : TypeId} {x z : AV} {u v : Value} {us : List U} (h : aStore P t x z H = some us) (hi : Inv g H w) (hx : Rel g w x u) (hz : Rel g w z v) :
  ∃ w', (Instr.storeAt t u v).run P w = .ok () w' ∧ Ext g w g w' ∧ Inv g (appU H us) w' := by
 unfold aStore at h
 split at h
 ·rename_i n r off hs
  split at h
  ·rename_i cs hcs
   split at h
   ·rename_i hc
    obtain ⟨hl, hle, hone⟩ := hc
    simp only [Option.some.injEq] at h
    subst h
    cases hx with
    | ptr r off b hb =>
     obtain ⟨b', vs, t', h1, h2, h3⟩ := hi.boxE hcs hb
     rw [hb] at h1
     simp at h1; subst h1
     have hlen : cs.length ≤ vs.size := by have := h3.1; simp only [List.length_take, Array.length_toList] at this; exact this ▸ Nat.min_le_right _ _
     have hv := hz.cells hone
     have hvs : v.cells.size = n := by have := hv.1; simp at this; omega
     have hst := run_storeCells_at P b off t' v.cells.toList 0 vs w h2 (by simp; omega) (hv.one hone)
     simp only [Nat.add_zero, Array.length_toList, hvs] at hst
     have hzl : (cs.take off ++ (z.cells ++ cs.drop (off + n))).length = cs.length := by
      simp only [List.length_append, List.length_take, List.length_drop]; omega
     have hrel : RelL g w (cs.take off ++ (z.cells ++ cs.drop (off + n))) ((vs.toList.take off ++ v.cells.toList ++ vs.toList.drop (off + n)).toArray.toList.take (cs.take off ++ (z.cells ++ cs.drop (off + n))).length) := by
      rw [hzl]
      have e1 : (vs.toList.take off ++ v.cells.toList ++ vs.toList.drop (off + n)).toArray.toList.take cs.length = (vs.toList.take cs.length).take off ++ (v.cells.toList ++ (vs.toList.take cs.length).drop (off + n)) := by
       simp only [List.append_assoc]
       rw [List.take_append, List.take_append, List.take_take, List.take_take, List.length_take, List.drop_take]
       have q1 : v.cells.toList.take (cs.length - min off vs.toList.length) = v.cells.toList := List.take_of_length_le (by simp; omega)
       rw [q1]
       congr 1
       ·congr 1; omega
       ·congr 2; simp; omega
      rw [e1]
      exact (h3.take off).append (hv.append (h3.drop (off + n)))
     obtain ⟨he, hinv⟩ := inv_store hi hcs hb h2 (by simp; omega) hrel
     refine ⟨_, ?_, he, hinv⟩
     simp only [Instr.storeAt, Instr.sureAddr, storeVar, Sem.run_bind, Sem.run_pure, Result.andThen_ok, tSize_run hs]
     rw [if_neg (by simp [hvs])]
     exact hst
   ·cases h
  ·cases h
 ·cases h
end Go.Proofs.YtnoahchdmkpleaaGreat.VA

/-! Va7 -/
namespace Go.Proofs.YtnoahchdmkpleaaGreat.VA
open Go Go.RowKit

theorem chunk_get {α : Type} (sz : Nat) : ∀ (n : Nat) (cs : List α) (i : Nat) (e : List α), (chunk n sz cs)[i]? = some e → i < n ∧ e = (cs.drop (i * sz)).take sz
 | 0, cs, i, e, h => by simp [chunk] at h
 | n + 1, cs, 0, e, h => by simp [chunk] at h; exact ⟨by omega, by simp [h]⟩
 | n + 1, cs, i + 1, e, h => by
  simp only [chunk, List.getElem?_cons_succ] at h
  obtain ⟨h1, h2⟩ := chunk_get sz n (cs.drop sz) i e h
  refine ⟨by omega, ?_⟩
  rw [h2, List.drop_drop, Nat.add_mul, Nat.one_mul, Nat.add_comm]
theorem chunk_length {α : Type} (sz : Nat) : ∀ (n : Nat) (cs : List α), (chunk n sz cs).length = n
 | 0, _ => rfl
 | n + 1, cs => by simp [chunk, chunk_length sz n]
theorem flat_get {α : Type} (z : List α) (sz : Nat) (hz : z.length = sz) : ∀ (len i : Nat), i < len * sz → (List.replicate len z).flatten[i]? = z[i % sz]?
 | 0, i, h => by simp at h
 | len + 1, i, h => by
  rw [List.replicate_succ, List.flatten_cons]
  by_cases hi : i < sz
  ·rw [List.getElem?_append_left (by omega), Nat.mod_eq_of_lt hi]
  ·have h' : i - sz < len * sz := by rw [Nat.add_mul] at h; omega
   have e := Nat.mod_eq_sub_mod (show i ≥ sz by omega)
   rw [List.getElem?_append_right (by omega), hz, flat_get z sz hz len (i - sz) h', e]
theorem flat_length {α : Type} (z : List α) (sz : Nat) (hz : z.length = sz) : ∀ (len : Nat), (List.replicate len z).flatten.length = len * sz
 | 0 => by simp
 | len + 1 => by rw [List.replicate_succ, List.flatten_cons, List.length_append, flat_length z sz hz len, hz, Nat.add_mul]; omega
theorem aFill_one {place : Nat → Option (Nat × Nat)} : ∀ (ps : List (Nat × AV)) (cells res : List AV), aFill place cells ps = some res → cells.all AV.one = true → res.all AV.one = true ∧ res.length = cells.length
 | [], cells, res, h, hc => by simp [aFill] at h; subst h; exact ⟨hc, rfl⟩
 | (i, v) :: ps, cells, res, h, hc => by
  simp only [aFill] at h
  split at h
  ·cases h
  ·rename_i off size hpl
   split at h
   ·rename_i hcond
    obtain ⟨h1, h2, h3⟩ := hcond
    have hall : ∀ x, x ∈ cells → x.one = true := List.all_eq_true.1 hc
    obtain ⟨r1, r2⟩ := aFill_one ps _ res h (by
     rw [List.all_append, List.all_append, h3]
     simp only [Bool.true_and, Bool.and_eq_true, List.all_eq_true]
     exact ⟨fun x hx => hall x (List.mem_of_mem_take hx), fun x hx => hall x (List.mem_of_mem_drop hx)⟩)
    refine ⟨r1, ?_⟩
    rw [r2]
    simp
    omega
   ·cases h
theorem aBuildSlice_sound {P : Program} {g : Gh} {H : Heap} {w : World} {t : TypeId} {len : Nat} {ps : List (Nat × AV)} {qs : Array (Nat × Value)} {z : AV}
  (h : aBuildSlice P t len ps = some z) (hi : Inv g H w) (hp : Parts g w ps qs.toList) :
  ∃ g' w' u, (Instr.buildSlice t len qs).run P w = .ok u w' ∧ Ext g w g' w' ∧ Inv g' H w' ∧ Rel g' w' z u ∧ g'.box = g.box ∧ g'.own = g.own := by
 unfold aBuildSlice at h
 split at h
 ·rename_i e sz by_ het
  obtain ⟨hu, i, hinfo, hsz, _⟩ := tElem_spec het
  have hsize : (sizeOf e).run P w = .ok sz w := by simp [sizeOf, typeInfo, hinfo, hsz]
  split at h
  ·rename_i hle
   split at h
   ·rename_i z0 hz
    split at h
    ·rename_i hzc
     obtain ⟨hz1, hz2⟩ := hzc
     split at h
     ·rename_i cells hf
      simp only [Option.some.injEq] at h
      subst h
      obtain ⟨zv, i', hzr, hi', hiz, hrel⟩ := tZero_run hz g w
      have hzl : zv.cells.size = sz := by have := hrel.1; simp at this; omega
      have hinit : ∀ zero : Array Value, (len * sz ≠ 0 → zero = zv.cells) → RelL g w (List.replicate len z0).flatten ((Array.range (len * sz)).map (zero[· % zero.size]!)).toList := by
       intro zero hzero
       refine ⟨by rw [flat_length z0 sz hz1]; simp, fun k x v hx hv => ?_⟩
       have hk : k < len * sz := by
        have := (List.getElem?_eq_some_iff.1 hv).1
        simpa using this
       have hz' := hzero (by omega)
       subst hz'
       have hpos : 0 < sz := by
        rcases Nat.eq_zero_or_pos sz with h0 | h0
        ·subst h0; simp at hk
        ·exact h0
       rw [flat_get z0 sz hz1 len k hk] at hx
       have hmod : k % sz < zv.cells.size := by rw [hzl]; exact Nat.mod_lt _ hpos
       have hv' : v = zv.cells[k % sz] := by
        simp [hzl, hk] at hv
        rw [← hv]
        simp [hmod]
       subst hv'
       exact hrel.2 _ x _ hx (by simp [hmod])
      have hcase : ∃ zero : Array Value, (len * sz = 0 ∧ zero = #[] ∨ len * sz ≠ 0 ∧ zero = zv.cells) ∧ (len * sz ≠ 0 → zero = zv.cells) := by
       by_cases h0 : len * sz = 0
       ·exact ⟨#[], .inl ⟨h0, rfl⟩, fun hh => absurd h0 hh⟩
       ·exact ⟨zv.cells, .inr ⟨h0, rfl⟩, fun _ => rfl⟩
      obtain ⟨zero, hzrun, hzeq⟩ := hcase
      obtain ⟨cs', hfill, hr, hcs⟩ := aFill_sound _ _ _ _ _ hf hp (hinit zero hzeq)
      obtain ⟨hone, hlen⟩ := aFill_one _ _ _ hf (by
       rw [List.all_flatten]
       simp only [List.all_eq_true]
       intro l hl
       rw [List.eq_of_mem_replicate hl]
       exact List.all_eq_true.1 hz2)
      have hcl : cs'.size = len * sz := by rw [hcs]; simp
      obtain ⟨he, hinv⟩ := inv_see hi (.cells cs' e) (len * sz)
      have hr' := hr.ext he
      refine ⟨_, _, .slice (some ⟨w.heap.size, 0, none⟩) len len, ?_, he, hinv, ?_, rfl, rfl⟩
      ·unfold Instr.buildSlice
       simp only [Sem.run_bind, run_underlying hu, Result.andThen_ok, hsize]
       rw [if_neg (by simp; omega)]
       rcases hzrun with ⟨h0, rfl⟩ | ⟨h0, rfl⟩
       ·rw [if_pos h0]
        simp only [Sem.run_bind, Sem.run_pure, Result.andThen_ok, hfill, newRow, run_newObj]
        rfl
       ·rw [if_neg h0]
        simp only [Sem.run_bind, hzr, Sem.run_pure, Result.andThen_ok, hfill, newRow, run_newObj]
        rfl
      ·refine .sl .ex _ _ len len sz (fun k => cs'.getD k undef) (by simp) (chunk_length sz len cells) (Nat.le_refl _) (fun _ => rfl) (by simp) ?_ ?_ ?_ ?_
       ·intro x hx
        obtain ⟨k, hk, rfl⟩ := List.getElem_of_mem hx
        obtain ⟨h1, h2⟩ := chunk_get sz len cells k _ (List.getElem?_eq_getElem hk)
        rw [h2]
        have := Nat.mul_le_mul_right sz (show k + 1 ≤ len by omega)
        rw [Nat.add_mul] at this
        have hcc := hlen
        rw [flat_length z0 sz hz1] at hcc
        simp
        omega
       ·intro k hk
        refine hr.one hone _ ?_
        simp [show k < cs'.size by omega]
       ·intro _
        refine ⟨w.heap.size, 0, rfl, by simp [Gh.see], fun k hk => ?_⟩
        have : k < cs'.size := by omega
        simp [this]
       ·intro k el j x hel hx
        obtain ⟨h1, h2⟩ := chunk_get sz len cells k el hel
        subst h2
        rw [List.getElem?_take] at hx
        split at hx
        ·rw [List.getElem?_drop] at hx
         have hb := Nat.mul_le_mul_right sz (show k + 1 ≤ len by omega)
         rw [Nat.add_mul] at hb
         exact hr'.2 _ x _ hx (by simp [show k * sz + j < cs'.size by omega])
        ·cases hx
     ·cases h
    ·cases h
   ·cases h
  ·cases h
 ·cases h
end Go.Proofs.YtnoahchdmkpleaaGreat.VA

/-! Va8a -/
namespace Go.Proofs.YtnoahchdmkpleaaGreat.VA
open Go Go.RowKit
set_option linter.unusedSimpArgs false

theorem run_append_zero {P : Program} {w : World} {t e : TypeId} (ty : TypeId) {sz : Nat} (hu : P.underlying t = some (.slice e)) (hs : (sizeOf e).run P w = .ok sz w)
  {a a' : Option Addr} {n cap c' : Nat} (hc : n ≤ cap) : (Builtin.append_ #[t, t] ty #[.slice a n cap, .slice a' 0 c']).run P w = .ok (.slice a n cap) w := by
 have h1 : (Builtin.firstCells sz 0 (.slice a' 0 c')).run P w = .ok #[] w := by
  cases a' <;> simp [Builtin.firstCells, loadCells, loadCellsFrom]
 cases a <;> simp [Builtin.append_, run_underlying hu, hs, Builtin.lenOf, hc, h1, storeCells]
theorem zeroOk_spec {P : Program} {e : TypeId} {sz : Nat} (h : zeroOk P e sz = true) : ∃ i z, P.info? e = some i ∧ i.zero = some z ∧ z.cells.size = sz := by
 unfold zeroOk at h
 split at h
 ·rename_i z hz
  unfold tZero at hz
  cases hi : P.info? e with
  | none => simp [hi] at hz
  | some i =>
   cases hiz : i.zero with
   | none => simp [hi, hiz] at hz
   | some zv =>
    simp [hi, hiz] at hz
    refine ⟨i, zv, rfl, hiz, ?_⟩
    subst hz
    simpa using h
 ·cases h

/-- The news of an append, as a list. -/
theorem news_of {g : Gh} {w : World} {o : Own} {xs : List (List AV)} {v : Value} (h : Rel g w (.sl o xs) v) (hne : xs ≠ []) :
  ∃ ad cap sz f, v = .slice (some ad) xs.length cap ∧ (∀ x, x ∈ xs → x.length = sz) ∧ (∀ j u, ((List.range (xs.length * sz)).map f)[j]? = some u → w.cell? (ad.add j) = some u) ∧
   (∀ k, k < xs.length * sz → (f k).oneCell' = true) ∧ (∀ (i : Nat) (el : List AV) (j : Nat) (x : AV), xs[i]? = some el → el[j]? = some x → Rel g w x (f (i * sz + j))) := by
 cases h with
 | nil => exact absurd rfl hne
 | sl o es a n cap sz f ho hn hcap hex hown hsz hone ha hr =>
  subst hn
  obtain ⟨b, off, rfl, hv, hc⟩ := ha (fun h => hne (List.length_eq_zero_iff.1 h))
  refine ⟨⟨b, off, none⟩, cap, sz, f, rfl, hsz, ?_, hone, hr⟩
  intro j u hu
  rw [addr_add]
  simp only [List.getElem?_map, Option.map_eq_some_iff] at hu
  obtain ⟨a, h1, rfl⟩ := hu
  have hj : j < xs.length * sz := by have := (List.getElem?_eq_some_iff.1 h1).1; simpa using this
  rw [List.getElem?_range hj] at h1
  simp at h1; subst h1
  exact hc j hj
theorem relL_flatten {g : Gh} {w : World} {sz : Nat} : ∀ (xs : List (List AV)) (f : Nat → Value), (∀ x, x ∈ xs → x.length = sz) →
  (∀ (i : Nat) (el : List AV) (j : Nat) (x : AV), xs[i]? = some el → el[j]? = some x → Rel g w x (f (i * sz + j))) → RelL g w xs.flatten ((List.range (xs.length * sz)).map f)
 | [], f, _, _ => by simpa using RelL.nil g w
 | e :: xs, f, hl, hr => by
  have he := hl e (List.mem_cons_self ..)
  have h1 : RelL g w e ((List.range sz).map f) := by
   refine ⟨by simp [he], fun j x v hx hv => ?_⟩
   have hj : j < sz := by rw [← he]; exact (List.getElem?_eq_some_iff.1 hx).1
   rw [List.getElem?_map, List.getElem?_range hj] at hv
   simp at hv; subst hv
   have := hr 0 e j x rfl hx
   simpa using this
  have h2 := relL_flatten xs (fun k => f (sz + k)) (fun x hx => hl x (List.mem_cons_of_mem _ hx)) (fun i el j x hel hx => by
   have := hr (i + 1) el j x (by simpa using hel) hx
   rw [Nat.add_mul, Nat.one_mul] at this
   have e : i * sz + sz + j = sz + (i * sz + j) := by omega
   rw [e] at this; exact this)
  have e3 : (List.range ((e :: xs).length * sz)).map f = (List.range sz).map f ++ (List.range (xs.length * sz)).map (fun k => f (sz + k)) := by
   rw [List.length_cons, Nat.add_mul, Nat.one_mul, Nat.add_comm, List.range_add, List.map_append, List.map_map]; rfl
  rw [List.flatten_cons, e3]
  exact h1.append h2
theorem newsA_spec {g : Gh} {H : Heap} {w : World} {x : AV} {v : Value} {sz m : Nat} {ns : List AV} {rs : List Nat} (h : newsA sz H x = some (ns, m, rs)) (hi : Inv g H w) (hx : Rel g w x v) :
  (∃ a cx, v = .slice a m cx) ∧ (0 < m → ∃ ad cx nv, v = .slice (some ad) m cx ∧ nv.length = m * sz ∧ (∀ j u, nv[j]? = some u → w.cell? (ad.add j) = some u) ∧ RelL g w ns nv) := by
 unfold newsA at h
 split at h
 ·rename_i o xs
  split at h
  ·rename_i hall
   simp only [Option.some.injEq, Prod.mk.injEq] at h
   obtain ⟨rfl, rfl, rfl⟩ := h
   obtain ⟨a, cap, rfl, _⟩ := hx.sl_inv
   refine ⟨⟨a, cap, rfl⟩, fun h0 => ?_⟩
   have hl : ∀ e, e ∈ xs → e.length = sz := fun e he => by simpa using List.all_eq_true.1 hall e he
   obtain ⟨ad, c2, sz2, f, h1, h2, h3, h4, h5⟩ := news_of hx (fun e => by subst e; simp at h0)
   have hs2 : sz2 = sz := by
    cases xs with
    | nil => simp at h0
    | cons e l => rw [← hl e (List.mem_cons_self ..), h2 e (List.mem_cons_self ..)]
   subst hs2
   exact ⟨ad, c2, _, h1, by simp, h3, relL_flatten xs f hl h5⟩
  ·cases h
 ·rename_i r lo m' z
  split at h
  ·rename_i cs hcs
   split at h
   ·rename_i hc
    obtain ⟨rfl, hle⟩ := hc
    simp only [Option.some.injEq, Prod.mk.injEq] at h
    obtain ⟨rfl, rfl, rfl⟩ := h
    obtain ⟨b, cap, m0, off, c, e1, rfl, hbx, hown, hmc, hcc, hoff⟩ := hx.ar_inv
    refine ⟨⟨_, _, rfl⟩, fun h0 => ?_⟩
    have ho := hoff (by omega)
    subst ho
    obtain ⟨b', vs, t, q1, q2, q3⟩ := hi.boxE hcs hbx
    rw [hbx] at q1
    simp at q1; subst q1
    have hcl : cs.length ≤ vs.toList.length := by have := q3.1; rw [List.length_take] at this; omega
    have hadd := Nat.add_mul lo m' z
    refine ⟨⟨b, lo * z, none⟩, c, (vs.toList.drop (lo * z)).take (m' * z), rfl, by rw [List.length_take, List.length_drop]; omega, ?_, ?_⟩
    ·intro j u hu
     rw [addr_add, cell_of_row w b (lo * z + j) vs t (0, 0) q2]
     rw [List.getElem?_take] at hu
     split at hu
     ·rw [List.getElem?_drop, Array.getElem?_toList] at hu; exact hu
     ·cases hu
    ·have := (q3.drop (lo * z)).take (m' * z)
     rw [List.drop_take, List.take_take, Nat.min_eq_left (by omega)] at this
     exact this
   ·cases h
  ·cases h
 ·cases h
theorem run_append_room2 {P : Program} {w : World} (t ty e t' : TypeId) (i : TypeInfo) (ht : P.underlying t = some (.slice e)) (hi : P.info? e = some i)
  (g sLen sCap : Nat) (cur : Array Value) (hg : w.heap[g]? = some (.cells cur t' (0, 0)))
  (a : Addr) (m c : Nat) (news : List Value) (hl : news.length = m * i.size) (hnews : ∀ j u, news[j]? = some u → w.cell? (a.add j) = some u) (h1 : ∀ u ∈ news, u.oneCell' = true)
  (hroom : sLen + m ≤ sCap) (hfit : sLen * i.size + news.length ≤ cur.size) :
  (Builtin.append_ #[t, t] ty #[.slice (some ⟨g, 0, none⟩) sLen sCap, .slice (some a) m c]).run P w =
   .ok (.slice (some ⟨g, 0, none⟩) (sLen + m) sCap) (w.setRow g (cur.toList.take (sLen * i.size) ++ news ++ cur.toList.drop (sLen * i.size + news.length)).toArray) := by
 have hf := run_firstCells_some (P := P) w i.size m a m c news hl hnews
 have hst := run_storeCells_at P g (sLen * i.size) t' news 0 cur w hg (by simpa using hfit) h1
 simp only [Nat.add_zero] at hst
 simp [Builtin.append_, run_underlying ht, sizeOf, typeInfo, hi, Builtin.lenOf, hroom, hf, Addr.add_lit, hst]
theorem relL_one {g : Gh} {w : World} {cs : List AV} {vs : List Value} (h : RelL g w cs vs) (ho : cs.all AV.one = true) : ∀ u, u ∈ vs → u.oneCell' = true := by
 intro u hu
 obtain ⟨i, hi, rfl⟩ := List.getElem_of_mem hu
 have hi' : i < cs.length := by rw [h.1]; exact hi
 have := h.2 i cs[i] vs[i] (by simp [hi']) (by simp [hi])
 exact this.one (List.all_eq_true.1 ho _ (List.getElem_mem hi'))
/-- A new array, behind an append that moved. -/
theorem arr_grow {g : Gh} {H : Heap} {w : World} (hi : Inv g H w) {id n m sz cap old : Nat} {e : TypeId} {zv : Value} (hf : Fresh g H id) {os ns : List AV} {ov nv : List Value} (ho : RelL g w os ov) (hn : RelL g w ns nv)
  (hol : ov.length = n * sz) (hnl : nv.length = m * sz) (hz : zv.cells.size = sz) (hle : n + m ≤ 140737488355328) (hcap : cap = grownCap w (n + m) old e) :
  ∃ g', Ext g w g' (w.drew.alloc (.cells (ov.toArray ++ nv.toArray ++ Builtin.zeroCells zv.cells (cap - (n + m))) e)) ∧
   Inv g' (H.put id (os ++ ns)) (w.drew.alloc (.cells (ov.toArray ++ nv.toArray ++ Builtin.zeroCells zv.cells (cap - (n + m))) e)) ∧
   Rel g' (w.drew.alloc (.cells (ov.toArray ++ nv.toArray ++ Builtin.zeroCells zv.cells (cap - (n + m))) e)) (.ar id 0 (n + m) sz) (.slice (some ⟨w.heap.size, 0, none⟩) (n + m) cap) ∧
   ∀ r, r ≠ id → g'.box r = g.box r ∧ g'.own r = g.own r := by
 have hge := grownCap_ge w (n + m) old e
 have hmax : maxLen = 9223372036854775807 := rfl
 have hcm := grownCap_le_maxLen w (n + m) old e (by rw [hmax]; omega)
 rw [← hcap] at hge hcm
 obtain ⟨hd1, hd2⟩ := hi.drew
 have hvs : (ov.toArray ++ nv.toArray ++ Builtin.zeroCells zv.cells (cap - (n + m))).size = cap * sz := by
  simp only [Array.size_append, List.size_toArray, size_zeroCells, hz, hol, hnl, ← Nat.add_mul]
  congr 1
  omega
 have hrel : RelL g w.drew (os ++ ns) ((ov.toArray ++ nv.toArray ++ Builtin.zeroCells zv.cells (cap - (n + m))).toList.take (os ++ ns).length) := by
  have e1 : (ov.toArray ++ nv.toArray ++ Builtin.zeroCells zv.cells (cap - (n + m))).toList.take (os ++ ns).length = ov ++ nv := by
   have : (os ++ ns).length = (ov ++ nv).length := by rw [List.length_append, List.length_append, ho.1, hn.1]
   rw [this]
   simp only [Array.toList_append]
   exact List.take_left
  rw [e1]
  exact (ho.append hn).ext hd1
 obtain ⟨he, hinv⟩ := inv_arrNew (m := n + m) (sz := sz) (e := e) hd2 hf hcm hvs hrel
 rw [World.size_drew] at he hinv
 exact ⟨_, hd1.trans he, hinv, .ar id 0 (n + m) sz w.heap.size cap (n + m) 0 cap e (Gh.addArr_box ..) (Gh.addArr_own ..) hge (by omega) (fun _ => by omega), fun r hr => Gh.addArr_ne g id _ _ hr⟩
theorem Fresh.del {g : Gh} {H : Heap} {r : Nat} (h : Fresh g H r) (k : Nat) : Fresh g (H.del k) r := by
 exact h
theorem aAppAr_sound {P : Program} {g : Gh} {H : Heap} {w : World} {t e : TypeId} {sz by_ r n : Nat} (ty : TypeId) {x z : AV} {u v : Value} {us : List U} {rs : List Nat} {id : Nat} (het : tElem P t = some (e, sz, by_))
  (h : aAppAr P e sz by_ r n x H id = some (z, us, rs)) (hi : Inv g H w) (hf : Fresh g H id) (hs : Rel g w (.ar r 0 n sz) u) (hx : Rel g w x v) :
  ∃ g' w' q, (Builtin.append_ #[t, t] ty #[u, v]).run P w = .ok q w' ∧ Ext g w g' w' ∧ Inv g' (appU H us) w' ∧ Rel g' w' z q ∧ (∀ r, r ≠ id → g'.box r = g.box r ∧ g'.own r = g.own r) := by
 obtain ⟨hu, i, hinfo, hsz, hby⟩ := tElem_spec het
 have hsize : (sizeOf e).run P w = .ok sz w := by simp [sizeOf, typeInfo, hinfo, hsz]
 unfold aAppAr at h
 split at h
 ·rename_i ns m rs0 cs hnw hcs
  obtain ⟨⟨a', c', hv⟩, hnews⟩ := newsA_spec hnw hi hx
  have hs0 := hs
  obtain ⟨b, cap, m0, off, c, e1, rfl, hbx, hown, hnc, hcc, hoff⟩ := hs.ar_inv
  split at h
  ·rename_i hcond
   obtain ⟨h0, hpos, hzok, hbytes, hlen, hnl, hone⟩ := hcond
   obtain ⟨i', zv, hinfo', hiz, hzsz⟩ := zeroOk_spec hzok
   rw [hinfo] at hinfo'
   simp only [Option.some.injEq] at hinfo'
   subst hinfo'
   obtain ⟨ad, cx, nv, rfl, hnvl, hnvc, hnr⟩ := hnews h0
   obtain ⟨b', vs, t', q1, q2, q3⟩ := hi.boxE hcs hbx
   rw [hbx] at q1
   simp at q1; subst q1
   obtain ⟨ha1, us0, ha2, ha3⟩ := hi.arr r b m0 cap e1 sz (by rw [hcs]; rfl) hbx hown
   rw [q2] at ha2
   simp only [Option.some.injEq, Obj.cells.injEq] at ha2
   obtain ⟨rfl, rfl, _⟩ := ha2
   have hcl : cs.length ≤ vs.toList.length := by have := q3.1; rw [List.length_take] at this; omega
   have hvl : vs.toList.length = cap * sz := by simpa using ha3
   have hadd := Nat.add_mul n m sz
   have hnsl : ns.length = m * sz := by rw [hnr.1, hnvl]
   have room : n + m ≤ c → off = 0 ∧ (Builtin.append_ #[t, t] ty #[.slice (some ⟨b, 0, none⟩) n c, .slice (some ad) m cx]).run P w =
     .ok (.slice (some ⟨b, 0, none⟩) (n + m) c) (w.setRow b (vs.toList.take (n * sz) ++ nv ++ vs.toList.drop ((n + m) * sz)).toArray) ∧
     (vs.toList.take (n * sz) ++ nv ++ vs.toList.drop ((n + m) * sz)).toArray.size = vs.size := by
    intro hr
    have ho := hoff (by omega)
    have hm2 := Nat.mul_le_mul_right sz (show n + m ≤ cap by omega)
    have := run_append_room2 (w := w) t ty e t' i hu hinfo b n c vs q2 ad m cx nv (by rw [hsz]; exact hnvl) hnvc (relL_one hnr hone) hr (by rw [hsz, hnvl]; simp at hvl; omega)
    rw [hsz, hnvl, ← hadd] at this
    refine ⟨by omega, this, ?_⟩
    simp only [List.size_toArray, List.length_append, List.length_take, List.length_drop]
    simp at hvl ⊢
    omega
   split at h
   ·rename_i hin
    simp only [Option.some.injEq, Prod.mk.injEq] at h
    obtain ⟨rfl, rfl, rfl⟩ := h
    have hncap : n + m ≤ c := by
     have h1 : (n + m) * sz ≤ cap * sz := by omega
     have := Nat.le_of_mul_le_mul_right h1 hpos
     omega
    obtain ⟨ho, hrun, hsz2⟩ := room hncap
    subst ho
    generalize hvs' : (vs.toList.take (n * sz) ++ nv ++ vs.toList.drop ((n + m) * sz)).toArray = vs' at hrun hsz2
    have hzl : (cs.take (n * sz) ++ (ns ++ cs.drop ((n + m) * sz))).length = cs.length := by
     simp only [List.length_append, List.length_take, List.length_drop]; omega
    have hrel : RelL g w (cs.take (n * sz) ++ (ns ++ cs.drop ((n + m) * sz))) (vs'.toList.take (cs.take (n * sz) ++ (ns ++ cs.drop ((n + m) * sz))).length) := by
     rw [hzl, ← hvs']
     have e1 : (vs.toList.take (n * sz) ++ nv ++ vs.toList.drop ((n + m) * sz)).toArray.toList.take cs.length = (vs.toList.take cs.length).take (n * sz) ++ (nv ++ (vs.toList.take cs.length).drop ((n + m) * sz)) := by
      simp only [List.append_assoc]
      rw [List.take_append, List.take_append, List.take_take, List.take_take, List.length_take, List.drop_take]
      have p1 : nv.take (cs.length - min (n * sz) vs.toList.length) = nv := List.take_of_length_le (by omega)
      rw [p1]
      congr 1
      ·congr 1; omega
      ·congr 2; omega
     rw [e1]
     exact (q3.take (n * sz)).append (hnr.append (q3.drop ((n + m) * sz)))
    obtain ⟨he, hinv⟩ := inv_store hi hcs hbx q2 hsz2 hrel
    exact ⟨g, _, _, hrun, he, hinv, .ar r 0 (n + m) sz b cap m0 0 c t' (he.box r b hbx) (he.own r _ hown) hncap hcc hoff, fun _ _ => ⟨rfl, rfl⟩⟩
   ·rename_i hin
    simp only [Option.some.injEq, Prod.mk.injEq] at h
    obtain ⟨rfl, rfl, rfl⟩ := h
    have hfd := hf.del r
    have hosl : (cs.take (n * sz)).length = n * sz := by rw [List.length_take]; omega
    have hov : RelL g w (cs.take (n * sz)) (vs.toList.take (n * sz)) := by
     have := q3.take (n * sz)
     rwa [List.take_take, Nat.min_eq_left (by omega)] at this
    by_cases hroom : n + m ≤ c
    ·obtain ⟨ho, hrun, hsz2⟩ := room hroom
     subst ho
     generalize hvs' : (vs.toList.take (n * sz) ++ nv ++ vs.toList.drop ((n + m) * sz)).toArray = vs' at hrun hsz2
     have hrel : RelL g w (cs.take (n * sz) ++ ns) (vs'.toList.take (cs.take (n * sz) ++ ns).length) := by
      have e1 : vs'.toList.take (cs.take (n * sz) ++ ns).length = vs.toList.take (n * sz) ++ nv := by
       rw [← hvs']
       have : (cs.take (n * sz) ++ ns).length = (vs.toList.take (n * sz) ++ nv).length := by rw [List.length_append, List.length_append, hov.1, hnr.1]
       rw [this]
       exact List.take_left
      rw [e1]
      exact hov.append hnr
     obtain ⟨he, hinv⟩ := inv_arrRoom (m := n + m) hi hf hcs hbx hown q2 hsz2 hrel
     exact ⟨_, _, _, hrun, he, hinv, .ar id 0 (n + m) sz b cap (n + m) 0 c t' (Gh.addArr_box ..) (Gh.addArr_own ..) hroom hcc hoff, fun r hr => Gh.addArr_ne g id _ _ hr⟩
    ·have hfit : Builtin.nextslicecap (n + m) c * i.bytes ≤ 281474976710656 := by rw [hby]; exact growslice_fits (by omega) hbytes
     have hovl : (vs.toList.take (n * sz)).length = n * sz := by rw [List.length_take]; omega
     have hrun := run_append_grow (P := P) w t ty e i zv hu hinfo hiz ⟨b, off, none⟩ n c (vs.toList.take (n * sz)) (by rw [hsz]; exact hovl)
      (fun j v hv => by
       rw [List.getElem?_take] at hv
       split at hv
       ·rename_i hj
        have hn0 : n ≠ 0 := by intro e; subst e; simp at hj
        have ho := hoff (by omega)
        rw [addr_add, cell_of_row w b (off + j) vs t' (0, 0) q2, ho, Nat.zero_mul, Nat.zero_add]
        rwa [Array.getElem?_toList] at hv
       ·cases hv) ad m cx nv (by rw [hsz]; exact hnvl) hnvc (by omega) (by omega) hfit
     obtain ⟨g', p1, p2, p3, p4⟩ := arr_grow (old := c) (e := e) (zv := zv) (inv_del hi r) hfd hov hnr hovl hnvl hzsz hlen rfl
     exact ⟨g', _, _, hrun, p1, p2, p3, p4⟩
  ·split at h
   ·rename_i hm0
    simp only [Option.some.injEq, Prod.mk.injEq] at h
    obtain ⟨rfl, rfl, rfl⟩ := h
    subst hm0 hv
    exact ⟨g, w, _, run_append_zero ty hu hsize hnc, Ext.refl g w, hi, hs0, fun _ _ => ⟨rfl, rfl⟩⟩
   ·cases h
 ·cases h
theorem aClear_sound {P : Program} {g : Gh} {H : Heap} {w : World} {t : TypeId} (ty : TypeId) {x : AV} {v : Value} {us : List U} (h : aClear P t x H = some us) (hi : Inv g H w) (hx : Rel g w x v) :
  ∃ w', (Builtin.clear_ #[t] ty #[v]).run P w = .ok (.tuple #[]) w' ∧ Ext g w g w' ∧ Inv g (appU H us) w' := by
 unfold aClear at h
 split at h
 ·rename_i e sz by_ r lo n z het
  obtain ⟨hu, i, hinfo, hsz, hby⟩ := tElem_spec het
  split at h
  ·rename_i cs zs hcs hzs
   split at h
   ·rename_i hc
    obtain ⟨rfl, hzl, hone, hle⟩ := hc
    simp only [Option.some.injEq] at h
    subst h
    obtain ⟨b, cap, m0, off, c, e1, rfl, hbx, hown, hmc, hcc, hoff⟩ := hx.ar_inv
    obtain ⟨b', vs, t', q1, q2, q3⟩ := hi.boxE hcs hbx
    rw [hbx] at q1
    simp at q1; subst q1
    have hcl : cs.length ≤ vs.toList.length := by have := q3.1; rw [List.length_take] at this; omega
    have hadd := Nat.add_mul lo n z
    by_cases h0 : n = 0
    ·subst h0
     refine ⟨w, by simp [Builtin.clear_, run_underlying hu], ?_⟩
     have e1 : cs.take (lo * z) ++ ((List.replicate 0 zs).flatten ++ cs.drop ((lo + 0) * z)) = cs := by simp
     rw [e1]
     have := inv_store (vs' := vs) hi hcs hbx q2 rfl q3
     rw [setRow_self w b vs t' (0, 0) q2] at this
     exact this
    ·have ho := hoff (by omega)
     subst ho
     obtain ⟨zv, i', hzr, hi', hiz, hrel⟩ := tZero_run hzs g w
     have hzvl : zv.cells.size = z := by have := hrel.1; simp at this; omega
     have hzrel : ∀ k, RelL g w (List.replicate k zs).flatten (Builtin.zeroCells zv.cells k).toList := by
      intro k
      refine ⟨by rw [flat_length zs z hzl]; simp [Builtin.zeroCells, hzvl], fun j x v hx hv => ?_⟩
      have hk : j < k * z := by
       have := (List.getElem?_eq_some_iff.1 hv).1
       simpa [Builtin.zeroCells, hzvl] using this
      have hpos : 0 < z := by
       rcases Nat.eq_zero_or_pos z with q0 | q0
       ·subst q0; simp at hk
       ·exact q0
      rw [flat_get zs z hzl k j hk] at hx
      have hmod : j % z < zv.cells.size := by rw [hzvl]; exact Nat.mod_lt _ hpos
      have hv' : v = zv.cells[j % z] := by
       simp [Builtin.zeroCells, hzvl, hk] at hv
       rw [← hv]
       simp [hmod]
      subst hv'
      exact hrel.2 _ x _ hx (by simp [hmod])
     have hflat : ((List.replicate n zs).flatten).length = n * z := flat_length zs z hzl n
     have hall : ((List.replicate n zs).flatten).all AV.one = true := by
      rw [List.all_flatten]
      simp only [List.all_eq_true]
      intro l hl
      rw [List.eq_of_mem_replicate hl]
      exact List.all_eq_true.1 hone
     have hzc := hzrel n
     have hzcl : (Builtin.zeroCells zv.cells n).toList.length = n * z := by rw [← hzc.1, hflat]
     have hst := run_storeCells_at P b (lo * z) t' (Builtin.zeroCells zv.cells n).toList 0 vs w q2 (by rw [hzcl]; simp at hcl; omega) (relL_one hzc hall)
     simp only [Nat.add_zero, hzcl, ← hadd] at hst
     generalize hvs' : (vs.toList.take (lo * z) ++ (Builtin.zeroCells zv.cells n).toList ++ vs.toList.drop ((lo + n) * z)).toArray = vs' at hst
     have hsz2 : vs'.size = vs.size := by
      rw [← hvs']
      simp only [List.size_toArray, List.length_append, List.length_take, List.length_drop, hzcl]
      simp at hcl ⊢
      omega
     have hzl2 : (cs.take (lo * z) ++ ((List.replicate n zs).flatten ++ cs.drop ((lo + n) * z))).length = cs.length := by
      simp only [List.length_append, List.length_take, List.length_drop, hflat]; omega
     have hrel2 : RelL g w (cs.take (lo * z) ++ ((List.replicate n zs).flatten ++ cs.drop ((lo + n) * z))) (vs'.toList.take (cs.take (lo * z) ++ ((List.replicate n zs).flatten ++ cs.drop ((lo + n) * z))).length) := by
      rw [hzl2, ← hvs']
      have e1 : (vs.toList.take (lo * z) ++ (Builtin.zeroCells zv.cells n).toList ++ vs.toList.drop ((lo + n) * z)).toArray.toList.take cs.length =
        (vs.toList.take cs.length).take (lo * z) ++ ((Builtin.zeroCells zv.cells n).toList ++ (vs.toList.take cs.length).drop ((lo + n) * z)) := by
       simp only [List.append_assoc]
       rw [List.take_append, List.take_append, List.take_take, List.take_take, List.length_take, List.drop_take]
       have p1 : (Builtin.zeroCells zv.cells n).toList.take (cs.length - min (lo * z) vs.toList.length) = (Builtin.zeroCells zv.cells n).toList := List.take_of_length_le (by omega)
       rw [p1]
       congr 1
       ·congr 1; omega
       ·congr 2; omega
      rw [e1]
      exact (q3.take (lo * z)).append (hzc.append (q3.drop ((lo + n) * z)))
     obtain ⟨he, hinv⟩ := inv_store hi hcs hbx q2 hsz2 hrel2
     refine ⟨_, ?_, he, hinv⟩
     obtain ⟨k, rfl⟩ : ∃ k, n = k + 1 := ⟨n - 1, by omega⟩
     simp [Builtin.clear_, run_underlying hu, hzr, hst]
   ·cases h
  ·cases h
 ·cases h
end Go.Proofs.YtnoahchdmkpleaaGreat.VA
