/- What is proved: the abstract values of a verified abstract interpreter (VA), what they represent in a world, and that this stays true while the world grows. No condition. -/
import Derived.Scope
import Derived.Laws.AppendOwn
import Derived.Below
import Derived.Orders
import Derived.KernelRfl
namespace Go.Proofs.Ytiiaajajhkdemaa.VA
open Go Go.RowKit

/-! ### lists that answer everywhere -/
def gget {α : Type} (d : α) : List α → Nat → α
  | [], _ => d
  | x :: _, 0 => x
  | _ :: l, i + 1 => gget d l i
def gset {α : Type} (d : α) : List α → Nat → α → List α
  | [], 0, v => [v]
  | [], i + 1, v => d :: gset d [] i v
  | _ :: l, 0, v => v :: l
  | x :: l, i + 1, v => x :: gset d l i v
theorem gget_nil {α : Type} (d : α) (i : Nat) : gget d [] i = d := rfl
theorem gget_gset {α : Type} (d : α) : ∀ (l : List α) (i : Nat) (v : α) (j : Nat), gget d (gset d l i v) j = if i = j then v else gget d l j
  | [], 0, v, 0 => rfl
  | [], 0, v, j + 1 => by simp [gset, gget]
  | [], i + 1, v, 0 => by simp [gset, gget]
  | [], i + 1, v, j + 1 => by
    simp only [gset, gget]
    rw [gget_gset d [] i v j]
    simp [gget]
  | x :: l, 0, v, 0 => rfl
  | x :: l, 0, v, j + 1 => by simp [gset, gget]
  | x :: l, i + 1, v, 0 => by simp [gset, gget]
  | x :: l, i + 1, v, j + 1 => by
    simp only [gset, gget]
    rw [gget_gset d l i v j]
    simp

/-! ### abstract values -/
inductive Own where
  | nil
  | sh
  | ex
  | own (s : Nat) (e : TypeId) (sz : Nat)
inductive AV where
  | bad
  | lit (v : Value)
  | sl (o : Own) (es : List (List AV))
  | ptr (r off : Nat)
  | ep (cs : List AV)
  | fn (f : FuncId) (caps : List AV)
  | ifc (t : TypeId) (v : AV)
  | mp (r : Nat)
  | agg (cs : List AV)
  | tup (vs : List AV)
def AV.cells : AV → List AV
  | .agg cs => cs
  | v => [v]
/-- The value of one cell. -/
def AV.one : AV → Bool
  | .lit v => v.oneCell'
  | .bad | .agg _ | .tup _ => false
  | _ => true
mutual
/-- An abstract value without what hangs on the caller's own memory: no pointer, no right to append in place. -/
def san : AV → AV
  | .bad => .bad
  | .lit v => .lit v
  | .sl _ es => .sl .sh (sanLL es)
  | .ptr _ _ => .bad
  | .ep cs => .ep (sanL cs)
  | .fn f caps => .fn f (sanL caps)
  | .ifc t v => .ifc t (san v)
  | .mp _ => .bad
  | .agg cs => .agg (sanL cs)
  | .tup vs => .tup (sanL vs)
def sanL : List AV → List AV
  | [] => []
  | x :: l => san x :: sanL l
def sanLL : List (List AV) → List (List AV)
  | [] => []
  | x :: l => sanL x :: sanLL l
end
theorem sanL_map (l : List AV) : sanL l = l.map san := by
  induction l with
  | nil => rfl
  | cons x l ih => simp [sanL, ih]
theorem sanLL_map (l : List (List AV)) : sanLL l = l.map sanL := by
  induction l with
  | nil => rfl
  | cons x l ih => simp [sanLL, ih]

/-! ### what an abstract value represents -/
structure Gh where
  lo : Nat
  vis : Nat → Nat
  box : Nat → Option Nat
  own : Nat → Option (Nat × Nat × Nat × TypeId × Nat)
inductive Rel (g : Gh) (w : World) : AV → Value → Prop
  | bad (v : Value) : Rel g w .bad v
  | lit (v : Value) : Rel g w (.lit v) v
  | nil : Rel g w (.sl .nil []) (.slice none 0 0)
  | sl (o : Own) (es : List (List AV)) (a : Option Addr) (n cap sz : Nat) (f : Nat → Value) (ho : o ≠ .nil) (hn : es.length = n) (hcap : n ≤ cap)
      (hex : o = .ex → cap = n)
      (hown : ∀ s e z, o = .own s e z → z = sz ∧ ∃ b, a = some ⟨b, 0, none⟩ ∧ g.own s = some (b, n, cap, e, sz))
      (hsz : ∀ x, x ∈ es → x.length = sz) (h1 : ∀ k, k < n * sz → (f k).oneCell' = true)
      (ha : n ≠ 0 → ∃ b off, a = some ⟨b, off, none⟩ ∧ off + n * sz ≤ g.vis b ∧ ∀ k, k < n * sz → w.cell? ⟨b, off + k, none⟩ = some (f k))
      (hr : ∀ (i : Nat) (e : List AV) (j : Nat) (x : AV), es[i]? = some e → e[j]? = some x → Rel g w x (f (i * sz + j))) : Rel g w (.sl o es) (.slice a n cap)
  | ptr (r off b : Nat) (h : g.box r = some b) : Rel g w (.ptr r off) (.pointer (some ⟨b, off, none⟩))
  | ep (cs : List AV) (b off : Nat) (f : Nat → Value) (hv : off + cs.length ≤ g.vis b) (hc : ∀ k, k < cs.length → w.cell? ⟨b, off + k, none⟩ = some (f k))
      (hr : ∀ (j : Nat) (x : AV), cs[j]? = some x → Rel g w x (f j)) : Rel g w (.ep cs) (.pointer (some ⟨b, off, none⟩))
  | fn (fid : FuncId) (caps : List AV) (vs : Array Value) (hl : caps.length = vs.size) (hr : ∀ (i : Nat) (x : AV) (v : Value), caps[i]? = some x → vs[i]? = some v → Rel g w x v) :
      Rel g w (.fn fid caps) (.func (.func fid) #[] vs)
  | ifc (t : TypeId) (x : AV) (v : Value) (h : Rel g w x v) : Rel g w (.ifc t x) (.iface t v)
  | mp (r b : Nat) (h : g.box r = some b) : Rel g w (.mp r) (.map (some b))
  | agg (cs : List AV) (vs : Array Value) (hl : cs.length = vs.size) (hr : ∀ (i : Nat) (x : AV) (v : Value), cs[i]? = some x → vs[i]? = some v → Rel g w x v) : Rel g w (.agg cs) (.agg vs)
  | tup (cs : List AV) (vs : Array Value) (hl : cs.length = vs.size) (hr : ∀ (i : Nat) (x : AV) (v : Value), cs[i]? = some x → vs[i]? = some v → Rel g w x v) : Rel g w (.tup cs) (.tuple vs)

/-- Two lists, place by place. -/
def RelL (g : Gh) (w : World) (cs : List AV) (vs : List Value) : Prop := cs.length = vs.length ∧ ∀ (i : Nat) (x : AV) (v : Value), cs[i]? = some x → vs[i]? = some v → Rel g w x v
theorem RelL.nil (g : Gh) (w : World) : RelL g w [] [] := ⟨rfl, fun i x v h => by simp at h⟩
theorem RelL.cons {g : Gh} {w : World} {x : AV} {v : Value} {cs : List AV} {vs : List Value} (h : Rel g w x v) (hl : RelL g w cs vs) : RelL g w (x :: cs) (v :: vs) := by
  refine ⟨by simp [hl.1], fun i y u hy hu => ?_⟩
  cases i with
  | zero => simp at hy hu; subst hy; subst hu; exact h
  | succ i => exact hl.2 i y u (by simpa using hy) (by simpa using hu)
theorem RelL.head {g : Gh} {w : World} {x : AV} {v : Value} {cs : List AV} {vs : List Value} (h : RelL g w (x :: cs) (v :: vs)) : Rel g w x v := h.2 0 x v rfl rfl
theorem RelL.tail {g : Gh} {w : World} {x : AV} {v : Value} {cs : List AV} {vs : List Value} (h : RelL g w (x :: cs) (v :: vs)) : RelL g w cs vs :=
  ⟨by simpa using h.1, fun i y u hy hu => h.2 (i + 1) y u (by simpa using hy) (by simpa using hu)⟩
theorem RelL.append {g : Gh} {w : World} {a b : List AV} {va vb : List Value} (h : RelL g w a va) (k : RelL g w b vb) : RelL g w (a ++ b) (va ++ vb) := by
  refine ⟨by simp [h.1, k.1], fun i x v hx hv => ?_⟩
  by_cases hi : i < a.length
  · rw [List.getElem?_append_left hi] at hx
    rw [List.getElem?_append_left (by rw [← h.1]; exact hi)] at hv
    exact h.2 i x v hx hv
  · rw [List.getElem?_append_right (by omega)] at hx
    rw [List.getElem?_append_right (by rw [← h.1]; omega), ← h.1] at hv
    exact k.2 _ x v hx hv
theorem RelL.drop {g : Gh} {w : World} {a : List AV} {va : List Value} (h : RelL g w a va) (n : Nat) : RelL g w (a.drop n) (va.drop n) :=
  ⟨by simp [h.1], fun i x v hx hv => h.2 (n + i) x v (by simpa using hx) (by simpa using hv)⟩
theorem RelL.take {g : Gh} {w : World} {a : List AV} {va : List Value} (h : RelL g w a va) (n : Nat) : RelL g w (a.take n) (va.take n) := by
  refine ⟨by simp [h.1], fun i x v hx hv => ?_⟩
  rw [List.getElem?_take] at hx hv
  split at hx
  · rename_i hi; rw [if_pos hi] at hv; exact h.2 i x v hx hv
  · cases hx

/-! ### the world grows -/
structure Ext (g : Gh) (w : World) (g' : Gh) (w' : World) : Prop where
  lo : g'.lo = g.lo
  os : w'.os = w.os
  tape : w'.tape = w.tape
  output : w'.output = w.output
  size : w.heap.size ≤ w'.heap.size
  low : ∀ b, b < g.lo → w'.heap[b]? = w.heap[b]?
  lowv : ∀ b, b < g.lo → g'.vis b = g.vis b
  vis : ∀ b, g.vis b ≤ g'.vis b
  cell : ∀ b o, o < g.vis b → w'.cell? ⟨b, o, none⟩ = w.cell? ⟨b, o, none⟩
  box : ∀ r b, g.box r = some b → g'.box r = some b
  own : ∀ s x, g.own s = some x → g'.own s = some x
theorem Ext.refl (g : Gh) (w : World) : Ext g w g w :=
  ⟨rfl, rfl, rfl, rfl, Nat.le_refl _, fun _ _ => rfl, fun _ _ => rfl, fun _ => Nat.le_refl _, fun _ _ _ => rfl, fun _ _ h => h, fun _ _ h => h⟩
theorem Ext.trans {g g1 g2 : Gh} {w w1 w2 : World} (h : Ext g w g1 w1) (k : Ext g1 w1 g2 w2) : Ext g w g2 w2 :=
  ⟨k.lo.trans h.lo, k.os.trans h.os, k.tape.trans h.tape, k.output.trans h.output, Nat.le_trans h.size k.size,
   fun b hb => (k.low b (by rw [h.lo]; exact hb)).trans (h.low b hb), fun b hb => (k.lowv b (by rw [h.lo]; exact hb)).trans (h.lowv b hb),
   fun b => Nat.le_trans (h.vis b) (k.vis b), fun b o ho => (k.cell b o (Nat.lt_of_lt_of_le ho (h.vis b))).trans (h.cell b o ho),
   fun r b hb => k.box r b (h.box r b hb), fun s x hx => k.own s x (h.own s x hx)⟩
theorem Rel.ext {g g' : Gh} {w w' : World} {x : AV} {v : Value} (h : Rel g w x v) (e : Ext g w g' w') : Rel g' w' x v := by
  induction h with
  | bad v => exact .bad v
  | lit v => exact .lit v
  | nil => exact .nil
  | sl o es a n cap sz f ho hn hcap hex hown hsz h1 ha hr ih =>
    refine .sl o es a n cap sz f ho hn hcap hex ?_ hsz h1 ?_ ih
    · intro s t z hs
      obtain ⟨h4, b, h2, h3⟩ := hown s t z hs
      exact ⟨h4, b, h2, e.own _ _ h3⟩
    · intro h0
      obtain ⟨b, off, h4, h2, h3⟩ := ha h0
      exact ⟨b, off, h4, Nat.le_trans h2 (e.vis b), fun k hk => (e.cell b (off + k) (by omega)).trans (h3 k hk)⟩
  | ptr r off b h => exact .ptr r off b (e.box r b h)
  | ep cs b off f hv hc hr ih => exact .ep cs b off f (Nat.le_trans hv (e.vis b)) (fun k hk => (e.cell b (off + k) (by omega)).trans (hc k hk)) ih
  | fn fid caps vs hl hr ih => exact .fn fid caps vs hl ih
  | ifc t x v h ih => exact .ifc t x v ih
  | mp r b h => exact .mp r b (e.box r b h)
  | agg cs vs hl hr ih => exact .agg cs vs hl ih
  | tup cs vs hl hr ih => exact .tup cs vs hl ih
theorem RelL.ext {g g' : Gh} {w w' : World} {cs : List AV} {vs : List Value} (h : RelL g w cs vs) (e : Ext g w g' w') : RelL g' w' cs vs :=
  ⟨h.1, fun i x v hx hv => (h.2 i x v hx hv).ext e⟩
theorem getElem?_sanL {cs : List AV} {i : Nat} {x : AV} (h : (sanL cs)[i]? = some x) : ∃ y, cs[i]? = some y ∧ x = san y := by
  rw [sanL_map, List.getElem?_map] at h
  cases hc : cs[i]? with
  | none => simp [hc] at h
  | some y => simp [hc] at h; exact ⟨y, rfl, h.symm⟩
theorem getElem?_sanLL {es : List (List AV)} {i : Nat} {x : List AV} (h : (sanLL es)[i]? = some x) : ∃ y, es[i]? = some y ∧ x = sanL y := by
  rw [sanLL_map, List.getElem?_map] at h
  cases hc : es[i]? with
  | none => simp [hc] at h
  | some y => simp [hc] at h; exact ⟨y, rfl, h.symm⟩
theorem length_sanL (l : List AV) : (sanL l).length = l.length := by rw [sanL_map]; simp
theorem length_sanLL (l : List (List AV)) : (sanLL l).length = l.length := by rw [sanLL_map]; simp
/-- Without the caller's own memory a value means the same in whatever ghost sees as much. -/
theorem Rel.san {g g' : Gh} {w : World} {x : AV} {v : Value} (h : Rel g w x v) (hv : ∀ b, g.vis b ≤ g'.vis b) : Rel g' w (san x) v := by
  induction h with
  | bad v => exact .bad v
  | lit v => exact .lit v
  | nil => exact .sl .sh [] none 0 0 0 (fun _ => undef) (by simp) rfl (Nat.le_refl _) (by simp) (by simp) (by simp) (by simp) (fun h => absurd rfl h) (by simp)
  | sl o es a n cap sz f ho hn hcap hex hown hsz h1 ha hr ih =>
    simp only [VA.san]
    refine .sl .sh (sanLL es) a n cap sz f (by simp) (by rw [length_sanLL]; exact hn) hcap (by simp) (by simp) ?_ h1 ?_ ?_
    · intro x hx
      rw [sanLL_map] at hx
      obtain ⟨y, hy, rfl⟩ := List.mem_map.1 hx
      rw [length_sanL]
      exact hsz y hy
    · intro h0
      obtain ⟨b, off, h4, h2, h3⟩ := ha h0
      exact ⟨b, off, h4, Nat.le_trans h2 (hv b), h3⟩
    · intro i e j x he hx
      obtain ⟨e', he', rfl⟩ := getElem?_sanLL he
      obtain ⟨x', hx', rfl⟩ := getElem?_sanL hx
      exact ih i e' j x' he' hx'
  | ptr r off b h => exact .bad _
  | ep cs b off f hvv hc hr ih =>
    simp only [VA.san]
    refine .ep (sanL cs) b off f (by rw [length_sanL]; exact Nat.le_trans hvv (hv b)) (by rw [length_sanL]; exact hc) ?_
    intro j x hx
    obtain ⟨x', hx', rfl⟩ := getElem?_sanL hx
    exact ih j x' hx'
  | fn fid caps vs hl hr ih =>
    simp only [VA.san]
    refine .fn fid (sanL caps) vs (by rw [length_sanL]; exact hl) ?_
    intro i x v hx hv'
    obtain ⟨x', hx', rfl⟩ := getElem?_sanL hx
    exact ih i x' v hx' hv'
  | ifc t x v h ih => exact .ifc t _ v ih
  | mp r b h => exact .bad _
  | agg cs vs hl hr ih =>
    simp only [VA.san]
    refine .agg (sanL cs) vs (by rw [length_sanL]; exact hl) ?_
    intro i x v hx hv'
    obtain ⟨x', hx', rfl⟩ := getElem?_sanL hx
    exact ih i x' v hx' hv'
  | tup cs vs hl hr ih =>
    simp only [VA.san]
    refine .tup (sanL cs) vs (by rw [length_sanL]; exact hl) ?_
    intro i x v hx hv'
    obtain ⟨x', hx', rfl⟩ := getElem?_sanL hx
    exact ih i x' v hx' hv'
theorem RelL.san {g g' : Gh} {w : World} {cs : List AV} {vs : List Value} (h : RelL g w cs vs) (hv : ∀ b, g.vis b ≤ g'.vis b) : RelL g' w (sanL cs) vs := by
  refine ⟨by rw [length_sanL]; exact h.1, fun i x v hx hv' => ?_⟩
  obtain ⟨x', hx', rfl⟩ := getElem?_sanL hx
  exact (h.2 i x' v hx' hv').san hv
theorem Rel.one {g : Gh} {w : World} {x : AV} {v : Value} (h : Rel g w x v) (ho : x.one = true) : v.oneCell' = true := by
  cases h with
  | lit v => exact ho
  | bad | agg | tup => simp [AV.one] at ho
  | _ => rfl
theorem Rel.cells {g : Gh} {w : World} {x : AV} {v : Value} (h : Rel g w x v) (hx : x.cells.all AV.one = true) : RelL g w x.cells v.cells.toList := by
  have single : ∀ {y : AV} {u : Value}, Rel g w y u → y.one = true → y.cells = [y] → RelL g w y.cells u.cells.toList := by
    intro y u hr ho hc
    rw [hc]
    have h1 := hr.one ho
    have h2 : u.cells = #[u] := by cases u <;> first | rfl | simp [Value.oneCell'] at h1
    rw [h2]
    exact RelL.cons hr (RelL.nil g w)
  cases h with
  | agg cs vs hl hr => exact ⟨by simpa [AV.cells, Value.cells] using hl, fun i x v hx hv => hr i x v hx (by simpa [Value.cells] using hv)⟩
  | bad v => simp [AV.cells, AV.one] at hx
  | tup cs vs hl hr => simp [AV.cells, AV.one] at hx
  | lit v => exact single (.lit v) (by simpa [AV.cells] using hx) rfl
  | nil => exact single .nil rfl rfl
  | sl o es a n cap sz f ho hn hcap hex hown hsz h1 ha hr => exact single (.sl o es a n cap sz f ho hn hcap hex hown hsz h1 ha hr) rfl rfl
  | ptr r off b h => exact single (.ptr r off b h) rfl rfl
  | ep cs b off f hv hc hr => exact single (.ep cs b off f hv hc hr) rfl rfl
  | fn fid caps vs hl hr => exact single (.fn fid caps vs hl hr) rfl rfl
  | ifc t x v h => exact single (.ifc t x v h) rfl rfl
  | mp r b h => exact single (.mp r b h) rfl rfl
/-- A constant of the program's text. -/
def ofV : Value → AV
  | .slice none 0 0 => .sl .nil []
  | v => .lit v
theorem Rel.ofV (g : Gh) (w : World) (v : Value) : Rel g w (ofV v) v := by
  unfold VA.ofV
  split
  · exact .nil
  · exact .lit _

/-! ### the abstract memory -/
structure Heap where
  box : List (Option (List AV))
  live : List Bool
  next : Nat
def Heap.empty : Heap := ⟨[], [], 0⟩
def Heap.get (H : Heap) (r : Nat) : Option (List AV) := gget none H.box r
def Heap.put (H : Heap) (r : Nat) (cs : List AV) : Heap := { H with box := gset none H.box r (some cs) }
def Heap.isLive (H : Heap) (s : Nat) : Bool := gget false H.live s
def Heap.setLive (H : Heap) (s : Nat) (b : Bool) : Heap := { H with live := gset false H.live s b }
@[simp] theorem Heap.get_put (H : Heap) (r : Nat) (cs : List AV) (r' : Nat) : (H.put r cs).get r' = if r = r' then some cs else H.get r' := gget_gset _ _ _ _ _
@[simp] theorem Heap.isLive_put (H : Heap) (r : Nat) (cs : List AV) (s : Nat) : (H.put r cs).isLive s = H.isLive s := rfl
@[simp] theorem Heap.next_put (H : Heap) (r : Nat) (cs : List AV) : (H.put r cs).next = H.next := rfl
@[simp] theorem Heap.isLive_setLive (H : Heap) (s : Nat) (b : Bool) (s' : Nat) : (H.setLive s b).isLive s' = if s = s' then b else H.isLive s' := gget_gset _ _ _ _ _
@[simp] theorem Heap.get_setLive (H : Heap) (s : Nat) (b : Bool) (r : Nat) : (H.setLive s b).get r = H.get r := rfl
@[simp] theorem Heap.next_setLive (H : Heap) (s : Nat) (b : Bool) : (H.setLive s b).next = H.next := rfl
@[simp] theorem Heap.get_empty (r : Nat) : Heap.empty.get r = none := rfl
@[simp] theorem Heap.isLive_empty (r : Nat) : Heap.empty.isLive r = false := rfl
@[simp] theorem Heap.next_empty : Heap.empty.next = 0 := rfl

structure Inv (g : Gh) (H : Heap) (w : World) : Prop where
  lo : g.lo ≤ w.heap.size
  fresh : ∀ b, w.heap.size ≤ b → g.vis b = 0
  boxB : ∀ r b, g.box r = some b → g.lo ≤ b ∧ b < w.heap.size ∧ g.vis b = 0
  boxI : ∀ r r' b, g.box r = some b → g.box r' = some b → r = r'
  box : ∀ r cs, H.get r = some cs → ∃ b vs t, g.box r = some b ∧ w.heap[b]? = some (.cells vs t (0, 0)) ∧ RelL g w cs vs.toList
  live : ∀ s, H.isLive s = true → ∃ b n cap e sz vs, g.own s = some (b, n, cap, e, sz) ∧ g.lo ≤ b ∧ w.heap[b]? = some (.cells vs e (0, 0)) ∧
    n ≤ cap ∧ cap ≤ maxLen ∧ vs.size = cap * sz ∧ g.vis b = n * sz ∧ (∀ r, g.box r ≠ some b)
  liveI : ∀ s s' b x y, H.isLive s = true → H.isLive s' = true → g.own s = some (b, x) → g.own s' = some (b, y) → s = s'
/-- A number that names nothing yet. -/
def Fresh (g : Gh) (H : Heap) (r : Nat) : Prop := g.box r = none ∧ g.own r = none ∧ H.get r = none ∧ H.isLive r = false
theorem Inv.fresh_of {g : Gh} {H : Heap} {w : World} (h : Inv g H w) {r : Nat} (hb : g.box r = none) (ho : g.own r = none) : Fresh g H r := by
  refine ⟨hb, ho, ?_, ?_⟩
  · cases hg : H.get r with
    | none => rfl
    | some cs =>
      obtain ⟨b, _, _, h1, _⟩ := h.box r cs hg
      rw [hb] at h1; cases h1
  · cases hl : H.isLive r with
    | false => rfl
    | true =>
      obtain ⟨b, n, cap, e, sz, vs, h1, _⟩ := h.live r hl
      rw [ho] at h1; cases h1

/-- The slots. -/
def EnvRel (g : Gh) (w : World) (e : List AV) (tmps : Array Value) : Prop := ∀ i, Rel g w (gget .bad e i) (tmps.getD i undef)
theorem EnvRel.ext {g g' : Gh} {w w' : World} {e : List AV} {tmps : Array Value} (h : EnvRel g w e tmps) (x : Ext g w g' w') : EnvRel g' w' e tmps := fun i => (h i).ext x
def aput (e : List AV) (dst : Option Tmp) (v : AV) : List AV :=
  match dst with
  | some d => gset .bad e d v
  | none => e
theorem EnvRel.put {g : Gh} {w : World} {e : List AV} {a : Act} (h : EnvRel g w e a.tmps) {dst : Option Tmp} (hd : ∀ d, dst = some d → d < a.tmps.size) {x : AV} {v : Value} (hv : Rel g w x v) :
    EnvRel g w (aput e dst x) (a.put dst v).tmps := by
  cases dst with
  | none => exact h
  | some d =>
    intro i
    have hlt := hd d rfl
    simp only [aput, Act.put, gget_gset]
    by_cases hi : d = i
    · subst hi
      simp [hlt, hv]
    · rw [if_neg hi]
      have := h i
      simpa [Array.getElem?_setIfInBounds_ne hi] using this
theorem size_put (a : Act) (dst : Option Tmp) (v : Value) : (a.put dst v).tmps.size = a.tmps.size := by
  cases dst <;> simp [Act.put]
theorem defers_put (a : Act) (dst : Option Tmp) (v : Value) : (a.put dst v).defers = a.defers := by
  cases dst <;> simp [Act.put]
def aeval (e : List AV) : Operand → AV
  | .tmp t => gget .bad e t
  | .const v => ofV v
  | .global _ => .bad
  | .func f => .fn f []
theorem EnvRel.eval {g : Gh} {w : World} {e : List AV} {a : Act} (h : EnvRel g w e a.tmps) (x : Operand) : Rel g w (aeval e x) (a.eval x) := by
  cases x with
  | tmp t => exact h t
  | const v => exact Rel.ofV g w v
  | global _ => exact .bad _
  | func f => exact .fn f [] #[] rfl (by simp)
end Go.Proofs.Ytiiaajajhkdemaa.VA
