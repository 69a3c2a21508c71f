/- What is proved: the operations of the abstract interpreter (VA): each, where it answers, tells what the model's own operation does to values and memory. No condition. -/
import Derived.Test.YtiiaajajhkdemaaVa1
import Derived.Laws.StructEq
import Derived.Laws.Append
namespace Go.Proofs.Ytiiaajajhkdemaa.VA
open Go Go.RowKit

/-! ### types -/
def tAgg (P : Program) (t : TypeId) : Option Bool := (P.underlying t).map fun | .struct _ | .array _ _ => true | _ => false
def tSize (P : Program) (t : TypeId) : Option Nat := (P.info? t).map (·.size)
def tZero (P : Program) (t : TypeId) : Option (List AV) := ((P.info? t).bind (·.zero)).map fun z => z.cells.toList.map ofV
def tField (P : Program) (t : TypeId) (i : Nat) : Option (Nat × Nat × Bool) :=
  match P.underlying t with
  | some (.struct fs) =>
    match fs[i]? with
    | some f =>
      match tSize P f.type, tAgg P f.type with
      | some s, some a => some (f.offset, s, a)
      | _, _ => none
    | none => none
  | _ => none
/-- Of a slice's type: the elements' type, their cells, their bytes. -/
def tElem (P : Program) (t : TypeId) : Option (TypeId × Nat × Nat) :=
  match P.underlying t with
  | some (.slice e) => (P.info? e).map fun i => (e, i.size, i.bytes)
  | _ => none
theorem tAgg_run {P : Program} {t : TypeId} {b : Bool} (h : tAgg P t = some b) (w : World) : (isAgg t).run P w = .ok b w := by
  unfold tAgg at h
  cases hu : P.underlying t with
  | none => simp [hu] at h
  | some d =>
    simp [hu] at h
    unfold isAgg
    rw [Sem.run_bind, run_underlying hu w]
    subst h
    cases d <;> rfl
theorem tSize_info {P : Program} {t : TypeId} {n : Nat} (h : tSize P t = some n) : ∃ i, P.info? t = some i ∧ i.size = n := by
  unfold tSize at h
  cases hu : P.info? t with
  | none => simp [hu] at h
  | some d => simp [hu] at h; exact ⟨d, rfl, h⟩
theorem tSize_run {P : Program} {t : TypeId} {n : Nat} (h : tSize P t = some n) (w : World) : (sizeOf t).run P w = .ok n w := by
  obtain ⟨i, h1, rfl⟩ := tSize_info h
  simp [sizeOf, typeInfo, h1]
theorem tZero_run {P : Program} {t : TypeId} {cs : List AV} (h : tZero P t = some cs) (g : Gh) (w : World) :
    ∃ z i, (zeroValue t).run P w = .ok z w ∧ P.info? t = some i ∧ i.zero = some z ∧ RelL g w cs z.cells.toList := by
  unfold tZero at h
  cases hu : P.info? t with
  | none => simp [hu] at h
  | some i =>
    cases hz : i.zero with
    | none => simp [hu, hz] at h
    | some z =>
      simp [hu, hz] at h
      refine ⟨z, i, by simp [zeroValue, typeInfo, hu, hz], rfl, hz, ?_⟩
      subst h
      refine ⟨by simp, fun j x v hx hv => ?_⟩
      rw [List.getElem?_map, hv] at hx
      simp at hx
      subst hx
      exact Rel.ofV g w v
theorem tElem_spec {P : Program} {t e : TypeId} {n b : Nat} (h : tElem P t = some (e, n, b)) : P.underlying t = some (.slice e) ∧ ∃ i, P.info? e = some i ∧ i.size = n ∧ i.bytes = b := by
  unfold tElem at h
  split at h
  · rename_i e' hu
    cases hi : P.info? e' with
    | none => simp [hi] at h
    | some i => simp [hi] at h; obtain ⟨rfl, rfl, rfl⟩ := h; exact ⟨hu, i, hi, rfl, rfl⟩
  · cases h
theorem tField_spec {P : Program} {t : TypeId} {k o n : Nat} {b : Bool} (h : tField P t k = some (o, n, b)) :
    ∃ fs f, P.underlying t = some (.struct fs) ∧ fs[k]? = some f ∧ f.offset = o ∧ tSize P f.type = some n ∧ tAgg P f.type = some b := by
  unfold tField at h
  split at h
  · rename_i fs hu
    split at h
    · rename_i f hf
      split at h
      · rename_i s a hs ha
        simp at h
        obtain ⟨rfl, rfl, rfl⟩ := h
        exact ⟨fs, f, hu, hf, rfl, hs, ha⟩
      · cases h
    · cases h
  · cases h

/-! ### updates of the abstract memory -/
inductive U where
  | box (r : Nat) (cs : List AV)
  | live (s : Nat) (b : Bool)
def U.key : U → Nat
  | .box r _ => r
  | .live s _ => s
def U.app (H : Heap) : U → Heap
  | .box r cs => H.put r cs
  | .live s b => H.setLive s b
def appU (H : Heap) : List U → Heap
  | [] => H
  | u :: us => appU (u.app H) us
inductive Sr where
  /-- a value, what is written, what was read -/
  | val (v : AV) (us : List U) (rs : List Nat)
  | call (f : FuncId) (args : List AV)
  | pan (v : AV)

/-! ### operations -/
def strEq (x y : ByteArray) : Bool := x.data.toList == y.data.toList
theorem strEq_toList (x y : ByteArray) : (x.toList == y.toList) = strEq x y := by
  unfold strEq; rw [ByteArray.toList_eq, ByteArray.toList_eq]
theorem strEq_iff (x y : ByteArray) : strEq x y = true ↔ x = y := by
  unfold strEq
  constructor
  · intro h
    have := eq_of_beq h
    cases x; cases y
    simp at this
    cases this
    rfl
  · rintro rfl; simp
theorem strEq_decide (x y : ByteArray) : strEq x y = decide (x = y) := by
  by_cases h : x = y
  · simp [h, strEq]
  · rw [decide_eq_false h]
    cases hs : strEq x y
    · rfl
    · exact absurd ((strEq_iff x y).1 hs) h
def aIntCmp (op : BinOp) (a b : Int) : Option Bool :=
  match op with
  | .eql => some (decide (a = b))
  | .neq => some (!decide (a = b))
  | .lss => some (decide (a < b))
  | .leq => some (decide (a ≤ b))
  | .gtr => some (decide (b < a))
  | .geq => some (decide (b ≤ a))
  | _ => none
def aInt (op : BinOp) (k : IntKind) (a b : Int) : Option AV :=
  match op with
  | .add => some (.lit (.int k (k.wrap (a + b))))
  | .sub => some (.lit (.int k (k.wrap (a - b))))
  | .mul => some (.lit (.int k (k.wrap (a * b))))
  | .quo => if b = 0 then none else some (.lit (.int k (k.wrap (a.tdiv b))))
  | .rem => if b = 0 then none else some (.lit (.int k (a.tmod b)))
  | op => (aIntCmp op a b).map fun b => .lit (.bool b)
def aStr (op : BinOp) (x y : ByteArray) : Option AV :=
  match op with
  | .add => if x.size + y.size ≤ 9223372036854775807 then some (.lit (.string (x ++ y))) else none
  | .eql => some (.lit (.bool (strEq x y)))
  | .neq => some (.lit (.bool (!strEq x y)))
  | .lss => some (.lit (.bool (Op.bytesLess x.data.toList y.data.toList)))
  | .leq => some (.lit (.bool (Op.bytesLess x.data.toList y.data.toList || strEq x y)))
  | .gtr => some (.lit (.bool (!(Op.bytesLess x.data.toList y.data.toList || strEq x y))))
  | .geq => some (.lit (.bool (!Op.bytesLess x.data.toList y.data.toList)))
  | _ => none
/-- Are two structs equal, field by field? -/
def aEqs (P : Program) (eq : TypeId → AV → AV → Option Bool) (xs ys : List AV) : List Field → Option Bool
  | [] => some true
  | f :: fs =>
    if f.name = "_" then aEqs P eq xs ys fs else
    match tSize P f.type, tAgg P f.type with
    | some n, some true =>
      if f.offset + n ≤ xs.length ∧ f.offset + n ≤ ys.length then
        match eq f.type (.agg ((xs.drop f.offset).take n)) (.agg ((ys.drop f.offset).take n)) with
        | some true => aEqs P eq xs ys fs
        | r => r
      else none
    | some _, some false =>
      match xs[f.offset]?, ys[f.offset]? with
      | some x, some y =>
        match eq f.type x y with
        | some true => aEqs P eq xs ys fs
        | r => r
      | _, _ => none
    | _, _ => none
/-- Are two values of a type equal? Integers, truth values, strings, and structs of these. -/
def aEq (P : Program) : Nat → TypeId → AV → AV → Option Bool
  | 0, _, _, _ => none
  | d + 1, t, x, y =>
    match x, y with
    | .lit (.bool a), .lit (.bool b) => match P.underlying t with | some .bool => some (a == b) | _ => none
    | .lit (.int k a), .lit (.int k' b) => match P.underlying t with | some (.int _) => if k = k' then some (decide (a = b)) else none | _ => none
    | .lit (.string a), .lit (.string b) => match P.underlying t with | some .string => some (strEq a b) | _ => none
    | .agg xs, .agg ys =>
      match P.underlying t with
      | some (.struct fs) => if P.stoodInHeld t = false then aEqs P (aEq P d) xs ys fs.toList else none
      | _ => none
    | _, _ => none
theorem Rel.agg_inv {g : Gh} {w : World} {cs : List AV} {v : Value} (h : Rel g w (.agg cs) v) : ∃ vs, v = .agg vs ∧ RelL g w cs vs.toList := by
  cases h with
  | agg cs vs hl hr => exact ⟨vs, rfl, by simpa using hl, fun i x v hx hv => hr i x v hx (by simpa using hv)⟩
theorem Rel.lit_inv {g : Gh} {w : World} {u v : Value} (h : Rel g w (.lit u) v) : v = u := by cases h; rfl
theorem Rel.mk_agg {g : Gh} {w : World} {cs : List AV} {vs : Array Value} (h : RelL g w cs vs.toList) : Rel g w (.agg cs) (.agg vs) :=
  .agg cs vs (by simpa using h.1) (fun i x v hx hv => h.2 i x v hx (by simpa using hv))
theorem Rel.mk_tup {g : Gh} {w : World} {cs : List AV} {vs : Array Value} (h : RelL g w cs vs.toList) : Rel g w (.tup cs) (.tuple vs) :=
  .tup cs vs (by simpa using h.1) (fun i x v hx hv => h.2 i x v hx (by simpa using hv))
theorem part_agg {P : Program} {g : Gh} {w : World} {t : TypeId} {n o : Nat} {cs : List AV} {vs : Array Value} (ha : tAgg P t = some true) (hs : tSize P t = some n) (h : RelL g w cs vs.toList) :
    ∃ u, (part t vs o).run P w = .ok u w ∧ Rel g w (.agg ((cs.drop o).take n)) u := by
  refine ⟨.agg (vs.extract o (o + n)), ?_, Rel.mk_agg ?_⟩
  · simp [part, tAgg_run ha, tSize_run hs]
  · have : (vs.extract o (o + n)).toList = (vs.toList.drop o).take n := by
      rw [Array.toList_extract]
      simp [List.extract_eq_take_drop]
    rw [this]
    exact (h.drop o).take n
theorem part_one {P : Program} {g : Gh} {w : World} {t : TypeId} {o : Nat} {cs : List AV} {vs : Array Value} {x : AV} (ha : tAgg P t = some false) (hx : cs[o]? = some x) (h : RelL g w cs vs.toList) :
    ∃ u, (part t vs o).run P w = .ok u w ∧ Rel g w x u := by
  have hlt : o < cs.length := (List.getElem?_eq_some_iff.1 hx).1
  have hlt' : o < vs.size := by have := h.1; simp at this; omega
  refine ⟨vs[o], ?_, h.2 o x _ hx (by simp [hlt'])⟩
  simp [part, tAgg_run ha, hlt']
theorem aEq_sound {P : Program} {g : Gh} {w : World} : ∀ (d : Nat) (t : TypeId) (x y : AV) (u v : Value) (b : Bool), aEq P d t x y = some b → Rel g w x u → Rel g w y v →
    ∀ D, d ≤ D → (Op.equalIn D t u v).run P w = .ok b w := by
  intro d
  induction d with
  | zero => intro t x y u v b h; simp [aEq] at h
  | succ d ih =>
    intro t x y u v b h hx hy D hD
    obtain ⟨D, rfl⟩ : ∃ E, D = E + 1 := ⟨D - 1, by omega⟩
    unfold aEq at h
    split at h
    · rename_i a c
      split at h
      · rename_i hu
        simp at h; subst h
        rw [hx.lit_inv, hy.lit_inv]
        exact run_equalIn_bool' w D t _ _ hu
      · cases h
    · rename_i k a k' c
      split at h
      · rename_i k2 hu
        split at h
        · rename_i hk
          simp at h; subst h; subst hk
          rw [hx.lit_inv, hy.lit_inv, run_equalIn_int w D t _ _ _ _ hu]
          congr 1
        · cases h
      · cases h
    · rename_i a c
      split at h
      · rename_i hu
        simp at h; subst h
        rw [hx.lit_inv, hy.lit_inv, run_equalIn_string w D t _ _ hu, strEq_toList]
      · cases h
    · rename_i xs ys
      split at h
      · rename_i fs hu
        split at h
        · rename_i hst
          obtain ⟨us, rfl, hxs⟩ := hx.agg_inv
          obtain ⟨vs, rfl, hys⟩ := hy.agg_inv
          have hfo : P.fieldsOf t = fs := by simp [Program.fieldsOf, hu]
          rw [run_equalIn_struct w D t us vs (by rw [hfo]; exact hu) hst, hfo]
          generalize fs.toList = l at h
          clear hu hfo hst
          induction l with
          | nil => simp [aEqs] at h; subst h; simp [Op.eqFields]
          | cons f l ihl =>
            simp only [aEqs] at h
            simp only [Op.eqFields]
            by_cases hn : f.name = "_"
            · rw [if_pos hn] at h
              simp only [hn, ne_eq, not_true_eq_false, if_false]
              exact ihl h
            · rw [if_neg hn] at h
              simp only [hn, ne_eq, not_false_eq_true, if_true]
              split at h
              · rename_i n hs ha
                split at h
                · obtain ⟨u1, hu1, r1⟩ := part_agg (P := P) (o := f.offset) ha hs hxs
                  obtain ⟨v1, hv1, r2⟩ := part_agg (P := P) (o := f.offset) ha hs hys
                  simp only [Sem.run_bind, hu1, hv1, Result.andThen_ok]
                  cases he : aEq P d f.type (.agg ((xs.drop f.offset).take n)) (.agg ((ys.drop f.offset).take n)) with
                  | none => rw [he] at h; cases h
                  | some c =>
                    rw [ih _ _ _ _ _ _ he r1 r2 D (by omega)]
                    rw [he] at h
                    cases c
                    · simp at h; subst h; simp
                    · simp only [Result.andThen_ok, Bool.not_true, Bool.false_eq_true, if_false]
                      exact ihl h
                · cases h
              · rename_i n hs ha
                split at h
                · rename_i x1 y1 hx1 hy1
                  obtain ⟨u1, hu1, r1⟩ := part_one (P := P) ha hx1 hxs
                  obtain ⟨v1, hv1, r2⟩ := part_one (P := P) ha hy1 hys
                  simp only [Sem.run_bind, hu1, hv1, Result.andThen_ok]
                  cases he : aEq P d f.type x1 y1 with
                  | none => rw [he] at h; cases h
                  | some c =>
                    rw [ih _ _ _ _ _ _ he r1 r2 D (by omega)]
                    rw [he] at h
                    cases c
                    · simp at h; subst h; simp
                    · simp only [Result.andThen_ok, Bool.not_true, Bool.false_eq_true, if_false]
                      exact ihl h
                · cases h
              · cases h
        · cases h
      · cases h
    · cases h
end Go.Proofs.Ytiiaajajhkdemaa.VA
