/- What is proved: an argument of tokens, as a row's reader tells it, means a list of tokens in the abstract interpreter (VA). No condition.
What is proved: there is a world whose listed package variables hold what the rows list. No condition. -/
import Derived.Test.YtghhkbigmmjanaaDoorM6
import Derived.Test.YtghhkbigmmjanaaDoorM3
import Derived.Test.YtghhkbigmmjanaaDoorRows
import Derived.ChangeArms
import Derived.Test.YtghhkbigmmjanaaDoorCards
import Derived.Test.YtghhkbigmmjanaaDoorTie
import Derived.WalkKit
import Derived.ProofKit
import Derived.OpenShut
import Derived.ShutString
import Derived.ChangeOld
import Derived.Deep.DeepHandedRow
import Derived.Deep.DeepWitnessRowRef
/-! Dt -/
namespace Go.Proofs.YtghhkbigmmjanaaDoor.VA
open Go Go.RowKit
set_option linter.unusedSimpArgs false
set_option maxRecDepth 100000

theorem cells_tok : Tryd.prog.cellsOf 38 = 3 := by kernel_rfl
theorem cells_int : Tryd.prog.cellsOf 3 = 1 := by kernel_rfl
theorem cells_string : Tryd.prog.cellsOf 9 = 1 := by kernel_rfl
def encD {H : Type} (g : GTok) : DataW H := .agg [.lit (.int .i64 g.kind), .lit (.string g.text), .lit (.int .i64 g.at_)]
def encV (g : GTok) : List Value := [.int .i64 g.kind, .string (ba g.text), .int .i64 g.at_]
theorem open_tok {H : Type} {enc : TypeId × Value → H} {w : World} {base : Nat} {spare : Nat → Bool} {held : Bool} {fuel : Nat} {cs : List Value} {x : DataW H × List MemPlace}
    (h : DataW.trod enc Tryd.prog w base spare held fuel 38 cs = some x) : ∃ g : GTok, cs = encV g ∧ x.1 = encD g := by
  obtain ⟨xs, n, rfl, rfl, hl, hxs, hf⟩ := DataW.trod_struct Tryd.underlying38 h
  rw [cells_tok] at hl
  obtain ⟨c0, c1, c2, rfl⟩ : ∃ c0 c1 c2, cs = [c0, c1, c2] := by
    match cs, hl with
    | [c0, c1, c2], _ => exact ⟨c0, c1, c2, rfl⟩
  obtain ⟨x0, x1, x2, rfl⟩ : ∃ x0 x1 x2, xs = [x0, x1, x2] := by
    match xs, hxs with
    | [x0, x1, x2], _ => exact ⟨x0, x1, x2, rfl⟩
  have g0 : ∀ n, n = 1 → [c0, c1, c2].take n = [c0] := fun n h => by subst h; rfl
  have g1 : ∀ n, n = 1 → [c1, c2].take n = [c1] := fun n h => by subst h; rfl
  have g2 : ∀ n, n = 1 → [c2].take n = [c2] := fun n h => by subst h; rfl
  have f0 : DataW.trod enc Tryd.prog w base spare held n 3 ([c0, c1, c2].take (Tryd.prog.cellsOf 3)) = some x0 := hf 0 _ rfl
  have f1 : DataW.trod enc Tryd.prog w base spare held n 9 ([c1, c2].take (Tryd.prog.cellsOf 9)) = some x1 := hf 1 _ rfl
  have f2 : DataW.trod enc Tryd.prog w base spare held n 3 ([c2].take (Tryd.prog.cellsOf 3)) = some x2 := hf 2 _ rfl
  rw [g0 _ cells_int] at f0
  rw [g1 _ cells_string] at f1
  rw [g2 _ cells_int] at f2
  obtain ⟨k, e0, rfl, _⟩ := DataW.trod_int und_int f0
  obtain ⟨s, e1, rfl, _⟩ := DataW.trod_string und_string f1
  obtain ⟨a, e2, rfl, _⟩ := DataW.trod_int und_int f2
  simp only [List.cons.injEq, and_true] at e0 e1 e2
  subst e0; subst e1; subst e2
  exact ⟨⟨k, s.data.toList, a⟩, by simp [encV, ← ba_eta], rfl⟩
theorem mapM_cells {w : World} {a : Addr} : ∀ (n : Nat) (vs : List Value), ((List.range n).mapM fun i => w.cell? (a.add i)) = some vs → vs.length = n ∧ ∀ j, j < n → w.cell? (a.add j) = vs[j]? := by
  intro n vs h
  have key : ∀ (l : List Nat) (vs : List Value), (l.mapM fun i => w.cell? (a.add i)) = some vs → vs.length = l.length ∧ ∀ j (hj : j < l.length), w.cell? (a.add l[j]) = vs[j]? := by
    intro l
    induction l with
    | nil => intro vs h; simp at h; subst h; exact ⟨rfl, fun j hj => by simp at hj⟩
    | cons i l ih =>
      intro vs h
      rw [List.mapM_cons] at h
      simp only [Option.bind_eq_bind, Option.bind_eq_some_iff] at h
      obtain ⟨v, h1, vs', h2, h3⟩ := h
      simp at h3
      subst h3
      obtain ⟨k1, k2⟩ := ih vs' h2
      refine ⟨by simp [k1], fun j hj => ?_⟩
      cases j with
      | zero => simpa using h1
      | succ j => simpa using k2 j (by simpa using hj)
  obtain ⟨h1, h2⟩ := key _ _ h
  simp at h1
  exact ⟨h1, fun j hj => by have := h2 j (by simpa using hj); simpa using this⟩
theorem open_toks {H : Type} {enc : TypeId × Value → H} {w : World} {base : Nat} {spare : Nat → Bool} {held : Bool} {fuel : Nat} {v : Value} {x : DataW H × List MemPlace}
    (hw : ∃ a n c, v = .slice a n c) (h : DataW.trod enc Tryd.prog w base spare held fuel 22 v.cells.toList = some x) :
    ∃ l : List GTok, Rel (ghost w) w (.sl .sh (l.map encG)) v ∧ (x.1 = .nil ∧ l = [] ∨ ∃ rest, x.1 = .slice (l.map encD) rest) := by
  rcases DataW.trod_slice Tryd.underlying22 h with ⟨hcs, rfl⟩ | ⟨a, len, cap, elems, rest, n, rfl, hcs, rfl, hb, hlc, hcm, hel, hi, _, _⟩
  · refine ⟨[], ?_, .inl ⟨rfl, rfl⟩⟩
    have hv : v = .slice none 0 0 := by obtain ⟨b, n, c, rfl⟩ := hw; simpa [Value.cells] using hcs
    rw [hv]
    exact .sl .sh [] none 0 0 0 (fun _ => undef) (by simp) rfl (Nat.le_refl _) (by simp) (by simp) (by simp) (by simp) (fun h => absurd rfl h) (by simp)
  · have hv : v = .slice (some a) len cap := by obtain ⟨b, n, c, rfl⟩ := hw; simpa [Value.cells] using hcs
    rw [hv]
    rw [cells_tok] at hi
    have each : ∀ i, i < len → ∃ g : GTok, (elems[i]?).map (·.1) = some (encD g) ∧ ∀ j, j < 3 → w.cell? ((a.add (i * 3)).add j) = (encV g)[j]? := by
      intro i hlt
      have h1 := hi i hlt
      have h2 : elems[i]? = some elems[i] := List.getElem?_eq_getElem (by omega)
      rw [h2] at h1 ⊢
      simp only [Option.bind_eq_some_iff] at h1
      obtain ⟨cs, h3, h4⟩ := h1
      obtain ⟨g, rfl, h5⟩ := open_tok h4
      refine ⟨g, by simp [h5], fun j hj => ?_⟩
      unfold World.cells? at h3
      split at h3
      · exact (mapM_cells 3 _ h3).2 j hj
      · cases h3
    let G : Nat → GTok := fun i => open Classical in if h : i < len then (each i h).choose else default
    have hG : ∀ i, i < len → (elems[i]?).map (·.1) = some (encD (G i)) ∧ ∀ j, j < 3 → w.cell? ((a.add (i * 3)).add j) = (encV (G i))[j]? := by
      intro i hlt
      have : G i = (each i hlt).choose := by simp [G, hlt]
      rw [this]
      exact (each i hlt).choose_spec
    refine ⟨(List.range len).map G, ?_, .inr ⟨rest.map (·.1), ?_⟩⟩
    · have addr : ∀ i j, i * 3 + j ≠ 0 → (a.add (i * 3)).add j = ⟨a.block, a.off + (i * 3 + j), none⟩ := by
        intro i j hij
        unfold Addr.add
        by_cases h1 : i * 3 = 0
        · rw [if_pos h1, if_neg (by omega)]; congr 1; omega
        · rw [if_neg h1]
          by_cases h2 : j = 0
          · rw [if_pos h2]; congr 1; omega
          · rw [if_neg h2]; congr 1; simp only; omega
      have cell : 0 < len → a = ⟨a.block, a.off, none⟩ := by
        intro h0
        have h1 := (hG 0 h0).2 0 (by omega)
        have h2 : (a.add (0 * 3)).add 0 = a := rfl
        rw [h2] at h1
        unfold World.cell? at h1
        split at h1
        · split at h1
          · cases h1
          · rename_i hs
            cases a with
            | mk b o sp => cases sp with
              | none => rfl
              | some s => simp at hs
        · cases h1
      have hcell : ∀ i j, i < len → j < 3 → w.cell? ⟨a.block, a.off + (i * 3 + j), none⟩ = (encV (G i))[j]? := by
        intro i j hlt hj
        rw [← (hG i hlt).2 j hj]
        by_cases h0 : i * 3 + j = 0
        · have e1 : i = 0 := by omega
          have e2 : j = 0 := by omega
          subst e1; subst e2
          have := cell (by omega)
          show w.cell? ⟨a.block, a.off, none⟩ = w.cell? a
          rw [← this]
        · rw [addr i j h0]
      refine .sl .sh _ (some a) len cap 3 (fun k => (w.cell? ⟨a.block, a.off + k, none⟩).getD undef) (by simp) (by simp) hlc (by simp) (by simp) ?_ ?_ ?_ ?_
      · intro e he
        obtain ⟨g, _, rfl⟩ := List.mem_map.1 he
        rfl
      · intro k hk
        obtain ⟨i, j, rfl, hj, hlt⟩ : ∃ i j, k = i * 3 + j ∧ j < 3 ∧ i < len := ⟨k / 3, k % 3, by omega, by omega, by omega⟩
        rw [hcell i j hlt hj]
        match j, hj with
        | 0, _ => rfl
        | 1, _ => rfl
        | 2, _ => rfl
      · intro h0
        have ha := cell (by omega)
        refine ⟨a.block, a.off, by rw [← ha], ?_, ?_⟩
        · have hlast := hcell (len - 1) 2 (by omega) (by omega)
          have e2 : (encV (G (len - 1)))[2]? = some (.int .i64 (G (len - 1)).at_) := rfl
          rw [e2] at hlast
          show a.off + len * 3 ≤ cellsIn w a.block
          unfold World.cell? at hlast
          unfold cellsIn
          split at hlast
          · rename_i c _ _ hheap
            rw [hheap]
            simp only
            simp at hlast
            have := (Array.getElem?_eq_some_iff.1 hlast).1
            omega
          · cases hlast
        · intro k hk
          obtain ⟨i, j, rfl, hj, hlt⟩ : ∃ i j, k = i * 3 + j ∧ j < 3 ∧ i < len := ⟨k / 3, k % 3, by omega, by omega, by omega⟩
          rw [hcell i j hlt hj]
          match j, hj with
          | 0, _ => rfl
          | 1, _ => rfl
          | 2, _ => rfl
      · intro i e j x he hx
        rw [List.map_map, List.getElem?_map] at he
        have hlt : i < len := by
          apply Classical.byContradiction
          intro hh
          rw [List.getElem?_eq_none (by simpa using hh)] at he
          cases he
        rw [List.getElem?_range hlt] at he
        simp only [Option.map_some, Option.some.injEq, Function.comp_apply] at he
        subst he
        have hj : j < 3 := (List.getElem?_eq_some_iff.1 hx).1
        rw [hcell i j hlt hj]
        match j, hj with
        | 0, _ => simp [encG] at hx; subst hx; exact .lit _
        | 1, _ => simp [encG] at hx; subst hx; exact .lit _
        | 2, _ => simp [encG] at hx; subst hx; exact .lit _
    · show DataW.slice (elems.map (·.1)) (rest.map (·.1)) = DataW.slice (((List.range len).map G).map encD) (rest.map (·.1))
      congr 1
      apply List.ext_getElem?
      intro i
      rw [List.map_map, List.getElem?_map, List.getElem?_map]
      by_cases hlt : i < len
      · have := (hG i hlt).1
        rw [this, List.getElem?_range hlt]
        rfl
      · rw [List.getElem?_eq_none (by omega), List.getElem?_eq_none (by simpa using hlt)]
        rfl
end Go.Proofs.YtghhkbigmmjanaaDoor.VA

/-! Wk -/
namespace Go.Proofs.YtghhkbigmmjanaaDoor.VA
open Go Go.RowKit
set_option maxRecDepth 100000

theorem own : ownKnob Tryd.prog.godebug = none := by kernel_rfl
noncomputable def low : Nat := (World.holding Tryd.prog default ⟨#[], #[], []⟩).heap.size
/-- The cells that a datum's literals tell. -/
def litCells {H : Type} : List (DataW H) → List Value
  | .lit (.int k n) :: r => .int k n :: litCells r
  | _ :: r => litCells r
  | [] => []
def tabCells : DataW Unit → Array Value
  | .agg l => (litCells l).toArray
  | _ => #[]
def errText : DataW Unit → Value
  | .iface _ (.ptr (.agg [.lit (.string s)])) => .string ⟨s.toArray⟩
  | _ => .nilIface
noncomputable def laidWorld (os : Os) : World :=
  let w0 := World.holding Tryd.prog os ⟨#[.cells #[errText Rows.laid_strconv_ErrSyntax] 129, .cells #[errText Rows.laid_strconv_ErrRange] 129], #[], []⟩
  let put (h : Array Obj) (g : Nat) (cs : Array Value) : Array Obj := h.modify g fun
    | .cells _ t frozen => .cells cs t frozen
    | o => o
  let h1 := put w0.heap 1 #[.iface 127 (.pointer (some ⟨low, 0, none⟩))]
  let h2 := put h1 2 #[.iface 127 (.pointer (some ⟨low + 1, 0, none⟩))]
  let h3 := put h2 3 (tabCells Rows.laid_internal_strconv_uint64pow10)
  let h4 := put h3 4 (tabCells Rows.laid_math_bits_deBruijn32tab)
  let h5 := put h4 5 (tabCells Rows.laid_math_bits_deBruijn64tab)
  { w0 with heap := h5 }
theorem laid_met (os : Os) (args : Array Value) : laidMet Tryd.prog Rows.parseReadsRow.laid ((laidWorld os).forCall (fun _ _ => 0) ⟨#[], args, []⟩).memory :=
  laidMet_of_run' 8 (by kernel_rfl) (by kernel_rfl)
end Go.Proofs.YtghhkbigmmjanaaDoor.VA
