/- What is proved: an argument that is a program or a statement, as a row's reader tells it, means a program in the abstract interpreter (VA); how great it is. No condition.
What is proved: a program that stands in memory, as an argument. No condition.
What is proved: there is a world whose listed package variables hold what the rows list. No condition.
What is proved: where the rows' listed tables are laid, the table of powers of ten is what the told functions ask for. No condition. -/
import Derived.Test.YtghhkbigmmjanaaGreatDoorM3
import Derived.Test.YtghhkbigmmjanaaGreatDoorM10
import Derived.Test.YtghhkbigmmjanaaGreatDoorRows
import Derived.ChangeArms
import Derived.Test.YtghhkbigmmjanaaGreatDoorCards
import Derived.Test.YtghhkbigmmjanaaGreatDoorTie
import Derived.WalkKit
import Derived.ProofKit
import Derived.OpenShut
import Derived.ShutString
import Derived.ChangeOld
import Derived.Deep.DeepHandedRow
import Derived.Deep.DeepWitnessRowRef
import Derived.Test.YtghhkbigmmjanaaGreatDoorM5
import Derived.Lib.LaidTab
/-! Dq -/
namespace Go.Proofs.YtghhkbigmmjanaaGreatDoor.VA
open Go Go.RowKit
set_option linter.unusedSimpArgs false
set_option maxRecDepth 100000

instance : Inhabited Opd := ⟨⟨0, 0, []⟩⟩
instance : Inhabited GStmt := ⟨noStmt⟩
instance : Inhabited GFunc := ⟨⟨[], [], []⟩⟩
theorem cells_read {w : World} {a : Addr} : ∀ (n : Nat) (vs : List Value), ((List.range n).mapM fun i => w.cell? (a.add i)) = some vs → vs.length = n ∧ ∀ j, j < n → w.cell? (a.add j) = vs[j]? := by
 intro n vs h
 have key : ∀ (l : List Nat) (vs : List Value), (l.mapM fun i => w.cell? (a.add i)) = some vs → vs.length = l.length ∧ ∀ j (hj : j < l.length), w.cell? (a.add l[j]) = vs[j]? := by
  intro l
  induction l with
  | nil => intro vs h; simp at h; subst h; exact ⟨rfl, fun j hj => by simp at hj⟩
  | cons i l ih =>
   intro vs h
   rw [List.mapM_cons] at h
   simp only [Option.bind_eq_bind, Option.bind_eq_some_iff] at h
   obtain ⟨v, h1, vs', h2, h3⟩ := h
   simp at h3
   subst h3
   obtain ⟨k1, k2⟩ := ih vs' h2
   refine ⟨by simp [k1], fun j hj => ?_⟩
   cases j with
   | zero => simpa using h1
   | succ j => simpa using k2 j (by simpa using hj)
 obtain ⟨h1, h2⟩ := key _ _ h
 simp at h1
 exact ⟨h1, fun j hj => by have := h2 j (by simpa using hj); simpa using this⟩
theorem bulk_list {H G : Type} (mu : G → Nat) : ∀ (l : List G) (el : List (DataW H)), l.length = el.length → (∀ (i : Nat) g y, l[i]? = some g → el[i]? = some y → mu g ≤ Rows.uptoBulk y) → (l.map mu).sum ≤ Rows.uptoBulkAll el
 | [], el, _, _ => Nat.zero_le _
 | g :: l, [], h, _ => by simp at h
 | g :: l, y :: el, h, k => by
  have h1 := k 0 g y rfl rfl
  have h2 := bulk_list mu l el (by simpa using h) (fun i g y a b => k (i + 1) g y (by simpa using a) (by simpa using b))
  simp only [List.map_cons, List.sum_cons, Rows.uptoBulkAll]
  omega
set_option maxHeartbeats 1000000 in
/-- A slice: what its elements mean, it means. -/
theorem open_slice {H G : Type} [Inhabited G] {enc : TypeId × Value → H} {w : World} {base : Nat} {spare : Nat → Bool} {held : Bool} {fuel : Nat} {t e : TypeId} {sz : Nat}
  (ht : Tryz.prog.underlying t = some (.slice e)) (hsz : Tryz.prog.cellsOf e = sz) (h0 : 0 < sz) (encA : G → List AV) (ok : G → Bool) (mu : G → Nat)
  (each : ∀ n cs x, fuel = n + 1 → DataW.trod enc Tryz.prog w base spare held n e cs = some x → ∃ g, RelL (ghost w) w (encA g) cs ∧ cs.length = sz ∧ (∀ v ∈ cs, v.oneCell' = true) ∧ ok g = true ∧ mu g ≤ Rows.uptoBulk x.1)
  {cs : List Value} {x : DataW H × List MemPlace} (h : DataW.trod enc Tryz.prog w base spare held fuel t cs = some x) :
  ∃ (v : Value) (l : List G), cs = [v] ∧ v.oneCell' = true ∧ Rel (ghost w) w (.sl .sh (l.map encA)) v ∧ l.all ok = true ∧ (l.map mu).sum + 1 ≤ Rows.uptoBulk x.1 := by
 rcases DataW.trod_slice ht h with ⟨rfl, rfl⟩ | ⟨a, len, cap, elems, rest, n, rfl, rfl, rfl, hb, hlc, hcm, hel, hi, _, _⟩
 ·refine ⟨_, [], rfl, rfl, ?_, rfl, by simp [Rows.uptoBulk]⟩
  exact .sl .sh [] none 0 0 0 (fun _ => undef) (by simp) rfl (Nat.le_refl _) (by simp) (by simp) (by simp) (by simp) (fun h => absurd rfl h) (by simp)
 ·rw [hsz] at hi
  have each' : ∀ i, i < len → ∃ (g : G) (cs : List Value) (y : DataW H × List MemPlace), elems[i]? = some y ∧ RelL (ghost w) w (encA g) cs ∧ cs.length = sz ∧ (∀ v ∈ cs, v.oneCell' = true) ∧ ok g = true ∧ mu g ≤ Rows.uptoBulk y.1 ∧ ∀ j, j < sz → w.cell? ((a.add (i * sz)).add j) = cs[j]? := by
   intro i hlt
   have h1 := hi i hlt
   have h2 : elems[i]? = some elems[i] := List.getElem?_eq_getElem (by omega)
   rw [h2] at h1
   simp only [Option.bind_eq_some_iff] at h1
   obtain ⟨cs, h3, h4⟩ := h1
   obtain ⟨g, k1, k2, k3, k4, k5⟩ := each n cs _ rfl h4
   refine ⟨g, cs, _, h2, k1, k2, k3, k4, k5, fun j hj => ?_⟩
   unfold World.cells? at h3
   split at h3
   ·exact (cells_read sz _ h3).2 j hj
   ·cases h3
  let G' : Nat → G := fun i => open Classical in if h : i < len then (each' i h).choose else default
  have hG : ∀ i, i < len → ∃ (cs : List Value) (y : DataW H × List MemPlace), elems[i]? = some y ∧ RelL (ghost w) w (encA (G' i)) cs ∧ cs.length = sz ∧ (∀ v ∈ cs, v.oneCell' = true) ∧ ok (G' i) = true ∧ mu (G' i) ≤ Rows.uptoBulk y.1 ∧ ∀ j, j < sz → w.cell? ((a.add (i * sz)).add j) = cs[j]? := by
   intro i hlt
   have : G' i = (each' i hlt).choose := by simp [G', hlt]
   rw [this]
   exact (each' i hlt).choose_spec
  have addr : ∀ i j, i * sz + j ≠ 0 → (a.add (i * sz)).add j = ⟨a.block, a.off + (i * sz + j), none⟩ := by
   intro i j hij
   unfold Addr.add
   by_cases h1 : i * sz = 0
   ·rw [if_pos h1, if_neg (by omega)]; congr 1; omega
   ·rw [if_neg h1]
    by_cases h2 : j = 0
    ·rw [if_pos h2]; congr 1; omega
    ·rw [if_neg h2]; congr 1; simp only; omega
  have cell : 0 < len → a = ⟨a.block, a.off, none⟩ := by
   intro hl0
   obtain ⟨cs, y, _, _, k2, _, _, _, k6⟩ := hG 0 hl0
   have h1 := k6 0 h0
   have h2 : (a.add (0 * sz)).add 0 = a := by rw [Nat.zero_mul]; rfl
   rw [h2, List.getElem?_eq_getElem (by omega)] at h1
   unfold World.cell? at h1
   split at h1
   ·split at h1
    ·cases h1
    ·rename_i hs
     cases a with
     | mk b o sp => cases sp with
      | none => rfl
      | some s => simp at hs
   ·cases h1
  have hcell : ∀ i, i < len → ∃ cs : List Value, RelL (ghost w) w (encA (G' i)) cs ∧ cs.length = sz ∧ (∀ v ∈ cs, v.oneCell' = true) ∧ ∀ j, j < sz → w.cell? ⟨a.block, a.off + (i * sz + j), none⟩ = cs[j]? := by
   intro i hlt
   obtain ⟨cs, y, _, k1, k2, k3, _, _, k6⟩ := hG i hlt
   refine ⟨cs, k1, k2, k3, fun j hj => ?_⟩
   rw [← k6 j hj]
   by_cases hz : i * sz + j = 0
   ·have e2 : j = 0 := by omega
    have e3 : i * sz = 0 := by omega
    have := cell (by omega)
    rw [e3, e2]
    show w.cell? ⟨a.block, a.off, none⟩ = w.cell? a
    rw [← this]
   ·rw [addr i j hz]
  have split : ∀ k, k < len * sz → ∃ i j, k = i * sz + j ∧ j < sz ∧ i < len := fun k hk =>
   ⟨k / sz, k % sz, (Nat.div_add_mod' k sz).symm, Nat.mod_lt _ h0, Nat.div_lt_of_lt_mul (by rw [Nat.mul_comm]; exact hk)⟩
  refine ⟨_, (List.range len).map G', rfl, rfl, ?_, ?_, ?_⟩
  ·refine .sl .sh _ (some a) len cap sz (fun k => (w.cell? ⟨a.block, a.off + k, none⟩).getD undef) (by simp) (by simp) hlc (by simp) (by simp) ?_ ?_ ?_ ?_
   ·intro e he
    obtain ⟨g, hg, rfl⟩ := List.mem_map.1 he
    obtain ⟨i, hi, rfl⟩ := List.mem_map.1 hg
    obtain ⟨cs, k1, k2, _⟩ := hcell i (List.mem_range.1 hi)
    rw [k1.1, k2]
   ·intro k hk
    obtain ⟨i, j, rfl, hj, hlt⟩ := split k hk
    obtain ⟨cs, k1, k2, k3, k4⟩ := hcell i hlt
    have hjl : j < cs.length := by omega
    rw [k4 j hj, List.getElem?_eq_getElem hjl]
    exact k3 _ (List.getElem_mem hjl)
   ·intro hn0
    have ha := cell (by omega)
    refine ⟨a.block, a.off, by rw [← ha], ?_, ?_⟩
    ·obtain ⟨cs, k1, k2, k3, k4⟩ := hcell (len - 1) (by omega)
     have hlast := k4 (sz - 1) (by omega)
     rw [List.getElem?_eq_getElem (by omega)] at hlast
     have hmul : (len - 1) * sz + sz = len * sz := by
      rw [← Nat.succ_mul]; congr 1; omega
     show a.off + len * sz ≤ cellsIn w a.block
     unfold World.cell? at hlast
     unfold cellsIn
     split at hlast
     ·rename_i c _ _ hheap
      rw [hheap]
      simp only
      simp at hlast
      have := (Array.getElem?_eq_some_iff.1 hlast).1
      omega
     ·cases hlast
    ·intro k hk
     obtain ⟨i, j, rfl, hj, hlt⟩ := split k hk
     obtain ⟨cs, k1, k2, k3, k4⟩ := hcell i hlt
     rw [k4 j hj, List.getElem?_eq_getElem (by omega)]
     rfl
   ·intro i e j x he hx
    rw [List.map_map, List.getElem?_map] at he
    have hlt : i < len := by
     apply Classical.byContradiction
     intro hh
     rw [List.getElem?_eq_none (by simpa using hh)] at he
     cases he
    rw [List.getElem?_range hlt] at he
    simp only [Option.map_some, Option.some.injEq, Function.comp_apply] at he
    subst he
    obtain ⟨cs, k1, k2, k3, k4⟩ := hcell i hlt
    have hj : j < sz := by
     have := (List.getElem?_eq_some_iff.1 hx).1
     rw [k1.1] at this
     omega
    have hjl : j < cs.length := by omega
    rw [k4 j hj, List.getElem?_eq_getElem hjl]
    exact k1.2 j x _ hx (List.getElem?_eq_getElem hjl)
  ·rw [List.all_eq_true]
   intro g hg
   obtain ⟨i, hi, rfl⟩ := List.mem_map.1 hg
   obtain ⟨cs, y, _, _, _, _, k5, _⟩ := hG i (List.mem_range.1 hi)
   exact k5
  ·have := bulk_list mu ((List.range len).map G') (elems.map (·.1)) (by simp [hel]) (fun i g y hg hy => by
    have hlt : i < len := by
     apply Classical.byContradiction
     intro hh
     rw [List.getElem?_eq_none (by simpa using hh)] at hg
     cases hg
    rw [List.getElem?_map, List.getElem?_range hlt] at hg
    simp only [Option.map_some, Option.some.injEq] at hg
    subst hg
    obtain ⟨cs, z, k0, _, _, _, _, k6, _⟩ := hG i hlt
    rw [List.getElem?_map, k0] at hy
    simp only [Option.map_some, Option.some.injEq] at hy
    subst hy
    exact k6)
   simp only [Rows.uptoBulk]
   omega
theorem cells_int : Tryz.prog.cellsOf 3 = 1 := by kernel_rfl
theorem cells_string : Tryz.prog.cellsOf 9 = 1 := by kernel_rfl
theorem cells_opd : Tryz.prog.cellsOf 50 = 3 := by kernel_rfl
theorem cells_stm : Tryz.prog.cellsOf 40 = 8 := by kernel_rfl
theorem cells_fun : Tryz.prog.cellsOf 42 = 3 := by kernel_rfl
theorem cells_prg : Tryz.prog.cellsOf 24 = 1 := by kernel_rfl
theorem cells_sOpd : Tryz.prog.cellsOf 36 = 1 := by kernel_rfl
theorem cells_sStr : Tryz.prog.cellsOf 37 = 1 := by kernel_rfl
theorem cells_sStm : Tryz.prog.cellsOf 38 = 1 := by kernel_rfl
theorem cells_sFun : Tryz.prog.cellsOf 22 = 1 := by kernel_rfl
/-! ### how great -/
def bO (o : Opd) : Nat := o.name.length + 4
def bW (w : Wd) : Nat := w.length + 1
mutual
def bS : GStmt → Nat
 | .mk _ x y p a ps th el => 5 + x.length + y.length + p.length + ((a.map bO).sum + 1) + ((ps.map bW).sum + 1) + (bL th + 1) + (bL el + 1)
def bL : List GStmt → Nat
 | [] => 0
 | s :: l => bS s + bL l
end
theorem bL_sum : ∀ l : List GStmt, bL l = (l.map bS).sum
 | [] => rfl
 | s :: l => by simp only [bL, List.map_cons, List.sum_cons, bL_sum l]
theorem okSs_all : ∀ l : List GStmt, okSs l = l.all okS
 | [] => rfl
 | s :: l => by simp only [okSs, List.all_cons, okSs_all l]
def bF (f : GFunc) : Nat := f.name.length + 2 + ((f.params.map bW).sum + 1) + (bL f.body + 1)
section
variable {H : Type} {enc : TypeId × Value → H} {w : World} {base : Nat} {spare : Nat → Bool} {held : Bool}
theorem open_opd {fuel : Nat} {cs : List Value} {x : DataW H × List MemPlace} (h : DataW.trod enc Tryz.prog w base spare held fuel 50 cs = some x) :
  ∃ g : Opd, RelL (ghost w) w (encOpd g) cs ∧ cs.length = 3 ∧ (∀ v ∈ cs, v.oneCell' = true) ∧ okO g = true ∧ bO g ≤ Rows.uptoBulk x.1 := by
 obtain ⟨xs, n, rfl, rfl, hl, hxs, hf⟩ := DataW.trod_struct Tryz.underlying50 h
 rw [cells_opd] at hl
 obtain ⟨c0, c1, c2, rfl⟩ : ∃ c0 c1 c2, cs = [c0, c1, c2] := by
  match cs, hl with
  | [c0, c1, c2], _ => exact ⟨c0, c1, c2, rfl⟩
 obtain ⟨x0, x1, x2, rfl⟩ : ∃ x0 x1 x2, xs = [x0, x1, x2] := by
  match xs, hxs with
  | [x0, x1, x2], _ => exact ⟨x0, x1, x2, rfl⟩
 have tk : ∀ (c : Value) (r : List Value) n, n = 1 → (c :: r).take n = [c] := fun c r n h => by subst h; rfl
 have f0 : DataW.trod enc Tryz.prog w base spare held n 3 ([c0, c1, c2].take (Tryz.prog.cellsOf 3)) = some x0 := hf 0 _ rfl
 have f1 : DataW.trod enc Tryz.prog w base spare held n 3 ([c1, c2].take (Tryz.prog.cellsOf 3)) = some x1 := hf 1 _ rfl
 have f2 : DataW.trod enc Tryz.prog w base spare held n 9 ([c2].take (Tryz.prog.cellsOf 9)) = some x2 := hf 2 _ rfl
 rw [tk _ _ _ cells_int] at f0 f1
 rw [tk _ _ _ cells_string] at f2
 obtain ⟨k, e0, rfl, _⟩ := DataW.trod_int und_int f0
 obtain ⟨a, e1, rfl, wa⟩ := DataW.trod_int und_int f1
 obtain ⟨s, e2, rfl, _⟩ := DataW.trod_string und_string f2
 simp only [List.cons.injEq, and_true] at e0 e1 e2
 subst e0; subst e1; subst e2
 refine ⟨⟨k, a, s.data.toList⟩, ?_, rfl, ?_, ?_, ?_⟩
 ·rw [ba_eta s]
  exact .cons (.lit _) (.cons (.lit _) (.cons (by simp only [ba_list]; exact .lit _) (.nil _ _)))
 ·intro v hv
  simp only [List.mem_cons, List.not_mem_nil, or_false] at hv
  rcases hv with rfl | rfl | rfl <;> rfl
 ·have hmin : IntKind.min .i64 = -9223372036854775808 := by kernel_rfl
  have hmax : IntKind.max .i64 = 9223372036854775807 := by kernel_rfl
  simp only [Lit.wf, hmin, hmax] at wa
  exact wa
 ·simp only [bO, List.map_cons, List.map_nil, Rows.uptoBulk, Rows.uptoBulkAll]
  omega
theorem open_strC {fuel : Nat} {cs : List Value} {x : DataW H × List MemPlace} (h : DataW.trod enc Tryz.prog w base spare held fuel 9 cs = some x) :
  ∃ g : Wd, RelL (ghost w) w (encStr g) cs ∧ cs.length = 1 ∧ (∀ v ∈ cs, v.oneCell' = true) ∧ true = true ∧ bW g ≤ Rows.uptoBulk x.1 := by
 obtain ⟨s, rfl, rfl, _⟩ := DataW.trod_string und_string h
 refine ⟨s.data.toList, ?_, rfl, ?_, rfl, ?_⟩
 ·rw [ba_eta s]
  exact .cons (by simp only [ba_list]; exact .lit _) (.nil _ _)
 ·intro v hv
  simp only [List.mem_cons, List.not_mem_nil, or_false] at hv
  rcases hv with rfl
  rfl
 ·simp only [bW, Rows.uptoBulk]
  omega
def StmP (enc : TypeId × Value → H) (w : World) (base : Nat) (spare : Nat → Bool) (held : Bool) (fuel : Nat) : Prop :=
 ∀ (cs : List Value) (x : DataW H × List MemPlace), DataW.trod enc Tryz.prog w base spare held fuel 40 cs = some x →
  ∃ g : GStmt, RelL (ghost w) w (encStmt g) cs ∧ cs.length = 8 ∧ (∀ v ∈ cs, v.oneCell' = true) ∧ okS g = true ∧ bS g ≤ Rows.uptoBulk x.1
theorem stm_step (fuel : Nat) (ih : ∀ m, m < fuel → StmP enc w base spare held m) : StmP enc w base spare held fuel := by
 intro cs x h
 obtain ⟨xs, n, rfl, rfl, hl, hxs, hf⟩ := DataW.trod_struct Tryz.underlying40 h
 rw [cells_stm] at hl
 obtain ⟨c0, c1, c2, c3, c4, c5, c6, c7, rfl⟩ : ∃ c0 c1 c2 c3 c4 c5 c6 c7, cs = [c0, c1, c2, c3, c4, c5, c6, c7] := by
  match cs, hl with
  | [c0, c1, c2, c3, c4, c5, c6, c7], _ => exact ⟨c0, c1, c2, c3, c4, c5, c6, c7, rfl⟩
 obtain ⟨x0, x1, x2, x3, x4, x5, x6, x7, rfl⟩ : ∃ x0 x1 x2 x3 x4 x5 x6 x7, xs = [x0, x1, x2, x3, x4, x5, x6, x7] := by
  match xs, hxs with
  | [x0, x1, x2, x3, x4, x5, x6, x7], _ => exact ⟨x0, x1, x2, x3, x4, x5, x6, x7, rfl⟩
 have tk : ∀ (c : Value) (r : List Value) n, n = 1 → (c :: r).take n = [c] := fun c r n h => by subst h; rfl
 have f0 : DataW.trod enc Tryz.prog w base spare held n 3 ([c0, c1, c2, c3, c4, c5, c6, c7].take (Tryz.prog.cellsOf 3)) = some x0 := hf 0 _ rfl
 have f1 : DataW.trod enc Tryz.prog w base spare held n 9 ([c1, c2, c3, c4, c5, c6, c7].take (Tryz.prog.cellsOf 9)) = some x1 := hf 1 _ rfl
 have f2 : DataW.trod enc Tryz.prog w base spare held n 9 ([c2, c3, c4, c5, c6, c7].take (Tryz.prog.cellsOf 9)) = some x2 := hf 2 _ rfl
 have f3 : DataW.trod enc Tryz.prog w base spare held n 9 ([c3, c4, c5, c6, c7].take (Tryz.prog.cellsOf 9)) = some x3 := hf 3 _ rfl
 have f4 : DataW.trod enc Tryz.prog w base spare held n 36 ([c4, c5, c6, c7].take (Tryz.prog.cellsOf 36)) = some x4 := hf 4 _ rfl
 have f5 : DataW.trod enc Tryz.prog w base spare held n 37 ([c5, c6, c7].take (Tryz.prog.cellsOf 37)) = some x5 := hf 5 _ rfl
 have f6 : DataW.trod enc Tryz.prog w base spare held n 38 ([c6, c7].take (Tryz.prog.cellsOf 38)) = some x6 := hf 6 _ rfl
 have f7 : DataW.trod enc Tryz.prog w base spare held n 38 ([c7].take (Tryz.prog.cellsOf 38)) = some x7 := hf 7 _ rfl
 rw [tk _ _ _ cells_int] at f0
 rw [tk _ _ _ cells_string] at f1 f2 f3
 rw [tk _ _ _ cells_sOpd] at f4
 rw [tk _ _ _ cells_sStr] at f5
 rw [tk _ _ _ cells_sStm] at f6 f7
 obtain ⟨op, e0, rfl, _⟩ := DataW.trod_int und_int f0
 obtain ⟨sx, e1, rfl, _⟩ := DataW.trod_string und_string f1
 obtain ⟨sy, e2, rfl, _⟩ := DataW.trod_string und_string f2
 obtain ⟨sp, e3, rfl, _⟩ := DataW.trod_string und_string f3
 obtain ⟨v4, a, e4, o4, r4, k4, b4⟩ := open_slice Tryz.underlying36 cells_opd (by omega) encOpd okO bO (fun _ _ _ _ h => open_opd h) f4
 obtain ⟨v5, ps, e5, o5, r5, k5, b5⟩ := open_slice Tryz.underlying37 cells_string (by omega) encStr (fun _ => true) bW (fun _ _ _ _ h => open_strC h) f5
 obtain ⟨v6, th, e6, o6, r6, k6, b6⟩ := open_slice Tryz.underlying38 cells_stm (by omega) encStmt okS bS (fun m _ _ hm h => ih m (by omega) _ _ h) f6
 obtain ⟨v7, el, e7, o7, r7, k7, b7⟩ := open_slice Tryz.underlying38 cells_stm (by omega) encStmt okS bS (fun m _ _ hm h => ih m (by omega) _ _ h) f7
 simp only [List.cons.injEq, and_true] at e0 e1 e2 e3 e4 e5 e6 e7
 subst e0; subst e1; subst e2; subst e3; subst e4; subst e5; subst e6; subst e7
 refine ⟨.mk op sx.data.toList sy.data.toList sp.data.toList a ps th el, ?_, rfl, ?_, ?_, ?_⟩
 ·rw [encStmt_mk, ← ba_eta sx, ← ba_eta sy, ← ba_eta sp]
  exact .cons (.lit _) (.cons (.lit _) (.cons (.lit _) (.cons (.lit _) (.cons r4 (.cons r5 (.cons r6 (.cons r7 (.nil _ _))))))))
 ·intro v hv
  simp only [List.mem_cons, List.not_mem_nil, or_false] at hv
  rcases hv with rfl | rfl | rfl | rfl | rfl | rfl | rfl | rfl
  ·rfl
  ·rfl
  ·rfl
  ·rfl
  ·exact o4
  ·exact o5
  ·exact o6
  ·exact o7
 ·simp only [okS, okSs_all, k4, k6, k7, Bool.and_self]
 ·simp only [bS, bL_sum, List.map_cons, List.map_nil, Rows.uptoBulk, Rows.uptoBulkAll]
  omega
theorem open_stm (fuel : Nat) : StmP enc w base spare held fuel := by
 induction fuel using Nat.strongRecOn with
 | _ fuel ih => exact stm_step fuel ih
theorem open_fun {fuel : Nat} {cs : List Value} {x : DataW H × List MemPlace} (h : DataW.trod enc Tryz.prog w base spare held fuel 42 cs = some x) :
  ∃ g : GFunc, RelL (ghost w) w (encFunc g) cs ∧ cs.length = 3 ∧ (∀ v ∈ cs, v.oneCell' = true) ∧ okF g = true ∧ bF g ≤ Rows.uptoBulk x.1 := by
 obtain ⟨xs, n, rfl, rfl, hl, hxs, hf⟩ := DataW.trod_struct Tryz.underlying42 h
 rw [cells_fun] at hl
 obtain ⟨c0, c1, c2, rfl⟩ : ∃ c0 c1 c2, cs = [c0, c1, c2] := by
  match cs, hl with
  | [c0, c1, c2], _ => exact ⟨c0, c1, c2, rfl⟩
 obtain ⟨x0, x1, x2, rfl⟩ : ∃ x0 x1 x2, xs = [x0, x1, x2] := by
  match xs, hxs with
  | [x0, x1, x2], _ => exact ⟨x0, x1, x2, rfl⟩
 have tk : ∀ (c : Value) (r : List Value) n, n = 1 → (c :: r).take n = [c] := fun c r n h => by subst h; rfl
 have f0 : DataW.trod enc Tryz.prog w base spare held n 9 ([c0, c1, c2].take (Tryz.prog.cellsOf 9)) = some x0 := hf 0 _ rfl
 have f1 : DataW.trod enc Tryz.prog w base spare held n 37 ([c1, c2].take (Tryz.prog.cellsOf 37)) = some x1 := hf 1 _ rfl
 have f2 : DataW.trod enc Tryz.prog w base spare held n 38 ([c2].take (Tryz.prog.cellsOf 38)) = some x2 := hf 2 _ rfl
 rw [tk _ _ _ cells_string] at f0
 rw [tk _ _ _ cells_sStr] at f1
 rw [tk _ _ _ cells_sStm] at f2
 obtain ⟨s, e0, rfl, _⟩ := DataW.trod_string und_string f0
 obtain ⟨v5, ps, e5, o5, r5, k5, b5⟩ := open_slice Tryz.underlying37 cells_string (by omega) encStr (fun _ => true) bW (fun _ _ _ _ h => open_strC h) f1
 obtain ⟨v6, bd, e6, o6, r6, k6, b6⟩ := open_slice Tryz.underlying38 cells_stm (by omega) encStmt okS bS (fun m _ _ hm h => open_stm m _ _ h) f2
 simp only [List.cons.injEq, and_true] at e0 e5 e6
 subst e0; subst e5; subst e6
 refine ⟨⟨s.data.toList, ps, bd⟩, ?_, rfl, ?_, ?_, ?_⟩
 ·simp only [encFunc]
  rw [← ba_eta s]
  exact .cons (.lit _) (.cons r5 (.cons r6 (.nil _ _)))
 ·intro v hv
  simp only [List.mem_cons, List.not_mem_nil, or_false] at hv
  rcases hv with rfl | rfl | rfl
  ·rfl
  ·exact o5
  ·exact o6
 ·simp only [okF, okSs_all, k6]
 ·simp only [bF, bL_sum, List.map_cons, List.map_nil, Rows.uptoBulk, Rows.uptoBulkAll]
  omega
theorem open_prg {fuel : Nat} {cs : List Value} {x : DataW H × List MemPlace} (h : DataW.trod enc Tryz.prog w base spare held fuel 24 cs = some x) :
  ∃ (v : Value) (fs : List GFunc), cs = [v] ∧ Rel (ghost w) w (.sl .sh (fs.map encFunc)) v ∧ okP fs = true ∧ (fs.map bF).sum + 2 ≤ Rows.uptoBulk x.1 := by
 obtain ⟨xs, n, rfl, rfl, hl, hxs, hf⟩ := DataW.trod_struct Tryz.underlying24 h
 rw [cells_prg] at hl
 obtain ⟨c0, rfl⟩ : ∃ c0, cs = [c0] := by
  match cs, hl with
  | [c0], _ => exact ⟨c0, rfl⟩
 obtain ⟨x0, rfl⟩ : ∃ x0, xs = [x0] := by
  match xs, hxs with
  | [x0], _ => exact ⟨x0, rfl⟩
 have tk : ∀ (c : Value) (r : List Value) n, n = 1 → (c :: r).take n = [c] := fun c r n h => by subst h; rfl
 have f0 : DataW.trod enc Tryz.prog w base spare held n 22 ([c0].take (Tryz.prog.cellsOf 22)) = some x0 := hf 0 _ rfl
 rw [tk _ _ _ cells_sFun] at f0
 obtain ⟨v, fs, e, _, r, k, b⟩ := open_slice Tryz.underlying22 cells_fun (by omega) encFunc okF bF (fun _ _ _ _ h => open_fun h) f0
 refine ⟨v, fs, e, r, k, ?_⟩
 simp only [List.map_cons, List.map_nil, Rows.uptoBulk, Rows.uptoBulkAll]
 omega
end
/-! ### what is not too great is a program that a machine can hold -/
theorem sum_len {T : Type} (mu : T → Nat) (h : ∀ t, 1 ≤ mu t) : ∀ l : List T, l.length ≤ (l.map mu).sum
 | [] => Nat.le_refl _
 | t :: l => by
  have h1 := h t
  have h2 := sum_len mu h l
  simp only [List.length_cons, List.map_cons, List.sum_cons]
  omega
theorem bS_pos : ∀ s : GStmt, 1 ≤ bS s
 | .mk _ _ _ _ _ _ _ _ => by simp only [bS]; omega
theorem bL_len (l : List GStmt) : l.length ≤ bL l := by rw [bL_sum]; exact sum_len bS bS_pos l
mutual
theorem fit_bS : ∀ s : GStmt, bS s ≤ BIG → fitS s = true
 | .mk _ x y p a ps th el, h => by
  simp only [bS] at h
  have h1 := sum_len bO (fun o => by unfold bO; omega) a
  have h2 := sum_len bW (fun o => by unfold bW; omega) ps
  have h3 := bL_len th
  have h4 := bL_len el
  exact fit_mk (by omega) (by omega) (by omega) (by omega) (fit_bL th (by omega)) (fit_bL el (by omega))
theorem fit_bL : ∀ l : List GStmt, bL l ≤ BIG → fitSs l = true
 | [], _ => rfl
 | s :: l, h => by
  simp only [bL] at h
  simp only [fitSs, fit_bS s (by omega), fit_bL l (by omega), Bool.and_self]
end
mutual
theorem cnt_bS : ∀ s : GStmt, cntS s ≤ bS s
 | .mk _ x y p a ps th el => by
  have h1 := cnt_bL th
  have h2 := cnt_bL el
  simp only [cntS, bS]
  omega
theorem cnt_bL : ∀ l : List GStmt, cntL l ≤ bL l
 | [] => Nat.le_refl _
 | s :: l => by
  have h1 := cnt_bS s
  have h2 := cnt_bL l
  simp only [cntL, bL]
  omega
end
theorem itoa_len (n : Int) (h1 : -9223372036854775808 ≤ n) (h2 : n ≤ 9223372036854775807) : (Lib.itoa n).length ≤ 20 := by
 unfold Lib.itoa
 split
 ·have := dec_len 18 n.natAbs (by omega)
  simp only [List.length_cons]
  omega
 ·have := dec_len 18 n.toNat (by omega)
  omega
theorem wt_opd (o : Opd) (h : okO o = true) : wt (wOpd o) ≤ 8 * bO o := by
 simp only [okO, Bool.and_eq_true, decide_eq_true_eq] at h
 have := itoa_len o.n h.1 h.2
 unfold wOpd bO
 repeat' split
 all_goals simp only [wt, wBool, tNull, tTrue, tFalse, List.length_cons, List.length_nil]
 all_goals first | omega | (split <;> simp only [List.length_cons, List.length_nil] <;> omega)
theorem wt_first (a : List Opd) (h : a.all okO = true) : wt (wFirst a) ≤ 8 * (a.map bO).sum := by
 cases a with
 | nil => exact Nat.zero_le _
 | cons o a =>
  rw [List.all_cons, Bool.and_eq_true] at h
  have := wt_opd o h.1
  simp only [wFirst, List.map_cons, List.sum_cons]
  omega
theorem wt_sepA : ∀ (a : List Opd), a.all okO = true → wt (wSep (a.map wOpd)) ≤ 9 * (a.map bO).sum := by
 intro a h
 refine Nat.le_trans (wt_args a) ?_
 induction a with
 | nil => exact Nat.le_refl _
 | cons o a ih =>
  rw [List.all_cons, Bool.and_eq_true] at h
  have h1 := wt_opd o h.1
  have h2 := ih h.2
  have h3 : 4 ≤ bO o := by unfold bO; omega
  simp only [lenA, List.map_cons, List.sum_cons]
  omega
theorem wt_argsB (a : List Opd) (h : a.all okO = true) : wt (wArgs a) ≤ 9 * (a.map bO).sum + 4 := by
 rw [wArgs_eq, wt, wt_app]
 have := wt_sepA a h
 simp only [wt, List.length_cons, List.length_nil]
 omega
theorem wt_zip : ∀ (ps : List Wd) (a : List Opd), a.all okO = true → wt (wSep ((ps.zip a).map wPair)) ≤ 3 * (ps.map bW).sum + 9 * (a.map bO).sum := by
 intro ps a h
 refine Nat.le_trans (wt_props ps a) ?_
 have h1 : lenN ps ≤ 3 * (ps.map bW).sum := by
  induction ps with
  | nil => exact Nat.le_refl _
  | cons p ps ih => simp only [lenN, bW, List.map_cons, List.sum_cons] at ih ⊢; omega
 have h2 : lenA a ≤ 9 * (a.map bO).sum := by
  clear h1
  induction a with
  | nil => exact Nat.le_refl _
  | cons o a ih =>
   rw [List.all_cons, Bool.and_eq_true] at h
   have h1 := wt_opd o h.1
   have h2 := ih h.2
   have h3 : 4 ≤ bO o := by unfold bO; omega
   simp only [lenA, List.map_cons, List.sum_cons]
   omega
 omega
theorem drop_all {a : List Opd} (h : a.all okO = true) (n : Nat) : (a.drop n).all okO = true := by
 rw [List.all_eq_true] at h ⊢
 exact fun o ho => h o (List.mem_of_mem_drop ho)
theorem drop_sum (a : List Opd) (n : Nat) : ((a.drop n).map bO).sum ≤ (a.map bO).sum := by
 have := congrArg (fun l : List Opd => (l.map bO).sum) (List.take_append_drop n a)
 simp only [List.map_append, List.sum_append] at this
 omega
theorem wt_obj (ps : List Wd) (a : List Opd) (h : a.all okO = true) : wt (wObj ps a) ≤ 3 * (ps.map bW).sum + 17 * (a.map bO).sum + 14 := by
 have h1 := wt_zip ps a h
 have h2 := wt_first (a.drop (min ps.length a.length)) (drop_all h _)
 have h3 := drop_sum a (min ps.length a.length)
 simp only [wObj, wProps_eq, wt_app, wt, tNew, tProto, List.length_cons, List.length_nil]
 omega
theorem wt_val (op : Int) (y p : Wd) (a : List Opd) (ps : List Wd) (h : a.all okO = true) : wt (wVal op y p a ps) ≤ y.length + p.length + 3 * (ps.map bW).sum + 17 * (a.map bO).sum + 14 := by
 have h1 := wt_first a h
 have h2 := wt_first (a.drop (min a.length 1)) (drop_all h _)
 have h3 := drop_sum a (min a.length 1)
 have h4 := wt_obj ps a h
 have h5 := wt_argsB a h
 unfold wVal
 repeat' split
 all_goals (try simp only [wt_app, wt, tCall, tIn, List.length_cons, List.length_nil])
 all_goals omega
mutual
theorem wt_bS : ∀ s : GStmt, okS s = true → wt (wStmt s) ≤ 24 * bS s
 | .mk op x y p a ps th el, h => by
  simp only [okS, Bool.and_eq_true] at h
  have h1 := wt_bL th h.2.1
  have h2 := wt_bL el h.2.2
  have h3 := wt_first a h.1
  have h4 := wt_val op y p a ps h.1
  have h5 := wt_else el
  rw [wt_blk] at h5
  by_cases h9 : op = 9
  ·subst h9
   rw [wStmt_if]
   simp only [wt_app, wt_blk, wt, tIf, bS, List.length_cons, List.length_nil]
   omega
  by_cases h10 : op = 10
  ·subst h10
   rw [wStmt_while]
   simp only [wt_app, wt_blk, wt, tWhile, bS, List.length_cons, List.length_nil]
   omega
  by_cases h8 : op = 8
  ·subst h8
   rw [wStmt_out]
   simp only [wt_app, wt, tOut, bS, List.length_cons, List.length_nil]
   omega
  by_cases h11 : op = 11
  ·subst h11
   rw [wStmt_ret]
   simp only [wt_app, wt, tReturn, bS, List.length_cons, List.length_nil]
   omega
  by_cases hs : op = 3
  ·subst hs
   rw [wStmt_set]
   simp only [wt_app, wt, bS, List.length_cons, List.length_nil]
   omega
  rw [wStmt_val _ _ _ _ _ _ _ h9 h10 h8 h11 hs]
  simp only [wt_app, wt, bS, List.length_cons, List.length_nil]
  omega
theorem wt_bL : ∀ l : List GStmt, okSs l = true → wt (wStmts l) ≤ 24 * bL l
 | [], _ => Nat.zero_le _
 | s :: l, h => by
  simp only [okSs, Bool.and_eq_true] at h
  have h1 := wt_bS s h.1
  have h2 := wt_bL l h.2
  simp only [wStmts, wt_app, bL]
  omega
end
theorem lenN_b (ps : List Wd) : lenN ps ≤ 3 * (ps.map bW).sum := by
 induction ps with
 | nil => exact Nat.le_refl _
 | cons p ps ih => simp only [lenN, bW, List.map_cons, List.sum_cons] at ih ⊢; omega
theorem wt_bF (f : GFunc) (h : okF f = true) : wt (wFunc f) ≤ 24 * bF f := by
 obtain ⟨nm, ps, bd⟩ := f
 have h1 := wt_bL bd h
 have h2 := wt_names ps
 have h3 := lenN_b ps
 rw [wt_func, wPars_eq, wt_blk]
 simp only [bF]
 omega
theorem fine_bulk {fs : List GFunc} (hk : okP fs = true) (hb : (fs.map bF).sum ≤ 2097152) : Fine fs := by
 have hlen := sum_len bF (fun f => by unfold bF; omega) fs
 have each : ∀ f ∈ fs, bF f ≤ 2097152 := by
  intro f hf
  obtain ⟨l, r, rfl⟩ := List.append_of_mem hf
  simp only [List.map_append, List.map_cons, List.sum_append, List.sum_cons] at hb
  omega
 refine ⟨hk, ?_, ?_, ?_, ?_⟩
 ·simp only [fitP, Bool.and_eq_true, decide_eq_true_eq]
  refine ⟨by unfold BIG; omega, ?_⟩
  rw [List.all_eq_true]
  intro f hf
  have := each f hf
  obtain ⟨nm, ps, bd⟩ := f
  simp only [bF] at this
  have h1 := sum_len bW (fun o => by unfold bW; omega) ps
  have h2 := bL_len bd
  simp only [fitF, Bool.and_eq_true, decide_eq_true_eq]
  exact ⟨by unfold BIG; omega, by unfold BIG; omega, fit_bL bd (by unfold BIG; omega)⟩
 ·have : ∀ gs : List GFunc, cntP gs ≤ (gs.map bF).sum := by
   intro gs
   induction gs with
   | nil => exact Nat.le_refl _
   | cons g gs ih =>
    have := cnt_bL g.body
    simp only [cntP, List.map_cons, List.sum_cons, bF]
    omega
  have := this fs
  unfold SZ; omega
 ·have : ∀ gs : List GFunc, sumF gs ≤ (gs.map bF).sum := by
   intro gs
   induction gs with
   | nil => exact Nat.le_refl _
   | cons g gs ih =>
    have h1 := cnt_bL g.body
    have h2 := sum_len bW (fun o => by unfold bW; omega) g.params
    simp only [sumF, List.map_cons, List.sum_cons, bF]
    omega
  have := this fs
  unfold SZ; omega
 ·rw [spelt_wt]
  have : ∀ gs : List GFunc, okP gs = true → wt (wProg gs) ≤ 24 * (gs.map bF).sum := by
   intro gs
   induction gs with
   | nil => exact fun _ => Nat.le_refl _
   | cons g gs ih =>
    intro h
    rw [okP, List.all_cons, Bool.and_eq_true] at h
    have h1 := wt_bF g h.1
    have h2 := ih h.2
    simp only [wProg, wt_app, List.map_cons, List.sum_cons]
    omega
  have := this fs hk
  unfold SZ; omega
end Go.Proofs.YtghhkbigmmjanaaGreatDoor.VA

/-! Qe1 -/
namespace Go.Proofs.YtghhkbigmmjanaaGreatDoor.VA
open Go Go.RowKit
theorem rel_prg {g : Gh} {w : World} {v : Value} {fs : List GFunc} (h : Rel g w (.sl .sh (fs.map encFunc)) v) : Rel g w (.agg [.sl .sh (fs.map encFunc)]) (.agg #[v]) :=
 .agg _ _ rfl (fun i x u hx hu => by
  match i with
  | 0 => simp at hx hu; subst hx; subst hu; exact h
  | i + 1 => simp at hx)
theorem rel_stm {g : Gh} {w : World} {vs : Array Value} {s : GStmt} (h : RelL g w (encStmt s) vs.toList) : Rel g w (.agg (encStmt s)) (.agg vs) :=
 .agg _ _ (by simpa using h.1) (fun i x u hx hu => h.2 i x u hx (by simpa using hu))
end Go.Proofs.YtghhkbigmmjanaaGreatDoor.VA

/-! Wk -/
namespace Go.Proofs.YtghhkbigmmjanaaGreatDoor.VA
open Go Go.RowKit
set_option maxRecDepth 100000

theorem own : ownKnob Tryz.prog.godebug = none := by kernel_rfl
noncomputable def low : Nat := (World.holding Tryz.prog default ⟨#[], #[], []⟩).heap.size
/-- The cells that a datum's literals tell. -/
def litCells {H : Type} : List (DataW H) → List Value
 | .lit (.int k n) :: r => .int k n :: litCells r
 | _ :: r => litCells r
 | [] => []
def tabCells : DataW Unit → Array Value
 | .agg l => (litCells l).toArray
 | _ => #[]
def errText : DataW Unit → Value
 | .iface _ (.ptr (.agg [.lit (.string s)])) => .string ⟨s.toArray⟩
 | _ => .nilIface
noncomputable def laidWorld (os : Os) : World :=
 let w0 := World.holding Tryz.prog os ⟨#[.cells #[errText Rows.laid_strconv_ErrSyntax] 173, .cells #[errText Rows.laid_strconv_ErrRange] 173], #[], []⟩
 let put (h : Array Obj) (g : Nat) (cs : Array Value) : Array Obj := h.modify g fun
  | .cells _ t frozen => .cells cs t frozen
  | o => o
 let h1 := put w0.heap 2 #[.iface 171 (.pointer (some ⟨low, 0, none⟩))]
 let h2 := put h1 3 #[.iface 171 (.pointer (some ⟨low + 1, 0, none⟩))]
 let h3 := put h2 1 (tabCells Rows.laid_internal_strconv_uint64pow10)
 let h4 := put h3 4 (tabCells Rows.laid_math_bits_deBruijn32tab)
 let h5 := put h4 5 (tabCells Rows.laid_math_bits_deBruijn64tab)
 { w0 with heap := h5 }
theorem laid_met (os : Os) (args : Array Value) : laidMet Tryz.prog Rows.parseTextsRow.laid ((laidWorld os).forCall (fun _ _ => 0) ⟨#[], args, []⟩).memory :=
 laidMet_of_run' 8 (by kernel_rfl) (by kernel_rfl)
end Go.Proofs.YtghhkbigmmjanaaGreatDoor.VA

/-! Wl -/
namespace Go.Proofs.YtghhkbigmmjanaaGreatDoor.VA
open Go Go.RowKit
set_option maxRecDepth 100000
def laid5 : List (String × DataW Unit) := [("math/bits.deBruijn32tab", Rows.laid_math_bits_deBruijn32tab), ("math/bits.deBruijn64tab", Rows.laid_math_bits_deBruijn64tab), ("internal/strconv.uint64pow10", Rows.laid_internal_strconv_uint64pow10), ("strconv.ErrRange", Rows.laid_strconv_ErrRange), ("strconv.ErrSyntax", Rows.laid_strconv_ErrSyntax)]
theorem tab_data : (Rows.laid_internal_strconv_uint64pow10 : DataW Unit) = Lib.tabData .u64 Lib.pow10Tab := by kernel_rfl
theorem tab_glob : Tryz.prog.globalNamed "internal/strconv.uint64pow10" = some 1 := by kernel_rfl
theorem tab_type : (Tryz.prog.globals[1]?).map (·.type) = some 157 := by kernel_rfl
theorem tab_und : Tryz.prog.underlying 157 = some (.array 20 133) := by kernel_rfl
theorem tab_elem : Tryz.prog.underlying 133 = some (.int .u64) := by kernel_rfl
theorem tab_one : Tryz.prog.cellsOf 133 = 1 := by kernel_rfl
theorem tab_all : Tryz.prog.cellsOf 157 = 20 := by kernel_rfl
theorem laid_met5 {W : World} (h : laidMetH Tryz.prog laid5 W) : laidMet Tryz.prog laid5 W := h
theorem cc_of {W : World} (h : laidMetH Tryz.prog laid5 W) : CC.holds W.heap.size W := by
 obtain ⟨ps, hv, _⟩ := laid_met5 h
 simp only [laid5, DataW.LaidVars] at hv
 obtain ⟨_, _, _, _, _, _, _, _, _, _, ⟨_, _, _, _, _, _, _, _, _, _, ⟨g', t', cs, fuel, p, q, hg', ht', hvar, hd, _⟩, _⟩, _⟩ := hv
 obtain rfl := Option.some.inj (tab_glob.symm.trans hg')
 obtain rfl := Option.some.inj (tab_type.symm.trans ht')
 rw [tab_data] at hd
 have hc := Lib.cells_of_tab tab_und tab_elem tab_one tab_all hd
 refine ⟨?_, fun g hg => ?_⟩
 ·unfold Lib.TabIs
  rw [hvar, ← hc]
 ·obtain rfl := Option.some.inj (tab_glob.symm.trans hg)
  simp only [World.var?, tab_glob, Option.bind_some] at hvar
  split at hvar
  ·rename_i h1
   exact (Array.getElem?_eq_some_iff.1 h1).1
  ·cases hvar
end Go.Proofs.YtghhkbigmmjanaaGreatDoor.VA
