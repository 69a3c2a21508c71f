/- What is proved: slices.Insert of one element at []api.Loc, walked at this program: in a new row, at the end; and so what it does to an array. Conditions: the rows' sizes.
What is proved: slices.Delete of one element at []api.Loc, walked at this program; so what it does to an array. Conditions: the row's size.
What is proved: slices.Delete of one element at []api.Bind, walked at this program; so what it does to an array. Conditions: the row's size.
What is proved: state.before at binds and at locs, on arrays, in the abstract interpreter (VA). Condition: no longer lists than a machine holds.
What is proved: facts on this program's types, for the flow. No condition.
What is proved: small facts on states' cells and on lists of states, in the abstract interpreter (VA). No condition.
What is proved: plain law: two states joined, as the program joins them and as the reference does. No condition.
What is proved: state.set on arrays with room, in the abstract interpreter (VA). Condition: no longer lists than a machine holds.
What is proved: state.put on arrays with room, in the abstract interpreter (VA). Condition: no longer lists than a machine holds.
What is proved: what state.Join calls, in its table, in the abstract interpreter (VA). Condition: no longer lists than a machine holds.
What is proved: state.Join, in the abstract interpreter (VA). Condition: states of few of each thing.
What is proved: a state is the same as itself, by the document's Same, in the abstract interpreter (VA). Condition: no longer lists than a machine holds.
What is proved: the reference's union of atoms, in the abstract interpreter (VA). Condition: no longer lists than a machine holds.
What is proved: the reference's shape with a field, in the abstract interpreter (VA). Condition: no longer lists than a machine holds. -/
import Derived.Test.YtnoahchdmkpleaaGreatM6
import Derived.Test.YtnoahchdmkpleaaGreatM4
import Derived.Test.YtnoahchdmkpleaaGreatM5
/-! In8 -/
namespace Go.Proofs.YtnoahchdmkpleaaGreat.VA
open Go Go.Shelf Go.RowKit
set_option linter.unusedVariables false
set_option linter.unusedSimpArgs false

theorem locZero {z : Value} (h : ((Tryz.prog.info? 83).bind fun i => i.zero) = some z) : z.cells.size = 4 := by
 have h2 : ((Tryz.prog.info? 83).bind fun i => i.zero).map (fun z => z.cells.size) = some 4 := by kernel_rfl
 rw [h] at h2
 simpa using h2
set_option maxHeartbeats 4000000 in
set_option maxRecDepth 100000 in
theorem insLoc_grow (b n c i vc : Nat) (ad : Addr) (vs : Array Value) (nv : List Value) (t' : TypeId) (z : Value) (w : World) (hi : i < n) (hnc0 : n ≤ c) (hroom : c < n + 1) (hbig : n + 1 ≤ 1000000000000)
  (hz : ((Tryz.prog.info? 83).bind fun i => i.zero) = some z)
  (hb : w.heap[b]? = some (.cells vs t' (0, 0))) (hvl : vs.size = c * 4) (hnl : nv.length = 4)
  (hnc : ∀ j u, nv[j]? = some u → w.cell? (ad.add j) = some u) (h1n : ∀ u, u ∈ nv → u.oneCell' = true) (h1o : ∀ u, u ∈ vs.toList.take (n * 4) → u.oneCell' = true) (hsp : ad.spot = none) :
  Calls Tryz.prog 142 #[.slice (some ⟨b, 0, none⟩) n c, .int .i64 i, .slice (some ad) 1 vc] w fun en w' => ∃ G, G = grownCap w (n + 1) c 83 ∧
   en = .returned (.slice (some ⟨w.heap.size, 0, none⟩) (n + 1) G) ∧
   w' = w.drew.drew.alloc (.cells ((vs.toList.take (i * 4) ++ nv ++ (vs.toList.take (n * 4)).drop (i * 4)).toArray ++ Builtin.zeroCells z.cells (G - (n + 1))) 83) := by
 obtain ⟨vb, voff, sp⟩ := ad
 simp only at hsp
 subst hsp
 have hcn : c = n := by omega
 subst hcn
 have hzc := locZero hz
 have ht : Tryz.prog.underlying 24 = some (.slice 83) := by kernel_rfl
 have htn : Tryz.prog.underlying 3 = some (.int .i64) := by kernel_rfl
 have hinf : ∃ inf, Tryz.prog.info? 83 = some inf ∧ inf.size = 4 ∧ inf.bytes = 64 := ⟨_, rfl, by kernel_rfl, by kernel_rfl⟩
 obtain ⟨inf, hinf1, hinf2, hinf3⟩ := hinf
 have hiz : inf.zero = some z := by rw [hinf1] at hz; exact hz
 clear hz
 have hvl2 : vs.toList.length = c * 4 := by simpa using hvl
 have hbw : b < w.heap.size := (Array.getElem?_eq_some_iff.1 hb).1
 have hvw : vb < w.heap.size := by
  match nv, hnl with
  | [x, y, _, _], _ =>
   have := hnc 0 x rfl
   exact block_lt_of_cell (by simpa [addr_add] using this)
 have hik : i + (c + 1 - i) = c + 1 := by omega
 have hkk : (c : Int) + 1 - (i : Int) = ((c + 1 - i : Nat) : Int) := by omega
 have hold : (Builtin.firstCells inf.size i (.slice (some ⟨b, 0, none⟩) i c)).run Tryz.prog w.drew = .ok (vs.toList.take (i * 4)).toArray w.drew := by
  rw [hinf2]
  refine run_firstCells_some w.drew 4 i ⟨b, 0, none⟩ i c (vs.toList.take (i * 4)) (by rw [List.length_take]; omega) (fun j v hj => ?_)
  rw [addr_add, cell_of_row w.drew b (0 + j) vs t' (0, 0) hb, Nat.zero_add]
  rw [List.getElem?_take] at hj
  split at hj
  ·rwa [Array.getElem?_toList] at hj
  ·cases hj
 obtain ⟨G, hG⟩ : ∃ G, G = grownCap w (c + 1) c 83 := ⟨_, rfl⟩
 have hGn : c + 1 ≤ G := by rw [hG]; exact grownCap_ge w _ _ _
 have hmax : maxLen = 9223372036854775807 := rfl
 have hG63 : G ≤ 9223372036854775807 := by
  have := grownCap_le_maxLen w (c + 1) c 83 (by omega)
  rw [← hG] at this
  omega
 obtain ⟨R1, hR1⟩ : ∃ R1 : Array Value, R1 = (vs.toList.take (i * 4)).toArray ++ Builtin.zeroCells z.cells (c + 1 - i) ++ Builtin.zeroCells z.cells (G - (c + 1)) := ⟨_, rfl⟩
 have hR1l : R1.toList = vs.toList.take (i * 4) ++ (Builtin.zeroCells z.cells (c + 1 - i)).toList ++ (Builtin.zeroCells z.cells (G - (c + 1))).toList := by rw [hR1]; simp
 have hR1s : R1.size = G * 4 := by
  rw [hR1]
  simp only [Array.size_append, List.size_toArray, size_zeroCells, hzc, List.length_take]
  omega
 have hrz : ∀ ty, (Builtin.append_ #[24, 3] ty #[.slice (some ⟨b, 0, none⟩) i c, .int .i64 ((c : Int) + 1 - (i : Int))]).run Tryz.prog w =
   .ok (.slice (some ⟨w.heap.size, 0, none⟩) (c + 1) G) (w.drew.alloc (.cells R1 83)) := fun ty => by
  have h := Lib.run_append_grow_zeros w 24 3 ty 83 inf z .i64 .i64 ht htn hinf1 hiz (some ⟨b, 0, none⟩) i c (vs.toList.take (i * 4)) hold (c + 1 - i) (by omega) (by omega) (by omega) (by omega)
   (by rw [hinf3]; omega) (by rw [hinf3, hik]; exact growslice_fits (by omega) (by omega))
  rw [hik, ← hG, ← hR1] at h
  rw [hkk]
  exact h
 have hdl : ((vs.toList.take (c * 4)).drop (i * 4)).length = (c - i) * 4 := by rw [List.length_drop, List.length_take]; omega
 have hsz : w.heap.size = w.drew.heap.size := rfl
 have hn1 : (w.drew.alloc (.cells R1 83)).heap[w.heap.size]? = some (.cells R1 83 (0, 0)) := heap_alloc_new w.drew _
 obtain ⟨R2, hR2⟩ : ∃ R2, R2 = (R1.toList.take (i * 4) ++ nv ++ R1.toList.drop (i * 4 + nv.length)).toArray := ⟨_, rfl⟩
 have hR1l2 : R1.toList.length = G * 4 := by simpa using hR1s
 have hR2s : R2.size = G * 4 := by
  rw [hR2]
  simp only [List.size_toArray, List.length_append, List.length_take, List.length_drop, hnl, hR1l2]
  omega
 have hcpA : ∀ ty dc, (Builtin.copy_ #[24, 24] ty #[.slice (some ⟨w.heap.size, i * 4, none⟩) (c + 1 - i) dc, .slice (some ⟨vb, voff, none⟩) 1 vc]).run Tryz.prog (w.drew.alloc (.cells R1 83)) =
   .ok (goInt 1) (w.drew.alloc (.cells R2 83)) := fun ty dc => by
  have h := run_copy_rowK (P := Tryz.prog) (w.drew.alloc (.cells R1 83)) 24 24 ty 83 inf w.heap.size (i * 4) (c + 1 - i) dc ⟨vb, voff, none⟩ 1 vc 1 R1 83 nv ht hinf1 hn1
   (by simp only [Nat.min_def]; split <;> omega) (by rw [hinf2, hnl])
   (fun j v hj => by
    rw [addr_add, World.cell?_alloc_lt w.drew _ ⟨vb, voff + j, none⟩ hvw]
    have := hnc j v hj
    rwa [addr_add] at this) (by rw [hR1s]; omega) h1n
  rw [h, ← hR2, alloc_setRow _ _ hsz]
  rfl
 have hn2 : ((w.drew.alloc (.cells R2 83)).drew).heap[w.heap.size]? = some (.cells R2 83 (0, 0)) := heap_alloc_new w.drew _
 obtain ⟨R3, hR3⟩ : ∃ R3, R3 = (R2.toList.take ((i + 1) * 4) ++ (vs.toList.take (c * 4)).drop (i * 4) ++ R2.toList.drop ((i + 1) * 4 + ((vs.toList.take (c * 4)).drop (i * 4)).length)).toArray := ⟨_, rfl⟩
 have hcpB : ∀ ty dc sc, (Builtin.copy_ #[24, 24] ty #[.slice (some ⟨w.heap.size, (i + 1) * 4, none⟩) (c - i) dc, .slice (some ⟨b, i * 4, none⟩) (c - i) sc]).run Tryz.prog ((w.drew.alloc (.cells R2 83)).drew) =
   .ok (goInt ((c - i : Nat) : Int)) ((w.drew.alloc (.cells R3 83)).drew) := fun ty dc sc => by
  have h := run_copy_rowK (P := Tryz.prog) ((w.drew.alloc (.cells R2 83)).drew) 24 24 ty 83 inf w.heap.size ((i + 1) * 4) (c - i) dc ⟨b, i * 4, none⟩ (c - i) sc (c - i) R2 83
   ((vs.toList.take (c * 4)).drop (i * 4)) ht hinf1 hn2 (by simp only [Nat.min_def]; split <;> omega) (by rw [hinf2, hdl])
   (fun j v hj => by
    have hb' : (w.drew.alloc (.cells R2 83)).drew.heap[b]? = some (.cells vs t' (0, 0)) := (Below.heap_alloc w.drew _ b (by simpa using hbw)).trans hb
    rw [addr_add, cell_of_row _ b (i * 4 + j) vs t' (0, 0) hb']
    rw [List.getElem?_drop, List.getElem?_take] at hj
    split at hj
    ·rwa [Array.getElem?_toList] at hj
    ·cases hj) (by rw [hdl, hR2s]; omega) (fun v hv => h1o v (List.mem_of_mem_drop hv))
  rw [h, ← hR3]
  have e : ∀ R, ((w.drew.alloc (.cells R2 83)).drew).setRow w.heap.size R = ((w.drew.alloc (.cells R2 83)).setRow w.heap.size R).drew := fun R => rfl
  rw [e, alloc_setRow _ _ hsz]
 have hfin : (w.drew.alloc (.cells R3 83)).drew = w.drew.drew.alloc (.cells ((vs.toList.take (i * 4) ++ nv ++ (vs.toList.take (c * 4)).drop (i * 4)).toArray ++ Builtin.zeroCells z.cells (G - (c + 1))) 83) := by
  have e := grow_rows vs.toList nv (Builtin.zeroCells z.cells (c + 1 - i)).toList (Builtin.zeroCells z.cells (G - (c + 1))).toList (i * 4) (c * 4) (by omega) (by omega) (by
   rw [Array.length_toList, size_zeroCells, hzc, hnl]; omega)
  have e3 : (i + 1) * 4 = i * 4 + nv.length := by omega
  have e4 : R3 = ((vs.toList.take (i * 4) ++ nv ++ (vs.toList.take (c * 4)).drop (i * 4)).toArray ++ Builtin.zeroCells z.cells (G - (c + 1))) := by
   rw [hR3, e3, hR2, ← hR1l] at *
   apply Array.toList_inj.1
   rw [Array.toList_append]
   simpa using e
  rw [e4]
  rfl
 have hw1 : IntKind.i64.wrap ((i : Int) + 1) = (i : Int) + 1 := by rw [IntKind.wrap_i64]; omega
 have hw2 : IntKind.i64.wrap ((c : Int) + 1) = (c : Int) + 1 := by rw [IntKind.wrap_i64]; omega
 have hw3 : IntKind.i64.wrap ((c : Int) + 1 - (i : Int)) = (c : Int) + 1 - (i : Int) := by rw [IntKind.wrap_i64]; omega
 have hz2 : ¬ ((i : Int) = (c : Int)) := by omega
 have hin : i ≤ c := by omega
 have hp3 : (i : Int) ≤ (c : Int) + 1 := by omega
 have hp1 : (0 : Int) ≤ (i : Int) + 1 := by omega
 have hp2 : (0 : Int) ≤ (c : Int) + 1 := by omega
 have hb3 : (c : Int) < (c : Int) + 1 := by omega
 have hgi : ((i : Int) + 1).toNat = i + 1 := by omega
 have hGi : ¬ (G = i) := by omega
 have hGim : ¬ (G = i + 1) := by omega
 have hci : ¬ (c = i) := by omega
 have HA := hid2 hrz
 have HB := hid2 hcpA
 have HC := hid2 hcpB
 have HG := hid2 hG
 have HF := hid2 hfin
 clear hsz hmax hdl hvl hvl2 hnl hR1l2 hR1s hR2s hzc hinf1 hinf2 hinf3 hroom hnc0 hrz hcpA hcpB hG hfin hnc h1n h1o hR1 hR2 hR3 hkk hik hold hR1l hn1 hn2 hiz
 go_enter Tryz.func142, Tryz.ntmps142
 go_wp2_with (first
  | (refine Lib.wpList_append_run _ rfl _ _ 24 3 rfl (.slice (some ⟨b, 0, none⟩) i c) (.int .i64 ((c : Int) + 1 - (i : Int))) (by first | rfl | simp [Act.eval, Act.put]) (by first | rfl | simp [Act.eval, Act.put]) _ _ (HA.out _) ?_)
  | (refine wpList_copy_runI _ rfl _ _ 24 24 rfl (.slice (some ⟨w.heap.size, i * 4, none⟩) (c + 1 - i) (G - i)) (.slice (some ⟨vb, voff, none⟩) 1 vc) (by first | rfl | simp [Act.eval, Act.put]) (by first | rfl | simp [Act.eval, Act.put]) (HB.out 3 (G - i)) ?_))
 go_region_law (refine step_copy_runI rfl _ _ 24 24 rfl (.slice (some ⟨w.heap.size, (i + 1) * 4, none⟩) (c - i) (G - (i + 1))) (.slice (some ⟨b, i * 4, none⟩) (c - i) (c - i)) (by simp [Act.eval, Act.put]) (by simp [Act.eval, Act.put]) (HC.out 3 (G - (i + 1)) (c - i)) ?_)
 go_wp2
 go_ret
 exact ⟨G, HG.out, rfl, HF.out⟩
set_option maxHeartbeats 4000000 in
set_option maxRecDepth 100000 in
theorem insLoc_end (a : Option Addr) (n c vc : Nat) (ad : Option Addr) (w w' : World) (q : Value) (hnc : n ≤ c) (hr : (Builtin.append_ #[24, 24] 24 #[.slice a n c, .slice ad 1 vc]).run Tryz.prog w = .ok q w') :
  Calls Tryz.prog 142 #[.slice a n c, .int .i64 n, .slice ad 1 vc] w fun en w'' => en = .returned q ∧ w'' = w' := by
 have HA := hid2 hr
 clear hr
 go_enter Tryz.func142, Tryz.ntmps142
 go_wp2_with (refine Lib.wpList_append_run _ rfl _ _ 24 24 rfl (.slice a n c) (.slice ad 1 vc) (by first | rfl | simp [Act.eval, Act.put]) (by first | rfl | simp [Act.eval, Act.put]) _ _ HA.out ?_)
 all_goals (go_ret; exact ⟨rfl, rfl⟩)
theorem insLoc_walks : InsWalks Tryz.prog 142 24 83 4 :=
 ⟨fun vs w => callFunc_enter (fn := Tryz.f142) (by kernel_rfl) (by kernel_rfl) rfl vs w, insLoc_shift, insLoc_grow, insLoc_end⟩
theorem insLoc_ok (C : Cond) : TolHOk Tryz.prog C 142 (insB Tryz.prog 24) := insB_ok (by_ := 64) insLoc_walks (by kernel_rfl)
end Go.Proofs.YtnoahchdmkpleaaGreat.VA

/-! De3 -/
namespace Go.Proofs.YtnoahchdmkpleaaGreat.VA
open Go Go.Shelf Go.RowKit
set_option linter.unusedVariables false
set_option linter.unusedSimpArgs false

set_option maxHeartbeats 4000000 in
set_option maxRecDepth 100000 in
theorem delLoc_walk (b n c i : Nat) (vs : Array Value) (t' : TypeId) (z : Value) (w : World) (hi : i < n) (hnc : n ≤ c) (hc63 : c ≤ 9223372036854775807) (hz : ((Tryz.prog.info? 83).bind fun i => i.zero) = some z)
  (hb : w.heap[b]? = some (.cells vs t' (0, 0))) (hvl : vs.size = c * 4) (h1z : ∀ u, u ∈ z.cells.toList → u.oneCell' = true) (h1o : ∀ u, u ∈ vs.toList.take (n * 4) → u.oneCell' = true) :
  Calls Tryz.prog 141 #[.slice (some ⟨b, 0, none⟩) n c, .int .i64 i, .int .i64 ((i + 1 : Nat) : Int)] w fun en w' =>
   en = .returned (.slice (some ⟨b, 0, none⟩) (n - 1) c) ∧ w' = w.drew.setRow b (delRow vs.toList z.cells.toList (i * 4) 4 (n * 4)).toArray := by
 have hzc := locZero hz
 have ht : Tryz.prog.underlying 24 = some (.slice 83) := by kernel_rfl
 have hinf : ∃ inf, Tryz.prog.info? 83 = some inf ∧ inf.size = 4 := ⟨_, rfl, by kernel_rfl⟩
 obtain ⟨inf, hinf1, hinf2⟩ := hinf
 have hiz : inf.zero = some z := by rw [hinf1] at hz; exact hz
 have hzv : ∀ w, (zeroValue 83).run Tryz.prog w = .ok z w := fun w => by simp [zeroValue, typeInfo, hinf1, hiz]
 have hsz : ∀ w, (sizeOf 83).run Tryz.prog w = .ok 4 w := fun w => by simp [sizeOf, typeInfo, hinf1, hinf2]
 clear hz
 have hvl2 : vs.toList.length = c * 4 := by simpa using hvl
 obtain ⟨R1, hR1⟩ : ∃ R1, R1 = (vs.toList.take (i * 4) ++ (vs.toList.take (n * 4)).drop (i * 4 + 4) ++ vs.toList.drop (n * 4 - 4)).toArray := ⟨_, rfl⟩
 have hR1s : R1.size = vs.size := by
  rw [hR1]
  simp only [List.size_toArray, List.length_append, List.length_take, List.length_drop]
  simp at hvl2 ⊢
  omega
 have hap : ∀ ty dc, (Builtin.append_ #[24, 24] ty #[.slice (some ⟨b, 0, none⟩) i c, .slice (if c = i + 1 then some ⟨b, 0, none⟩ else some ⟨b, (i + 1) * 4, none⟩) (n - (i + 1)) dc]).run Tryz.prog w.drew =
   .ok (.slice (some ⟨b, 0, none⟩) (n - 1) c) (w.drew.setRow b R1) := fun ty dc => by
  by_cases hn1 : n = i + 1
  ·subst hn1
   have e1 : vs.toList.take (i * 4) ++ (vs.toList.take ((i + 1) * 4)).drop (i * 4 + 4) ++ vs.toList.drop ((i + 1) * 4 - 4) = vs.toList := by
    rw [List.drop_eq_nil_of_le (by rw [List.length_take]; omega), List.append_nil, show (i + 1) * 4 - 4 = i * 4 by omega, List.take_append_drop]
   rw [hR1, e1, Array.toArray_toList, setRow_self w.drew b vs t' (0, 0) hb]
   have := run_append_zero (P := Tryz.prog) (w := w.drew) (t := 24) ty ht (hsz w.drew) (a := some ⟨b, 0, none⟩) (n := i) (cap := c) (a' := (if c = i + 1 then some ⟨b, 0, none⟩ else some ⟨b, (i + 1) * 4, none⟩)) (c' := dc) (by omega)
   rw [show i + 1 - (i + 1) = 0 by omega, show i + 1 - 1 = i by omega]
   exact this
  ·rw [if_neg (by omega)]
   have h := run_append_room2 (P := Tryz.prog) (w := w.drew) 24 ty 83 t' inf ht hinf1 b i c vs hb ⟨b, (i + 1) * 4, none⟩ (n - (i + 1)) dc ((vs.toList.take (n * 4)).drop (i * 4 + 4))
    (by rw [hinf2, List.length_drop, List.length_take]; omega)
    (fun j u hj => by
     rw [addr_add, cell_of_row w.drew b ((i + 1) * 4 + j) vs t' (0, 0) hb]
     rw [List.getElem?_drop, List.getElem?_take] at hj
     split at hj
     ·rw [show (i + 1) * 4 + j = i * 4 + 4 + j by omega]; rwa [Array.getElem?_toList] at hj
     ·cases hj) (fun u hu => h1o u (List.mem_of_mem_drop hu)) (by omega) (by rw [hinf2, List.length_drop, List.length_take]; omega)
   rw [h, hinf2, hR1]
   congr 3
   ·omega
   ·congr 3
    rw [List.length_drop, List.length_take]; omega
 have hb1 : (w.drew.setRow b R1).heap[b]? = some (.cells R1 t' (0, 0)) := setRow_heap w.drew b vs R1 t' (0, 0) hb
 have hcl : ∀ ty dc, (Builtin.clear_ #[24] ty #[.slice (some ⟨b, (n - 1) * 4, none⟩) 1 dc]).run Tryz.prog (w.drew.setRow b R1) = .ok (.tuple #[]) (w.drew.setRow b (delRow vs.toList z.cells.toList (i * 4) 4 (n * 4)).toArray) := fun ty dc => by
  have h := run_clear_row1 (P := Tryz.prog) (w.drew.setRow b R1) 24 ty 83 z ht (hzv _) b ((n - 1) * 4) dc R1 t' hb1 (by rw [hR1s, hzc]; omega) h1z
  rw [h, setRow_setRow]
  have hzl : z.cells.toList.length = 4 := by simp [hzc]
  have e := delRow_two vs.toList z.cells.toList (i * 4) 4 (n * 4) (by omega) (by omega) hzl
  rw [← e, hR1, hzl, hzc]
  have e4 : (n - 1) * 4 = n * 4 - 4 := by omega
  rw [e4]
 have hw1 : ¬ ((i : Int) = ((i + 1 : Nat) : Int)) := by omega
 have hw2 : ¬ ((i : Int) = (i : Int) + 1) := by omega
 have q1 : i ≤ i + 1 := by omega
 have q2 : i + 1 ≤ n := by omega
 have q3 : n ≤ c := hnc
 have q4 : i ≤ n := by omega
 have q5 : ¬ (c = i) := by omega
 have q6 : (i : Int) + 1 ≤ (n : Int) := by omega
 have q7 : ((i : Int) + 1).toNat = i + 1 := by omega
 have q8 : (0 : Int) ≤ (i : Int) + 1 := by omega
 have q9 : n - (n - 1) = 1 := by omega
 have q10 : ¬ (c = n - 1) := by omega
 have q11 : n - 1 ≤ n := by omega
 clear h1z hR1 hR1s
 generalize z.cells.toList = ZC at hcl ⊢
 by_cases hc1 : c = i + 1
 ·have hn1 : n = i + 1 := by omega
  subst hn1
  subst hc1
  have HA := hid2 (hap 24 0)
  have HC := hid2 (hcl 0 1)
  rw [if_pos rfl, Nat.sub_self, Nat.add_sub_cancel] at HA
  rw [Nat.add_sub_cancel] at HC
  clear hap hcl h1o hvl hvl2 hinf1 hinf2 hiz hzc hzv hsz hb1 q9 q10 q11 q2 q3 q4 q5 hnc
  have p1 : (i : Int) ≤ (i : Int) + 1 := by omega
  have p2 : ¬ (i + 1 = i) := by omega
  have p3 : i ≤ i + 1 := by omega
  have p4 : i + 1 - i = 1 := by omega
  go_enter Tryz.func141, Tryz.ntmps141
  go_wp2
  go_region_law (refine step_append_runI rfl _ _ 24 24 rfl (.slice (some ⟨b, 0, none⟩) i (i + 1)) (.slice (some ⟨b, 0, none⟩) 0 0) (by simp [Act.eval, Act.put]) (by simp [Act.eval, Act.put]) HA.out ?_)
  go_wp2_with (refine wpList_clear_runI _ rfl _ 24 rfl (.slice (some ⟨b, i * 4, none⟩) 1 1) (by first | rfl | simp [Act.eval, Act.put]) HC.out ?_)
  go_ret
  exact ⟨rfl, rfl⟩
 ·simp only [if_neg hc1] at hap
  have HA := hid2 hap
  have HC := hid2 hcl
  clear hap hcl h1o hvl hvl2 hinf1 hinf2 hiz hzc hzv hsz hb1
  have p1 : (i : Int) ≤ (c : Int) := by omega
  have p2 : i ≤ c := by omega
  have p3 : n - 1 ≤ c := by omega
  have p4 : n ≤ c := by omega
  have p5 : ((n - 1 : Nat) : Int) ≤ (n : Int) := by omega
  have p6 : i + 1 ≤ c := by omega
  have p7 : (i : Int) + 1 ≤ (c : Int) := by omega
  go_enter Tryz.func141, Tryz.ntmps141
  go_wp2
  go_region_law (refine step_append_runI rfl _ _ 24 24 rfl (.slice (some ⟨b, 0, none⟩) i c) (.slice (some ⟨b, (i + 1) * 4, none⟩) (n - (i + 1)) (c - (i + 1))) (by simp [Act.eval, Act.put]) (by simp [Act.eval, Act.put]) (HA.out 24 (c - (i + 1))) ?_)
  go_wp2_with (refine wpList_clear_runI _ rfl _ 24 rfl (.slice (some ⟨b, (n - 1) * 4, none⟩) 1 (c - (n - 1))) (by first | rfl | simp [Act.eval, Act.put]) (HC.out 0 (c - (n - 1))) ?_)
  go_ret
  exact ⟨rfl, rfl⟩
theorem delLoc_walks : DelWalks Tryz.prog 141 24 83 4 :=
 ⟨fun vs w => callFunc_enter (fn := Tryz.f141) (by kernel_rfl) (by kernel_rfl) rfl vs w, delLoc_walk⟩
theorem delLoc_ok (C : Cond) : TolHOk Tryz.prog C 141 (delB Tryz.prog 24) := delB_ok (by_ := 64) delLoc_walks (by kernel_rfl)
end Go.Proofs.YtnoahchdmkpleaaGreat.VA

/-! De2 -/
namespace Go.Proofs.YtnoahchdmkpleaaGreat.VA
open Go Go.Shelf Go.RowKit
set_option linter.unusedVariables false
set_option linter.unusedSimpArgs false

set_option maxHeartbeats 4000000 in
set_option maxRecDepth 100000 in
theorem delBind_walk (b n c i : Nat) (vs : Array Value) (t' : TypeId) (z : Value) (w : World) (hi : i < n) (hnc : n ≤ c) (hc63 : c ≤ 9223372036854775807) (hz : ((Tryz.prog.info? 76).bind fun i => i.zero) = some z)
  (hb : w.heap[b]? = some (.cells vs t' (0, 0))) (hvl : vs.size = c * 2) (h1z : ∀ u, u ∈ z.cells.toList → u.oneCell' = true) (h1o : ∀ u, u ∈ vs.toList.take (n * 2) → u.oneCell' = true) :
  Calls Tryz.prog 132 #[.slice (some ⟨b, 0, none⟩) n c, .int .i64 i, .int .i64 ((i + 1 : Nat) : Int)] w fun en w' =>
   en = .returned (.slice (some ⟨b, 0, none⟩) (n - 1) c) ∧ w' = w.drew.setRow b (delRow vs.toList z.cells.toList (i * 2) 2 (n * 2)).toArray := by
 have hzc := bindZero hz
 have ht : Tryz.prog.underlying 23 = some (.slice 76) := by kernel_rfl
 have hinf : ∃ inf, Tryz.prog.info? 76 = some inf ∧ inf.size = 2 := ⟨_, rfl, by kernel_rfl⟩
 obtain ⟨inf, hinf1, hinf2⟩ := hinf
 have hiz : inf.zero = some z := by rw [hinf1] at hz; exact hz
 have hzv : ∀ w, (zeroValue 76).run Tryz.prog w = .ok z w := fun w => by simp [zeroValue, typeInfo, hinf1, hiz]
 have hsz : ∀ w, (sizeOf 76).run Tryz.prog w = .ok 2 w := fun w => by simp [sizeOf, typeInfo, hinf1, hinf2]
 clear hz
 have hvl2 : vs.toList.length = c * 2 := by simpa using hvl
 obtain ⟨R1, hR1⟩ : ∃ R1, R1 = (vs.toList.take (i * 2) ++ (vs.toList.take (n * 2)).drop (i * 2 + 2) ++ vs.toList.drop (n * 2 - 2)).toArray := ⟨_, rfl⟩
 have hR1s : R1.size = vs.size := by
  rw [hR1]
  simp only [List.size_toArray, List.length_append, List.length_take, List.length_drop]
  simp at hvl2 ⊢
  omega
 have hap : ∀ ty dc, (Builtin.append_ #[23, 23] ty #[.slice (some ⟨b, 0, none⟩) i c, .slice (if c = i + 1 then some ⟨b, 0, none⟩ else some ⟨b, (i + 1) * 2, none⟩) (n - (i + 1)) dc]).run Tryz.prog w.drew =
   .ok (.slice (some ⟨b, 0, none⟩) (n - 1) c) (w.drew.setRow b R1) := fun ty dc => by
  by_cases hn1 : n = i + 1
  ·subst hn1
   have e1 : vs.toList.take (i * 2) ++ (vs.toList.take ((i + 1) * 2)).drop (i * 2 + 2) ++ vs.toList.drop ((i + 1) * 2 - 2) = vs.toList := by
    rw [List.drop_eq_nil_of_le (by rw [List.length_take]; omega), List.append_nil, show (i + 1) * 2 - 2 = i * 2 by omega, List.take_append_drop]
   rw [hR1, e1, Array.toArray_toList, setRow_self w.drew b vs t' (0, 0) hb]
   have := run_append_zero (P := Tryz.prog) (w := w.drew) (t := 23) ty ht (hsz w.drew) (a := some ⟨b, 0, none⟩) (n := i) (cap := c) (a' := (if c = i + 1 then some ⟨b, 0, none⟩ else some ⟨b, (i + 1) * 2, none⟩)) (c' := dc) (by omega)
   rw [show i + 1 - (i + 1) = 0 by omega, show i + 1 - 1 = i by omega]
   exact this
  ·rw [if_neg (by omega)]
   have h := run_append_room2 (P := Tryz.prog) (w := w.drew) 23 ty 76 t' inf ht hinf1 b i c vs hb ⟨b, (i + 1) * 2, none⟩ (n - (i + 1)) dc ((vs.toList.take (n * 2)).drop (i * 2 + 2))
    (by rw [hinf2, List.length_drop, List.length_take]; omega)
    (fun j u hj => by
     rw [addr_add, cell_of_row w.drew b ((i + 1) * 2 + j) vs t' (0, 0) hb]
     rw [List.getElem?_drop, List.getElem?_take] at hj
     split at hj
     ·rw [show (i + 1) * 2 + j = i * 2 + 2 + j by omega]; rwa [Array.getElem?_toList] at hj
     ·cases hj) (fun u hu => h1o u (List.mem_of_mem_drop hu)) (by omega) (by rw [hinf2, List.length_drop, List.length_take]; omega)
   rw [h, hinf2, hR1]
   congr 3
   ·omega
   ·congr 3
    rw [List.length_drop, List.length_take]; omega
 have hb1 : (w.drew.setRow b R1).heap[b]? = some (.cells R1 t' (0, 0)) := setRow_heap w.drew b vs R1 t' (0, 0) hb
 have hcl : ∀ ty dc, (Builtin.clear_ #[23] ty #[.slice (some ⟨b, (n - 1) * 2, none⟩) 1 dc]).run Tryz.prog (w.drew.setRow b R1) = .ok (.tuple #[]) (w.drew.setRow b (delRow vs.toList z.cells.toList (i * 2) 2 (n * 2)).toArray) := fun ty dc => by
  have h := run_clear_row1 (P := Tryz.prog) (w.drew.setRow b R1) 23 ty 76 z ht (hzv _) b ((n - 1) * 2) dc R1 t' hb1 (by rw [hR1s, hzc]; omega) h1z
  rw [h, setRow_setRow]
  have hzl : z.cells.toList.length = 2 := by simp [hzc]
  have e := delRow_two vs.toList z.cells.toList (i * 2) 2 (n * 2) (by omega) (by omega) hzl
  rw [← e, hR1, hzl, hzc]
  have e4 : (n - 1) * 2 = n * 2 - 2 := by omega
  rw [e4]
 have hw1 : ¬ ((i : Int) = ((i + 1 : Nat) : Int)) := by omega
 have hw2 : ¬ ((i : Int) = (i : Int) + 1) := by omega
 have q1 : i ≤ i + 1 := by omega
 have q2 : i + 1 ≤ n := by omega
 have q3 : n ≤ c := hnc
 have q4 : i ≤ n := by omega
 have q5 : ¬ (c = i) := by omega
 have q6 : (i : Int) + 1 ≤ (n : Int) := by omega
 have q7 : ((i : Int) + 1).toNat = i + 1 := by omega
 have q8 : (0 : Int) ≤ (i : Int) + 1 := by omega
 have q9 : n - (n - 1) = 1 := by omega
 have q10 : ¬ (c = n - 1) := by omega
 have q11 : n - 1 ≤ n := by omega
 clear h1z hR1 hR1s
 generalize z.cells.toList = ZC at hcl ⊢
 by_cases hc1 : c = i + 1
 ·have hn1 : n = i + 1 := by omega
  subst hn1
  subst hc1
  have HA := hid2 (hap 23 0)
  have HC := hid2 (hcl 0 1)
  rw [if_pos rfl, Nat.sub_self, Nat.add_sub_cancel] at HA
  rw [Nat.add_sub_cancel] at HC
  clear hap hcl h1o hvl hvl2 hinf1 hinf2 hiz hzc hzv hsz hb1 q9 q10 q11 q2 q3 q4 q5 hnc
  have p1 : (i : Int) ≤ (i : Int) + 1 := by omega
  have p2 : ¬ (i + 1 = i) := by omega
  have p3 : i ≤ i + 1 := by omega
  have p4 : i + 1 - i = 1 := by omega
  go_enter Tryz.func132, Tryz.ntmps132
  go_wp2
  go_region_law (refine step_append_runI rfl _ _ 23 23 rfl (.slice (some ⟨b, 0, none⟩) i (i + 1)) (.slice (some ⟨b, 0, none⟩) 0 0) (by simp [Act.eval, Act.put]) (by simp [Act.eval, Act.put]) HA.out ?_)
  go_wp2_with (refine wpList_clear_runI _ rfl _ 23 rfl (.slice (some ⟨b, i * 2, none⟩) 1 1) (by first | rfl | simp [Act.eval, Act.put]) HC.out ?_)
  go_ret
  exact ⟨rfl, rfl⟩
 ·simp only [if_neg hc1] at hap
  have HA := hid2 hap
  have HC := hid2 hcl
  clear hap hcl h1o hvl hvl2 hinf1 hinf2 hiz hzc hzv hsz hb1
  have p1 : (i : Int) ≤ (c : Int) := by omega
  have p2 : i ≤ c := by omega
  have p3 : n - 1 ≤ c := by omega
  have p4 : n ≤ c := by omega
  have p5 : ((n - 1 : Nat) : Int) ≤ (n : Int) := by omega
  have p6 : i + 1 ≤ c := by omega
  have p7 : (i : Int) + 1 ≤ (c : Int) := by omega
  go_enter Tryz.func132, Tryz.ntmps132
  go_wp2
  go_region_law (refine step_append_runI rfl _ _ 23 23 rfl (.slice (some ⟨b, 0, none⟩) i c) (.slice (some ⟨b, (i + 1) * 2, none⟩) (n - (i + 1)) (c - (i + 1))) (by simp [Act.eval, Act.put]) (by simp [Act.eval, Act.put]) (HA.out 23 (c - (i + 1))) ?_)
  go_wp2_with (refine wpList_clear_runI _ rfl _ 23 rfl (.slice (some ⟨b, (n - 1) * 2, none⟩) 1 (c - (n - 1))) (by first | rfl | simp [Act.eval, Act.put]) (HC.out 0 (c - (n - 1))) ?_)
  go_ret
  exact ⟨rfl, rfl⟩
theorem delBind_walks : DelWalks Tryz.prog 132 23 76 2 :=
 ⟨fun vs w => callFunc_enter (fn := Tryz.f132) (by kernel_rfl) (by kernel_rfl) rfl vs w, delBind_walk⟩
theorem delBind_ok (C : Cond) : TolHOk Tryz.prog C 132 (delB Tryz.prog 23) := delB_ok (by_ := 40) delBind_walks (by kernel_rfl)
end Go.Proofs.YtnoahchdmkpleaaGreat.VA

/-! Jo1 -/
namespace Go.Proofs.YtnoahchdmkpleaaGreat.VA
open Go Go.RowKit
attribute [local go_sem] Nat.add_eq_left Nat.left_eq_add true_and and_true ite_true if_false Int.cast_ofNat_Int eq_self Nat.add_assoc Option.some.injEq decide_true decide_false Bool.not_true Bool.not_false List.size_toArray List.length_cons List.length_nil
set_option linter.unusedSimpArgs false
set_option linter.unusedVariables false
set_option maxRecDepth 100000

/-- The table for state.Join. -/
noncomputable def cfgY : Cfg := mkC Tryz.prog [55]
 [48, 87, 130, 154, 131, 132, 133,
  91, 139, 174, 140, 141, 142]
 [55, 48, 87, 91]
 [(74, tClone), (75, toldBy Tryz.prog cfgO 75), (60, toldBy Tryz.prog cfg1 60), (45, toldBy Tryz.prog cfgR 45),
  (65, toldBy Tryz.prog cfgV 65), (89, toldBy Tryz.prog cfgL 89), (90, toldBy Tryz.prog cfgJ 90), (88, toldBy Tryz.prog cfgU 88),
  (86, toldBy Tryz.prog cfgU 86), (72, toldBy Tryz.prog cfg0 72)]
 [(133, insB Tryz.prog 23), (132, delB Tryz.prog 23),
  (142, insB Tryz.prog 24), (141, delB Tryz.prog 24)]
theorem cfgY_ok : CfgOk Tryz.prog Cond.none cfgY := mkC_ok (by kernel_rfl) (by kernel_rfl) (by
 intro p hp
 simp only [List.mem_cons, List.not_mem_nil, or_false] at hp
 rcases hp with rfl | rfl | rfl | rfl | rfl | rfl | rfl | rfl | rfl | rfl
 ·exact tClone_ok _
 ·exact toldBy_ok cfgO_ok (fn := Tryz.f75) (by kernel_rfl) (by kernel_rfl) rfl
 ·exact toldBy_ok cfg1_ok (fn := Tryz.f60) (by kernel_rfl) (by kernel_rfl) rfl
 ·exact toldBy_ok cfgR_ok (fn := Tryz.f45) (by kernel_rfl) (by kernel_rfl) rfl
 ·exact toldBy_ok cfgV_ok (fn := Tryz.f65) (by kernel_rfl) (by kernel_rfl) rfl
 ·exact toldBy_ok cfgL_ok (fn := Tryz.f89) (by kernel_rfl) (by kernel_rfl) rfl
 ·exact toldBy_ok cfgJ_ok (fn := Tryz.f90) (by kernel_rfl) (by kernel_rfl) rfl
 ·exact toldBy_ok cfgU_ok (fn := Tryz.f88) (by kernel_rfl) (by kernel_rfl) rfl
 ·exact toldBy_ok cfgU_ok (fn := Tryz.f86) (by kernel_rfl) (by kernel_rfl) rfl
 ·exact toldBy_ok cfg0_ok (fn := Tryz.f72) (by kernel_rfl) (by kernel_rfl) rfl) (by
 intro p hp
 simp only [List.mem_cons, List.not_mem_nil, or_false] at hp
 rcases hp with rfl | rfl | rfl | rfl
 ·exact insBind_ok _
 ·exact delBind_ok _
 ·exact insLoc_ok _
 ·exact delLoc_ok _)
theorem y_set1 (x : Bnd) (q : ByteArray) (p : Nat) (H : Heap) (hp : H.get p = some [.lit (.string q)]) (hlt : p < H.next) : ∃ v H', calls Tryz.prog cfgY 131 [.agg (encB x), .ptr p 0] H = some (.ret v H') ∧
  (v = .lit (.bool (!strLt x.nm q)) ∧ Frm H H') := by
 refine calls_imp (fn := Tryz.f131) rfl rfl rfl rfl rfl ?_
 have rs : Tryz.f131.results.toList = [.tmp 3] := rfl
 obtain ⟨m, hm⟩ : ∃ m, H.next = m := ⟨_, rfl⟩
 have n0 : ∀ j, ¬ m + j = p := fun j => by omega
 unfold encB
 simp only [go_sem, simprocAttr, rs, hp, hm, n0]
 exact ⟨_, rfl, rfl, by repeat (first | exact Frm.refl _ | refine Frm.up ?_ _ | refine Frm.put ?_ _ (by omega))⟩
theorem y_idxB (vs : List Bnd) (q : ByteArray) (p : Nat) (A : AV) (lo : Nat) (H0 : Heap) (hA : ArrS 2 H0 lo A (vs.map encB)) (hp : H0.get p = some [.lit (.string q)]) (hlt : p < H0.next) (hvl : vs.length ≤ LA) :
  ∃ v H', calls Tryz.prog cfgY 154 [A, .fn 131 [.ptr p 0]] H0 = some (.ret v H') ∧
   (Frm H0 H' ∧ ((v = .lit (.int .i64 (-1)) ∧ vs.all (fun b => strLt b.nm q) = true) ∨ ∃ (i : Nat) (h : i < vs.length), v = .lit (.int .i64 (i : Nat)) ∧ (vs.take i).all (fun b => strLt b.nm q) = true ∧ strLt vs[i].nm q = false)) := by
 refine calls_imp (fn := Tryz.f154) rfl rfl rfl rfl rfl ?_
 have rs : Tryz.f154.results.toList = [.tmp 4] := rfl
 have hln := hA.lnn el_sBnd
 rw [List.length_map] at hln
 simp only [go_sem, simprocAttr, rs, hln]
 refine W_loop_ind (fun k e H => ∃ i : Nat, k = vs.length - i ∧ i ≤ vs.length ∧ (vs.take i).all (fun b => strLt b.nm q) = true ∧ Frm H0 H ∧ gget .bad e 0 = A ∧ gget .bad e 1 = .fn 131 [.ptr p 0] ∧ gget .bad e 7 = .lit (.int .i64 (vs.length : Nat)) ∧ gget .bad e 8 = .lit (.int .i64 (i : Nat)))
  vs.length ⟨0, rfl, by omega, rfl, by repeat (first | exact Frm.refl _ | refine Frm.up ?_ _), by simp only [go_sem, simprocAttr], by simp only [go_sem, simprocAttr], by simp only [go_sem, simprocAttr], by simp only [go_sem, simprocAttr]⟩ ?_
 rintro k ih e H ⟨i, rfl, hle, hR, hF, g0, g1, g7, g8⟩
 by_cases hl : i < vs.length
 ·rcases hA with ⟨rfl, he⟩ | ⟨r, z, rfl, hg, hlr, hr, hzu, hzo⟩
  ·have hv0 : vs = [] := List.map_eq_nil_iff.1 he
   subst hv0; simp at hl
  ·have hrl : (vs.map encB).length = vs.length := List.length_map ..
   rw [hrl] at g0
   simp only [hrl] at ih
   have hul := (B_unif vs).append hzu
   have d1 : decide ((i : Int) < (vs.length : Nat)) = true := by simp; omega
   have ha := iad_ar (t := 76) (b := 40) (r := r) (a := 0) (sz := 2) (m := vs.length) hl
   rw [Nat.zero_add] at ha
   have hw1 := wrap1 (show i + 1 ≤ 9223372036854775807 by unfold LA at hvl; omega)
   have hgr : H.get r = some ((vs.map encB ++ z).flatten) := by rw [hF.get hr]; exact hg
   have hgp : H.get p = some [.lit (.string q)] := by rw [hF.get hlt]; exact hp
   have hst := flat_rowS hul (i := i) (by simp; omega)
   have hat := flat_at hul (i := i) (x := encB vs[i]) (by rw [List.getElem?_append_left (by simpa using hl)]; simp [hl])
   have hnx := hF.nx
   simp only [go_sem, simprocAttr, g0, g1, g7, g8, d1, ha, hgr, hst, hat]
   refine goC_ex (y_set1 vs[i] q p _ (by simp only [go_sem, simprocAttr, hgp]) (by simp only [go_sem, simprocAttr]; omega)) ?_
   rintro v H1 ⟨rfl, hF1⟩
   have hF2 : Frm H0 H1 := (by repeat (first | exact hF | refine Frm.up ?_ _) : Frm H0 _).trans hF1
   cases hx : strLt vs[i].nm q with
   | true =>
    simp only [go_sem, simprocAttr, g0, g1, g7, g8, hw1]
    exact ih (vs.length - (i + 1)) (by omega) _ _ ⟨i + 1, rfl, by omega, by rw [List.take_succ_eq_append_getElem hl, List.all_append, hR]; simp [hx], by repeat (first | exact hF2 | refine Frm.up ?_ _), by simp only [go_sem, simprocAttr, g0], by simp only [go_sem, simprocAttr, g1], by simp only [go_sem, simprocAttr, g7], by simp only [go_sem, simprocAttr]⟩
   | false =>
    simp only [go_sem, simprocAttr, g0, g1, g7, g8, rs]
    exact ⟨_, rfl, by repeat (first | exact hF2 | refine Frm.up ?_ _), .inr ⟨i, hl, rfl, hR, hx⟩⟩
 ·have d1 : decide ((i : Int) < (vs.length : Nat)) = false := by simp; omega
  rw [List.take_of_length_le (by omega)] at hR
  simp only [go_sem, simprocAttr, g0, g1, g7, g8, d1, rs]
  exact ⟨_, rfl, by repeat (first | exact hF | refine Frm.up ?_ _), .inl ⟨rfl, hR⟩⟩
theorem y_befB (vs : List Bnd) (q : ByteArray) (p : Nat) (A : AV) (lo : Nat) (H0 : Heap) (hA : ArrS 2 H0 lo A (vs.map encB)) (hp : H0.get p = some [.lit (.string q)]) (hlt : p < H0.next) (hvl : vs.length ≤ LA) :
  ∃ v H', calls Tryz.prog cfgY 130 [A, .fn 131 [.ptr p 0]] H0 = some (.ret v H') ∧
   (Frm H0 H' ∧ ∃ k : Nat, v = .lit (.int .i64 (k : Nat)) ∧ k ≤ vs.length ∧ (vs.take k).all (fun b => strLt b.nm q) = true ∧ ∀ h : k < vs.length, strLt vs[k].nm q = false) := by
 refine calls_imp (fn := Tryz.f130) rfl rfl rfl rfl rfl ?_
 have rs : Tryz.f130.results.toList = [.tmp 4] := rfl
 have hln := hA.lnn el_sBnd
 rw [List.length_map] at hln
 simp only [go_sem, simprocAttr, rs]
 refine goC_ex (y_idxB vs q p A lo _ (by repeat (first | exact hA | refine ArrS.up ?_ _)) hp (by simp only [go_sem, simprocAttr]; omega) hvl) ?_
 rintro v H1 ⟨hF1, hv⟩
 have hF2 : Frm H0 H1 := (by repeat (first | exact Frm.refl _ | refine Frm.up ?_ _) : Frm H0 _).trans hF1
 rcases hv with ⟨rfl, hall⟩ | ⟨i, hi, rfl, hall, hx⟩
 ·have d1 : decide ((0 : Int) ≤ -1) = false := rfl
  simp only [go_sem, simprocAttr, rs, d1, hln]
  exact ⟨_, rfl, by repeat (first | exact hF2 | refine Frm.up ?_ _), vs.length, rfl, Nat.le_refl _, by rw [List.take_of_length_le (Nat.le_refl _)]; exact hall, fun h => absurd h (Nat.lt_irrefl _)⟩
 ·have d1 : decide ((0 : Int) ≤ (i : Nat)) = true := by simp
  simp only [go_sem, simprocAttr, rs, d1]
  exact ⟨_, rfl, by repeat (first | exact hF2 | refine Frm.up ?_ _), i, rfl, by omega, hall, fun _ => hx⟩
theorem y_put1 (x : Lc) (q : Int × Int) (p : Nat) (H : Heap) (hp : H.get p = some (avA q)) (hlt : p < H.next) : ∃ v H', calls Tryz.prog cfgY 140 [.agg (encL x), .ptr p 0] H = some (.ret v H') ∧
  (v = .lit (.bool (!ltA x.atom q)) ∧ Frm H H') := by
 refine calls_imp (fn := Tryz.f140) rfl rfl rfl rfl rfl ?_
 have rs : Tryz.f140.results.toList = [.tmp 3] := rfl
 obtain ⟨m, hm⟩ : ∃ m, H.next = m := ⟨_, rfl⟩
 have n0 : ∀ j, ¬ m + j = p := fun j => by omega
 have x2 : (encL x).length = 4 := rfl
 have x3 : (encL x).take 2 = avA x.atom := rfl
 have x4 : (encL x).all AV.one = true := rfl
 have x5 : (encL x).take 4 = encL x := rfl
 have a2 : (avA q).length = 2 := rfl
 have a3 : (avA q).take 2 = avA q := rfl
 have hc : ∀ H, calls Tryz.prog cfgY 72 [.agg (avA x.atom), .agg (avA q)] H = some (.ret (.lit (.int .i64 (cmpA x.atom q))) H) := fun H => calls_by rfl (fun H => c_compare x.atom q H) rfl H
 have hg := geq_cmp x.atom q
 simp only [go_sem, simprocAttr, rs, hp, hm, n0, x2, x3, x4, x5, a2, a3, hc, hg]
 exact ⟨_, rfl, rfl, by repeat (first | exact Frm.refl _ | refine Frm.up ?_ _ | refine Frm.put ?_ _ (by omega))⟩
theorem y_idxL (vs : List Lc) (q : Int × Int) (p : Nat) (A : AV) (lo : Nat) (H0 : Heap) (hA : ArrS 4 H0 lo A (vs.map encL)) (hp : H0.get p = some (avA q)) (hlt : p < H0.next) (hvl : vs.length ≤ LA) :
  ∃ v H', calls Tryz.prog cfgY 174 [A, .fn 140 [.ptr p 0]] H0 = some (.ret v H') ∧
   (Frm H0 H' ∧ ((v = .lit (.int .i64 (-1)) ∧ vs.all (fun b => ltA b.atom q) = true) ∨ ∃ (i : Nat) (h : i < vs.length), v = .lit (.int .i64 (i : Nat)) ∧ (vs.take i).all (fun b => ltA b.atom q) = true ∧ ltA vs[i].atom q = false)) := by
 refine calls_imp (fn := Tryz.f174) rfl rfl rfl rfl rfl ?_
 have rs : Tryz.f174.results.toList = [.tmp 4] := rfl
 have hln := hA.lnn el_sLoc
 rw [List.length_map] at hln
 simp only [go_sem, simprocAttr, rs, hln]
 refine W_loop_ind (fun k e H => ∃ i : Nat, k = vs.length - i ∧ i ≤ vs.length ∧ (vs.take i).all (fun b => ltA b.atom q) = true ∧ Frm H0 H ∧ gget .bad e 0 = A ∧ gget .bad e 1 = .fn 140 [.ptr p 0] ∧ gget .bad e 7 = .lit (.int .i64 (vs.length : Nat)) ∧ gget .bad e 8 = .lit (.int .i64 (i : Nat)))
  vs.length ⟨0, rfl, by omega, rfl, by repeat (first | exact Frm.refl _ | refine Frm.up ?_ _), by simp only [go_sem, simprocAttr], by simp only [go_sem, simprocAttr], by simp only [go_sem, simprocAttr], by simp only [go_sem, simprocAttr]⟩ ?_
 rintro k ih e H ⟨i, rfl, hle, hR, hF, g0, g1, g7, g8⟩
 by_cases hl : i < vs.length
 ·rcases hA with ⟨rfl, he⟩ | ⟨r, z, rfl, hg, hlr, hr, hzu, hzo⟩
  ·have hv0 : vs = [] := List.map_eq_nil_iff.1 he
   subst hv0; simp at hl
  ·have hrl : (vs.map encL).length = vs.length := List.length_map ..
   rw [hrl] at g0
   simp only [hrl] at ih
   have hul := (L_unif vs).append hzu
   have d1 : decide ((i : Int) < (vs.length : Nat)) = true := by simp; omega
   have ha := iad_ar (t := 83) (b := 64) (r := r) (a := 0) (sz := 4) (m := vs.length) hl
   rw [Nat.zero_add] at ha
   have hw1 := wrap1 (show i + 1 ≤ 9223372036854775807 by unfold LA at hvl; omega)
   have hgr : H.get r = some ((vs.map encL ++ z).flatten) := by rw [hF.get hr]; exact hg
   have hgp : H.get p = some (avA q) := by rw [hF.get hlt]; exact hp
   have hst := flat_rowS hul (i := i) (by simp; omega)
   have hat := flat_at hul (i := i) (x := encL vs[i]) (by rw [List.getElem?_append_left (by simpa using hl)]; simp [hl])
   have hnx := hF.nx
   simp only [go_sem, simprocAttr, g0, g1, g7, g8, d1, ha, hgr, hst, hat]
   refine goC_ex (y_put1 vs[i] q p _ (by simp only [go_sem, simprocAttr, hgp]) (by simp only [go_sem, simprocAttr]; omega)) ?_
   rintro v H1 ⟨rfl, hF1⟩
   have hF2 : Frm H0 H1 := (by repeat (first | exact hF | refine Frm.up ?_ _) : Frm H0 _).trans hF1
   cases hx : ltA vs[i].atom q with
   | true =>
    simp only [go_sem, simprocAttr, g0, g1, g7, g8, hw1]
    exact ih (vs.length - (i + 1)) (by omega) _ _ ⟨i + 1, rfl, by omega, by rw [List.take_succ_eq_append_getElem hl, List.all_append, hR]; simp [hx], by repeat (first | exact hF2 | refine Frm.up ?_ _), by simp only [go_sem, simprocAttr, g0], by simp only [go_sem, simprocAttr, g1], by simp only [go_sem, simprocAttr, g7], by simp only [go_sem, simprocAttr]⟩
   | false =>
    simp only [go_sem, simprocAttr, g0, g1, g7, g8, rs]
    exact ⟨_, rfl, by repeat (first | exact hF2 | refine Frm.up ?_ _), .inr ⟨i, hl, rfl, hR, hx⟩⟩
 ·have d1 : decide ((i : Int) < (vs.length : Nat)) = false := by simp; omega
  rw [List.take_of_length_le (by omega)] at hR
  simp only [go_sem, simprocAttr, g0, g1, g7, g8, d1, rs]
  exact ⟨_, rfl, by repeat (first | exact hF | refine Frm.up ?_ _), .inl ⟨rfl, hR⟩⟩
theorem y_befL (vs : List Lc) (q : Int × Int) (p : Nat) (A : AV) (lo : Nat) (H0 : Heap) (hA : ArrS 4 H0 lo A (vs.map encL)) (hp : H0.get p = some (avA q)) (hlt : p < H0.next) (hvl : vs.length ≤ LA) :
  ∃ v H', calls Tryz.prog cfgY 139 [A, .fn 140 [.ptr p 0]] H0 = some (.ret v H') ∧
   (Frm H0 H' ∧ ∃ k : Nat, v = .lit (.int .i64 (k : Nat)) ∧ k ≤ vs.length ∧ (vs.take k).all (fun b => ltA b.atom q) = true ∧ ∀ h : k < vs.length, ltA vs[k].atom q = false) := by
 refine calls_imp (fn := Tryz.f139) rfl rfl rfl rfl rfl ?_
 have rs : Tryz.f139.results.toList = [.tmp 4] := rfl
 have hln := hA.lnn el_sLoc
 rw [List.length_map] at hln
 simp only [go_sem, simprocAttr, rs]
 refine goC_ex (y_idxL vs q p A lo _ (by repeat (first | exact hA | refine ArrS.up ?_ _)) hp (by simp only [go_sem, simprocAttr]; omega) hvl) ?_
 rintro v H1 ⟨hF1, hv⟩
 have hF2 : Frm H0 H1 := (by repeat (first | exact Frm.refl _ | refine Frm.up ?_ _) : Frm H0 _).trans hF1
 rcases hv with ⟨rfl, hall⟩ | ⟨i, hi, rfl, hall, hx⟩
 ·have d1 : decide ((0 : Int) ≤ -1) = false := rfl
  simp only [go_sem, simprocAttr, rs, d1, hln]
  exact ⟨_, rfl, by repeat (first | exact hF2 | refine Frm.up ?_ _), vs.length, rfl, Nat.le_refl _, by rw [List.take_of_length_le (Nat.le_refl _)]; exact hall, fun h => absurd h (Nat.lt_irrefl _)⟩
 ·have d1 : decide ((0 : Int) ≤ (i : Nat)) = true := by simp
  simp only [go_sem, simprocAttr, rs, d1]
  exact ⟨_, rfl, by repeat (first | exact hF2 | refine Frm.up ?_ _), i, rfl, by omega, hall, fun _ => hx⟩
end Go.Proofs.YtnoahchdmkpleaaGreat.VA

/-! Tyf -/
namespace Go.Proofs.YtnoahchdmkpleaaGreat.VA
open Go Go.RowKit
set_option linter.unusedSimpArgs false
set_option maxRecDepth 100000
@[go_sem] theorem fl_flow0 : tField Tryz.prog 57 0 = some (0, 1, false) := by kernel_rfl
@[go_sem] theorem fl_flow1 : tField Tryz.prog 57 1 = some (1, 1, false) := by kernel_rfl
@[go_sem] theorem fl_flow2 : tField Tryz.prog 57 2 = some (2, 1, false) := by kernel_rfl
@[go_sem] theorem fl_flow3 : tField Tryz.prog 57 3 = some (3, 3, true) := by kernel_rfl
@[go_sem] theorem bl_flow : tBuild Tryz.prog 57 = some ([(0, 1), (1, 1), (2, 1), (3, 3)], [.sl .nil [], .sl .nil [], .sl .nil [], .lit (.bool false), .sl .nil [], .sl .nil []]) := by kernel_rfl
@[go_sem] theorem zr_flow : tZero Tryz.prog 57 = some [.sl .nil [], .sl .nil [], .sl .nil [], .lit (.bool false), .sl .nil [], .sl .nil []] := by kernel_rfl
@[go_sem] theorem sz_flow : tSize Tryz.prog 57 = some 6 := by kernel_rfl
@[go_sem] theorem ag_flow : tAgg Tryz.prog 57 = some true := by kernel_rfl
@[go_sem] theorem fl_fau0 : tField Tryz.prog 103 0 = some (0, 1, false) := by kernel_rfl
@[go_sem] theorem fl_fau1 : tField Tryz.prog 103 1 = some (1, 1, false) := by kernel_rfl
@[go_sem] theorem bl_fau : tBuild Tryz.prog 103 = some ([(0, 1), (1, 1)], [.lit (.int .i64 0), .lit (.int .i64 0)]) := by kernel_rfl
@[go_sem] theorem zr_fau : tZero Tryz.prog 103 = some [.lit (.int .i64 0), .lit (.int .i64 0)] := by kernel_rfl
@[go_sem] theorem sz_fau : tSize Tryz.prog 103 = some 2 := by kernel_rfl
@[go_sem] theorem ag_fau : tAgg Tryz.prog 103 = some true := by kernel_rfl
@[go_sem] theorem fl_wlk0 : tField Tryz.prog 107 0 = some (0, 1, false) := by kernel_rfl
@[go_sem] theorem bl_wlk : tBuild Tryz.prog 107 = some ([(0, 1)], [.sl .nil []]) := by kernel_rfl
@[go_sem] theorem zr_wlk : tZero Tryz.prog 107 = some [.sl .nil []] := by kernel_rfl
@[go_sem] theorem sz_wlk : tSize Tryz.prog 107 = some 1 := by kernel_rfl
@[go_sem] theorem ag_wlk : tAgg Tryz.prog 107 = some true := by kernel_rfl
@[go_sem] theorem el_sSta : tElem Tryz.prog 54 = some (26, 3, 56) := by kernel_rfl
@[go_sem] theorem zo_sSta : zeroOk Tryz.prog 26 3 = true := by kernel_rfl
@[go_sem] theorem el_sFau : tElem Tryz.prog 55 = some (103, 2, 16) := by kernel_rfl
@[go_sem] theorem zo_sFau : zeroOk Tryz.prog 103 2 = true := by kernel_rfl
@[go_sem] theorem sz_sSta : tSize Tryz.prog 54 = some 1 := by kernel_rfl
@[go_sem] theorem ag_sSta : tAgg Tryz.prog 54 = some false := by kernel_rfl
@[go_sem] theorem zr_sSta : tZero Tryz.prog 54 = some [.sl .nil []] := by kernel_rfl
@[go_sem] theorem sz_sFau : tSize Tryz.prog 55 = some 1 := by kernel_rfl
@[go_sem] theorem ag_sFau : tAgg Tryz.prog 55 = some false := by kernel_rfl
@[go_sem] theorem zr_sFau : tZero Tryz.prog 55 = some [.sl .nil []] := by kernel_rfl
end Go.Proofs.YtnoahchdmkpleaaGreat.VA

/-! Fx1 -/
namespace Go.Proofs.YtnoahchdmkpleaaGreat.VA
open Go Go.RowKit
set_option linter.unusedSimpArgs false
set_option linter.unusedVariables false

theorem encSt_one (s : Sta) : (encSt s).all AV.one = true := rfl
theorem encSt_len (s : Sta) : (encSt s).length = 3 := rfl
theorem encSt_take (s : Sta) : (encSt s).take 3 = encSt s := rfl
theorem normA_le (d : List (Int × Int)) : (normA d).length ≤ d.length := by
 have := foldl_len d []
 rw [← normR_eq]
 simpa [normR] using this
theorem sanLL_St (l : List Sta) : sanLL (l.map encSt) = l.map encSt := by
 induction l with
 | nil => rfl
 | cons x l ih => simp only [List.map_cons, sanLL, ih, sanL_encSt]
theorem bs1_sta (s : Sta) : aBuildSlice Tryz.prog 54 1 [(0, .agg (encSt s))] = some (.sl .ex [encSt s]) := build1 el_sSta (by decide) zr_sta rfl rfl _ rfl rfl
end Go.Proofs.YtnoahchdmkpleaaGreat.VA

/-! Pj1 -/
namespace Go.Proofs.YtnoahchdmkpleaaGreat.VA
open Go Go.RowKit
set_option linter.unusedSimpArgs false
set_option linter.unusedVariables false

abbrev putB (b : Bnd) (l : List Bnd) : List Bnd := putG Bnd.nm strLt b l
abbrev putL (x : Lc) (l : List Lc) : List Lc := putG Lc.atom ltA x l
abbrev UpB (l : List Bnd) : Prop := Up Bnd.nm strLt l
abbrev UpL (l : List Lc) : Prop := Up Lc.atom ltA l
theorem upB_to : ∀ {p : Option ByteArray} {l : List Bnd}, upB p l = true → (∀ f, f ∈ l → mayA f.vals = true) ∧ UpB l ∧ ∀ q, p = some q → ∀ f, f ∈ l → strLt q f.nm = true
 | p, [], _ => ⟨fun f h => (by cases h), List.Pairwise.nil, fun q _ f h => by cases h⟩
 | p, f :: l, h => by
  unfold upB at h
  rw [Bool.and_eq_true, Bool.and_eq_true] at h
  obtain ⟨h1, h2, h3⟩ := h
  obtain ⟨k1, k2, k3⟩ := upB_to h3
  refine ⟨fun g hg => ?_, List.pairwise_cons.2 ⟨fun g hg => k3 _ rfl g hg, k2⟩, fun q hq g hg => ?_⟩
  ·rcases List.mem_cons.1 hg with rfl | hg
   ·exact h1
   ·exact k1 g hg
  ·subst hq
   rcases List.mem_cons.1 hg with rfl | hg
   ·exact h2
   ·exact sl_trans h2 (k3 _ rfl g hg)
theorem to_upB : ∀ {p : Option ByteArray} {l : List Bnd}, (∀ f, f ∈ l → mayA f.vals = true) → UpB l → (∀ q, p = some q → ∀ f, f ∈ l → strLt q f.nm = true) → upB p l = true
 | p, [], _, _, _ => rfl
 | p, f :: l, h1, h2, h3 => by
  unfold upB
  have h' := List.pairwise_cons.1 h2
  rw [h1 f (List.mem_cons_self ..), to_upB (fun g hg => h1 g (List.mem_cons_of_mem _ hg)) h'.2 (fun q hq g hg => by cases hq; exact h'.1 g hg)]
  cases p with
  | none => rfl
  | some q => simp [h3 q rfl f (List.mem_cons_self ..)]
theorem upL_to : ∀ {p : Option (Int × Int)} {l : List Lc}, upL p l = true → (∀ f, f ∈ l → placeA f.atom = true ∧ mayS f.shape = true) ∧ UpL l ∧ ∀ q, p = some q → ∀ f, f ∈ l → ltA q f.atom = true
 | p, [], _ => ⟨fun f h => (by cases h), List.Pairwise.nil, fun q _ f h => by cases h⟩
 | p, f :: l, h => by
  unfold upL at h
  rw [Bool.and_eq_true, Bool.and_eq_true, Bool.and_eq_true] at h
  obtain ⟨h0, h1, h2, h3⟩ := h
  obtain ⟨k1, k2, k3⟩ := upL_to h3
  refine ⟨fun g hg => ?_, List.pairwise_cons.2 ⟨fun g hg => k3 _ rfl g hg, k2⟩, fun q hq g hg => ?_⟩
  ·rcases List.mem_cons.1 hg with rfl | hg
   ·exact ⟨h0, h1⟩
   ·exact k1 g hg
  ·subst hq
   rcases List.mem_cons.1 hg with rfl | hg
   ·exact h2
   ·exact ordA.trans h2 (k3 _ rfl g hg)
theorem to_upL : ∀ {p : Option (Int × Int)} {l : List Lc}, (∀ f, f ∈ l → placeA f.atom = true ∧ mayS f.shape = true) → UpL l → (∀ q, p = some q → ∀ f, f ∈ l → ltA q f.atom = true) → upL p l = true
 | p, [], _, _, _ => rfl
 | p, f :: l, h1, h2, h3 => by
  unfold upL
  have h' := List.pairwise_cons.1 h2
  have hf := h1 f (List.mem_cons_self ..)
  rw [hf.1, hf.2, to_upL (fun g hg => h1 g (List.mem_cons_of_mem _ hg)) h'.2 (fun q hq g hg => by cases hq; exact h'.1 g hg)]
  cases p with
  | none => rfl
  | some q => simp [h3 q rfl f (List.mem_cons_self ..)]
theorem mayT_to {s : Sta} (h : mayT s = true) : (∀ f, f ∈ s.vars → mayA f.vals = true) ∧ UpB s.vars ∧ (∀ f, f ∈ s.locs → placeA f.atom = true ∧ mayS f.shape = true) ∧ UpL s.locs := by
 unfold mayT at h
 rw [Bool.and_eq_true, Bool.and_eq_true] at h
 obtain ⟨a1, a2, _⟩ := upB_to h.1
 obtain ⟨b1, b2, _⟩ := upL_to h.2.1
 exact ⟨a1, a2, b1, b2⟩
theorem to_mayT {vs : List Bnd} {ls : List Lc} (h1 : ∀ f, f ∈ vs → mayA f.vals = true) (h2 : UpB vs) (h3 : ∀ f, f ∈ ls → placeA f.atom = true ∧ mayS f.shape = true) (h4 : UpL ls) : mayT ⟨false, vs, ls⟩ = true := by
 unfold mayT
 rw [to_upB h1 h2 (fun q hq => by cases hq), to_upL h3 h4 (fun q hq => by cases hq)]
 rfl
theorem mayT_dead {s : Sta} (h : mayT s = true) (hd : s.dead = true) : s = ⟨true, [], []⟩ := by
 unfold mayT at h
 rw [Bool.and_eq_true, Bool.and_eq_true, hd] at h
 have := h.2.2
 obtain ⟨d, vs, ls⟩ := s
 simp at this hd
 simp [this, hd]
def joinV (a b : Sta) (n : ByteArray) : Bnd := ⟨n, normA (normA (varA n a.vars ++ varA n b.vars))⟩
def stpV (a b : Sta) (out : List Bnd) (v : Bnd) : List Bnd := putB (joinV a b v.nm) out
def joinO (a : Sta) (l : Lc) : Sh := if (getL l.atom a.locs).isSome = true then joinSh (((getL l.atom a.locs).map Lc.shape).getD shZ) l.shape else l.shape
def stpL (a : Sta) (out : List Lc) (l : Lc) : List Lc := putL ⟨l.atom, joinO a l⟩ out
/-- Two states joined. -/
def joinT (a b : Sta) : Sta :=
 if mayT a = true ∧ mayT b = true then
  (if a.dead = true then b else if b.dead = true then a else ⟨false, (a.vars ++ b.vars).foldl (stpV a b) a.vars, b.locs.foldl (stpL a) a.locs⟩)
 else ⟨false, [], []⟩
/-- Few variables, objects, properties, atoms, as Small asks. -/
structure Few (s : Sta) : Prop where
 v : s.vars.length ≤ 40
 l : s.locs.length ≤ 40
 vv : ∀ b, b ∈ s.vars → b.vals.length ≤ 40
 ll : ∀ x, x ∈ s.locs → x.shape.fields.length ≤ 40 ∧ x.shape.proto.length ≤ 40 ∧ ∀ f, f ∈ x.shape.fields → f.vals.length ≤ 40
theorem few_of {s : Sta} (h : smT s = true) : Few s := by
 unfold smT at h
 simp only [Bool.and_eq_true, decide_eq_true_eq, List.all_eq_true] at h
 obtain ⟨h1, h2, h3, h4⟩ := h
 refine ⟨h1, h2, fun b hb => by simpa [smB] using h3 b hb, fun x hx => ?_⟩
 have := h4 x hx
 unfold smL at this
 simp only [Bool.and_eq_true, decide_eq_true_eq, List.all_eq_true] at this
 exact ⟨this.1, this.2.1, fun f hf => by simpa [smF] using this.2.2 f hf⟩
theorem Few.ok {s : Sta} (h : Few s) : StOk s := by
 have hLA : LA = 1000000000000 := rfl
 refine ⟨fun b hb => by have := h.vv b hb; unfold BOk; omega, by have := h.v; omega, fun l hl => ?_, by have := h.l; omega⟩
 have := h.ll l hl
 exact ⟨fun f hf => by have := this.2.2 f hf; unfold FOk; omega, by omega, by omega⟩
theorem varA_few {s : Sta} (h : Few s) (q : ByteArray) : (varA q s.vars).length ≤ 40 := by
 unfold varA
 split
 ·rename_i b hb
  exact h.vv b (List.mem_of_find?_eq_some hb)
 ·decide
theorem putG_len {α κ : Type} [DecidableEq κ] {key : α → κ} {lt : κ → κ → Bool} {x : α} : ∀ {l : List α}, (putG key lt x l).length ≤ l.length + 1
 | [] => by simp [putG]
 | y :: l => by
  have := putG_len (key := key) (lt := lt) (x := x) (l := l)
  unfold putG
  split
  ·simp only [List.length_cons]; omega
  ·split <;> simp
/-- What holds of a state's variables while they are joined. -/
structure GoodV (n : Nat) (l : List Bnd) : Prop where
 len : l.length ≤ n
 vv : ∀ b, b ∈ l → b.vals.length ≤ 80
 may : ∀ b, b ∈ l → mayA b.vals = true
 up : UpB l
theorem GoodV.step {a b : Sta} (ha : Few a) (hb : Few b) {n : Nat} {l : List Bnd} (h : GoodV n l) (q : ByteArray) : GoodV (n + 1) (putB (joinV a b q) l) := by
 refine ⟨by have := putG_len (key := Bnd.nm) (lt := strLt) (x := joinV a b q) (l := l); have := h.len; unfold putB; omega, fun x hx => ?_, fun x hx => ?_, Up.put ordB h.up⟩
 ·rcases putG_mem hx with rfl | hx
  ·have h1 := normA_le (normA (varA q a.vars ++ varA q b.vars))
   have h2 := normA_le (varA q a.vars ++ varA q b.vars)
   have h3 := varA_few ha q
   have h4 := varA_few hb q
   rw [List.length_append] at h2
   show (normA (normA _)).length ≤ 80
   omega
  ·exact h.vv x hx
 ·rcases putG_mem hx with rfl | hx
  ·exact mayA_norm _
  ·exact h.may x hx
theorem GoodV.start {a : Sta} (ha : Few a) (hm : mayT a = true) : GoodV 40 a.vars :=
 ⟨ha.v, fun b hb => by have := ha.vv b hb; omega, (mayT_to hm).1, (mayT_to hm).2.1⟩
theorem GoodV.fold {a b : Sta} (ha : Few a) (hb : Few b) : ∀ (l : List Bnd) {n : Nat} {out : List Bnd}, GoodV n out → GoodV (n + l.length) (l.foldl (stpV a b) out)
 | [], n, out, h => h
 | v :: l, n, out, h => by
  have := GoodV.fold ha hb l (h.step ha hb v.nm)
  rw [List.length_cons, show n + (l.length + 1) = n + 1 + l.length by omega]
  exact this
theorem stpF_len (l : List Fd) : ∀ (out : List Fd), (l.foldl stpF out).length ≤ out.length + l.length := by
 induction l with
 | nil => intro out; simp
 | cons g l ih =>
  intro out
  have h1 := ih (stpF out g)
  have h2 : (stpF out g).length ≤ out.length + 1 := putG_len
  simp only [List.foldl_cons, List.length_cons]
  omega
theorem stpF_vals {m : Nat} : ∀ (l out : List Fd), UpF out → UpF l → (∀ g, g ∈ l → g.vals.length ≤ 40) → (∀ g, g ∈ out → g.vals.length ≤ 40 ∨ (g.vals.length ≤ 80 ∧ ∀ x, x ∈ l → x.nm ≠ g.nm)) → ∀ g, g ∈ l.foldl stpF out → g.vals.length ≤ 80
 | [], out, _, _, _, h, g, hg => by
  rcases h g hg with h | h
  ·omega
  ·exact h.1
 | f :: l, out, ho, hl, hv, h, g, hg => by
  have hl' := List.pairwise_cons.1 hl
  refine stpF_vals (m := m) l (stpF out f) (Up.put ordB ho) hl'.2 (fun g hg => hv g (List.mem_cons_of_mem _ hg)) (fun x hx => ?_) g hg
  rcases putG_mem hx with rfl | hx
  ·right
   refine ⟨?_, fun y hy e => ?_⟩
   ·show (normA _).length ≤ 80
    have h1 := normA_le (((getF f.nm out).getD fdZ).vals ++ f.vals)
    have h2 := hv f (List.mem_cons_self ..)
    rw [List.length_append] at h1
    have h3 : ((getF f.nm out).getD fdZ).vals.length ≤ 40 := by
     cases hq : getF f.nm out with
     | none => simp [fdZ]
     | some y =>
      obtain ⟨e1, e2⟩ := getF_nm hq
      rcases h y e2 with h | h
      ·exact h
      ·exact absurd e1.symm (h.2 f (List.mem_cons_self ..))
    omega
   ·have := hl'.1 y hy
    have e' : y.nm = f.nm := e
    rw [e', sl_self] at this; cases this
  ·rcases h x hx with h | h
   ·exact .inl h
   ·exact .inr ⟨h.1, fun y hy => h.2 y (List.mem_cons_of_mem _ hy)⟩
theorem joinSh_len {a b : Sh} (ha : a.fields.length ≤ 40 ∧ a.proto.length ≤ 40 ∧ ∀ f, f ∈ a.fields → f.vals.length ≤ 40) (hb : b.fields.length ≤ 40 ∧ b.proto.length ≤ 40 ∧ ∀ f, f ∈ b.fields → f.vals.length ≤ 40) :
  (joinSh a b).fields.length ≤ 80 ∧ (joinSh a b).proto.length ≤ 80 ∧ ∀ f, f ∈ (joinSh a b).fields → f.vals.length ≤ 80 := by
 unfold joinSh
 split
 ·rename_i h
  obtain ⟨h1, h2⟩ := h
  unfold mayS at h1 h2
  rw [Bool.and_eq_true] at h1 h2
  obtain ⟨k1, k2, _⟩ := upF_may h1.1
  obtain ⟨m1, m2, _⟩ := upF_may h2.1
  have hp := normA_le (a.proto ++ b.proto)
  rw [List.length_append] at hp
  refine ⟨?_, by show (normA _).length ≤ 80; omega, ?_⟩
  ·have := stpF_len b.fields (a.fields.map (dimF b.fields))
   rw [List.length_map] at this
   show (joinP a.fields b.fields).length ≤ 80
   unfold joinP; omega
  ·refine stpF_vals (m := 0) b.fields (a.fields.map (dimF b.fields)) (joinP_up k2 m2).2 m2 hb.2.2 (fun g hg => .inl ?_)
   obtain ⟨f, hf, rfl⟩ := List.mem_map.1 hg
   exact ha.2.2 f hf
 ·exact ⟨by simp, by simp, by simp⟩
/-- What holds of a state's objects while they are joined. -/
structure GoodL (n : Nat) (l : List Lc) : Prop where
 len : l.length ≤ n
 ll : ∀ x, x ∈ l → x.shape.fields.length ≤ 80 ∧ x.shape.proto.length ≤ 80 ∧ ∀ f, f ∈ x.shape.fields → f.vals.length ≤ 80
 may : ∀ x, x ∈ l → placeA x.atom = true ∧ mayS x.shape = true
 up : UpL l
theorem getL_mem {q : Int × Int} {l : List Lc} {x : Lc} (h : getL q l = some x) : x.atom = q ∧ x ∈ l := by
 unfold getL getG at h
 have h1 := List.find?_some h
 exact ⟨by simpa using h1, List.mem_of_find?_eq_some h⟩
theorem joinO_good {a : Sta} (ha : Few a) {l : Lc} (hl : l.shape.fields.length ≤ 40 ∧ l.shape.proto.length ≤ 40 ∧ ∀ f, f ∈ l.shape.fields → f.vals.length ≤ 40) (hm : mayS l.shape = true) :
  ((joinO a l).fields.length ≤ 80 ∧ (joinO a l).proto.length ≤ 80 ∧ ∀ f, f ∈ (joinO a l).fields → f.vals.length ≤ 80) ∧ mayS (joinO a l) = true := by
 unfold joinO
 cases hg : getL l.atom a.locs with
 | none => exact ⟨⟨by simp; omega, by simp; omega, fun f hf => by simp at hf; have := hl.2.2 f hf; omega⟩, by simpa using hm⟩
 | some x =>
  simp only [Option.isSome_some, if_true, Option.map_some, Option.getD_some]
  exact ⟨joinSh_len (ha.ll x (getL_mem hg).2) hl, joinSh_may _ _⟩
theorem GoodL.step {a : Sta} (ha : Few a) {n : Nat} {out : List Lc} (h : GoodL n out) {l : Lc} (hl : l.shape.fields.length ≤ 40 ∧ l.shape.proto.length ≤ 40 ∧ ∀ f, f ∈ l.shape.fields → f.vals.length ≤ 40) (hm : placeA l.atom = true ∧ mayS l.shape = true) : GoodL (n + 1) (putL ⟨l.atom, joinO a l⟩ out) := by
 have hg := joinO_good ha hl hm.2
 refine ⟨by have := putG_len (key := Lc.atom) (lt := ltA) (x := (⟨l.atom, joinO a l⟩ : Lc)) (l := out); have := h.len; unfold putL; omega, fun x hx => ?_, fun x hx => ?_, Up.put ordA h.up⟩
 ·rcases putG_mem hx with rfl | hx
  ·exact hg.1
  ·exact h.ll x hx
 ·rcases putG_mem hx with rfl | hx
  ·exact ⟨hm.1, hg.2⟩
  ·exact h.may x hx
theorem GoodL.start {a : Sta} (ha : Few a) (hm : mayT a = true) : GoodL 40 a.locs :=
 ⟨ha.l, fun x hx => by have := ha.ll x hx; exact ⟨by omega, by omega, fun f hf => by have := this.2.2 f hf; omega⟩, (mayT_to hm).2.2.1, (mayT_to hm).2.2.2⟩
theorem GoodL.fold {a b : Sta} (ha : Few a) (hb : Few b) (hm : mayT b = true) : ∀ (l : List Lc) {n : Nat} {out : List Lc}, (∀ x, x ∈ l → x ∈ b.locs) → GoodL n out → GoodL (n + l.length) (l.foldl (stpL a) out)
 | [], n, out, _, h => h
 | x :: l, n, out, hs, h => by
  have hx := hs x (List.mem_cons_self ..)
  have := GoodL.fold ha hb hm l (fun y hy => hs y (List.mem_cons_of_mem _ hy)) (h.step ha (hb.ll x hx) ((mayT_to hm).2.2.1 x hx))
  rw [List.length_cons, show n + (l.length + 1) = n + 1 + l.length by omega]
  exact this
theorem good_ok {n m : Nat} {vs : List Bnd} {ls : List Lc} (hv : GoodV n vs) (hl : GoodL m ls) (hn : n ≤ 1000) (hm : m ≤ 1000) (d : Bool) : StOk ⟨d, vs, ls⟩ := by
 have hLA : LA = 1000000000000 := rfl
 refine ⟨fun b hb => by have := hv.vv b hb; unfold BOk; omega, by have := hv.len; show vs.length ≤ LA; omega, fun l hl' => ?_, by have := hl.len; show ls.length ≤ LA; omega⟩
 have := hl.ll l hl'
 exact ⟨fun f hf => by have := this.2.2 f hf; unfold FOk; omega, by omega, by omega⟩
theorem joinT_ok {a b : Sta} (ha : Few a) (hb : Few b) : StOk (joinT a b) := by
 unfold joinT
 split
 ·rename_i h
  split
  ·exact hb.ok
  ·split
   ·exact ha.ok
   ·have h1 := GoodV.fold ha hb (a.vars ++ b.vars) (GoodV.start ha h.1)
    have h2 := GoodL.fold ha hb h.2 b.locs (fun x hx => hx) (GoodL.start ha h.1)
    exact good_ok h1 h2 (by rw [List.length_append]; have := ha.v; have := hb.v; omega) (by have := hb.l; omega) false
 ·exact ⟨by simp, Nat.zero_le _, by simp, Nat.zero_le _⟩
end Go.Proofs.YtnoahchdmkpleaaGreat.VA

/-! Jo2 -/
namespace Go.Proofs.YtnoahchdmkpleaaGreat.VA
open Go Go.RowKit
attribute [local go_sem] Nat.add_eq_left Nat.left_eq_add true_and and_true ite_true if_false Int.cast_ofNat_Int eq_self Nat.add_assoc Option.some.injEq decide_true decide_false Bool.not_true Bool.not_false List.size_toArray List.length_cons List.length_nil
set_option linter.unusedSimpArgs false
set_option linter.unusedVariables false
set_option maxRecDepth 100000

theorem y_norm (d : List (Int × Int)) (hl : d.length ≤ LA) (o : Own) (H : Heap) : calls Tryz.prog cfgY 60 [.sl o (encAs d)] H = some (.ret (.sl .sh (encAs (normA d))) H) :=
 calls_by rfl (fun H => by simp only [sanL, san, sanLL_encAs]; exact c_norm d hl .sh H) (by simp only [san, sanLL_encAs]) H
theorem y_set (dd : Bool) (vs : List Bnd) (A B : AV) (q : ByteArray) (d : List (Int × Int)) (o : Own) (lo : Nat) (H0 : Heap) (hA : ArrS 2 H0 lo A (vs.map encB)) (hlo : lo ≤ H0.next) (hB : B.one = true) (hd : d.length ≤ LA) (hvl : vs.length + 1 ≤ LA) :
  ∃ v H', calls Tryz.prog cfgY 87 [.agg [.lit (.bool dd), A, B], .lit (.string q), .sl o (encAs d)] H0 = some (.ret v H') ∧
   (∃ A', v = .agg [.lit (.bool dd), A', B] ∧ ArrS 2 H' lo A' ((putB ⟨q, normA d⟩ vs).map encB) ∧ Chg H0 H' A A') := by
 refine calls_arr (fn := Tryz.f87) rfl rfl rfl rfl rfl ?_
 have rs : Tryz.f87.results.toList = [.cell 6 26] := rfl
 generalize hN : H0.next = N
 rw [hN] at hlo
 have hA1 := hA.one
 have z1 : ¬ N + 1 = N := by omega
 have z2 : ¬ N + 2 = N := by omega
 have z3 : ¬ N + 2 = N + 1 := by omega
 have nA : ∀ j, N ≤ j → arrNo A j := fun j hj => hA.no' (by omega)
 simp only [go_sem, simprocAttr, rs, hN, Nat.add_zero, z1, z2, z3, hA1, hB]
 refine goC_ex (y_befB vs q (N + 1) A lo _ (hA.of (by simp only [go_sem, simprocAttr]; omega) (fun k h1 h2 h3 => by
  have a1 : ¬ N = k := by omega
  have a2 : ¬ N + 1 = k := by omega
  have a3 : ¬ N + 2 = k := by omega
  simp only [go_sem, simprocAttr, a1, a2, a3])) (by simp only [go_sem, simprocAttr, z3]) (by simp only [go_sem, simprocAttr]; omega) (by omega)) ?_
 rintro v K ⟨hF1, k, rfl, hkl, hall, hkx⟩
 have kN : K.get N = some [.lit (.bool dd), A, B] := by rw [hF1.get (by simp only [go_sem, simprocAttr]; omega)]; simp only [go_sem, simprocAttr, z1, z2]
 have kN1 : K.get (N + 1) = some [.lit (.string q)] := by rw [hF1.get (by simp only [go_sem, simprocAttr]; omega)]; simp only [go_sem, simprocAttr, z3]
 have kN2 : K.get (N + 2) = some [.lit (.bool false), .sl .nil [], .sl .nil []] := by rw [hF1.get (by simp only [go_sem, simprocAttr]; omega)]; simp only [go_sem, simprocAttr]
 have knx := hF1.nx
 simp only [go_sem, simprocAttr] at knx
 have hF2 : Frm H0 K := (by repeat (first | exact Frm.refl _ | refine Frm.up ?_ _ | refine Frm.put ?_ _ (by omega)) : Frm H0 _).trans hF1
 have hKA : ArrS 2 K lo A (vs.map encB) := hA.of hF2.nx (fun j h1 h2 h3 => hF2.get h2)
 have hln : lnn Tryz.prog 23 A = some (.lit (.int .i64 (vs.length : Nat))) := by
  have := hA.lnn (P := Tryz.prog) el_sBnd
  rw [List.length_map] at this; exact this
 obtain ⟨m, hm⟩ : ∃ m, K.next = m := ⟨_, rfl⟩
 have hpt := putG_at (key := Bnd.nm) (lt := strLt) (x := ⟨q, normA d⟩) hkl hall hkx
 have hbd : aBuildSlice Tryz.prog 23 1 [(0, .agg [.lit (.string q), .sl .sh (encAs (normA d))])] = some (.sl .ex [encB ⟨q, normA d⟩]) := build1 el_sBnd (by decide) zr_bind rfl rfl _ rfl rfl
 have hnd : ∀ H, calls Tryz.prog cfgY 60 [.sl o (encAs d)] H = some (.ret (.sl .sh (encAs (normA d))) H) := fun H => y_norm d hd o H
 have i1 : cfgY.imp 60 = false := rfl
 have nX : ∀ j, N ≤ j → j < N + 3 → arrNo A j := fun j h1 h2 => nA j h1
 by_cases hkn : k < vs.length
 ·rw [List.getElem?_eq_getElem hkn] at hpt
  rcases hKA with ⟨rfl, he⟩ | ⟨r, z, rfl, hg, hlr, hr, hzu, hzo⟩
  ·have hv0 : vs = [] := List.map_eq_nil_iff.1 he
   subst hv0; simp at hkn
  have hrl : (vs.map encB).length = vs.length := List.length_map ..
  have hKA : ArrS 2 K lo (.ar r 0 (vs.map encB).length 2) (vs.map encB) := .inr ⟨r, z, rfl, hg, hlr, hr, hzu, hzo⟩
  have rN : r ≠ N := nA N (Nat.le_refl _)
  have rN1 : r ≠ N + 1 := nA (N + 1) (by omega)
  have rN2 : r ≠ N + 2 := nA (N + 2) (by omega)
  have hul := (B_unif vs).append hzu
  have d1 : decide ((k : Int) < (vs.length : Nat)) = true := by simp; omega
  have ha := iad_ar (t := 76) (b := 40) (r := r) (a := 0) (sz := 2) (m := vs.length) hkn
  rw [Nat.zero_add] at ha
  have hnm : ((vs.map encB ++ z).flatten)[k * 2]? = some (.lit (.string vs[k].nm)) := by
   have h1 := flat_at hul (i := k) (x := encB vs[k]) (by rw [List.getElem?_append_left (by simpa using hkn)]; simp [hkn])
   have h2 : (((vs.map encB ++ z).flatten.drop (k * 2)).take 2)[0]? = (encB vs[k])[0]? := by rw [h1]
   rw [List.getElem?_take, if_pos (by decide), List.getElem?_drop] at h2
   simpa [encB] using h2
  rw [hrl] at kN hln
  simp only [go_sem, simprocAttr]
  refine W_draw [(7, 12), (11, 12)] (by kernel_rfl) ?_
  by_cases hq : vs[k].nm = q
  ·have dq : decide (vs[k].nm = q) = true := by simpa using hq
   have hw1 := wrap1 (show k + 1 ≤ 9223372036854775807 by unfold LA at hvl; omega)
   simp only [hq, if_true] at hpt
   simp only [go_sem, simprocAttr, rs, kN, kN1, hln, d1, ha, hg, hnm, dq, hw1, hm, Nat.add_zero]
   have hdl := fun H hA => del_arr (P := Tryz.prog) (c := cfgY) (f := 132) (t := 23) (lo := lo) rfl rfl rfl el_sBnd (by decide) zr_bind rfl rfl (H := H) (A := .ar r 0 vs.length 2) (es := vs.map encB) hA (B_unif vs) (B_ones vs) (k := k) (by rw [hrl]; exact hkn)
   refine goC_ex (hdl _ (by rw [hrl] at hKA; repeat (first | exact hKA | refine ArrS.up ?_ _))) ?_
   rintro v K1 ⟨hP1, hC1, r1, hr1, rfl⟩
   simp only [AV.ar.injEq] at hr1
   obtain ⟨rfl, -, -⟩ := hr1
   have h1N : K1.get N = some [.lit (.bool dd), .ar r 0 vs.length 2, B] := by rw [hC1.get (by simp only [go_sem, simprocAttr]; omega) rN]; exact kN
   have h1N1 : K1.get (N + 1) = some [.lit (.string q)] := by rw [hC1.get (by simp only [go_sem, simprocAttr]; omega) rN1]; exact kN1
   have h1N2 : K1.get (N + 2) = some [.lit (.bool false), .sl .nil [], .sl .nil []] := by rw [hC1.get (by simp only [go_sem, simprocAttr]; omega) rN2]; exact kN2
   have hnx1 := hC1.nx
   simp only [go_sem, simprocAttr] at hnx1
   simp only [go_sem, simprocAttr, rs, h1N, hB, hrl]
   obtain ⟨KX, hKX⟩ : ∃ KX, KX = K1.put N [.lit (.bool dd), .ar r 0 (vs.length - 1) 2, B] := ⟨_, rfl⟩
   have z0' : ¬ N = N + 1 := by omega
   have z0'' : ¬ N = N + 2 := by omega
   have xN : KX.get N = some [.lit (.bool dd), .ar r 0 (vs.length - 1) 2, B] := by rw [hKX]; simp only [go_sem, simprocAttr]
   have xN1 : KX.get (N + 1) = some [.lit (.string q)] := by rw [hKX]; simp only [go_sem, simprocAttr, z0', h1N1]
   have xN2 : KX.get (N + 2) = some [.lit (.bool false), .sl .nil [], .sl .nil []] := by rw [hKX]; simp only [go_sem, simprocAttr, z0'', h1N2]
   have xnx : KX.next = K1.next := by rw [hKX]; simp only [go_sem, simprocAttr]
   rw [hrl, ← List.map_take, ← List.map_drop, ← List.map_append] at hP1
   have hPX : ArrS 2 KX lo (.ar r 0 (vs.length - 1) 2) ((vs.take k ++ vs.drop (k + 1)).map encB) := by rw [hKX]; exact hP1.put _ rN
   have hCX : Chg H0 KX (.ar r 0 (vs.map encB).length 2) (.ar r 0 (vs.length - 1) 2) := by
    rw [hKX, hrl]
    rw [hrl] at hC1
    exact (Chg.trans (Chg.frm (by repeat (first | exact hF2 | refine Frm.up ?_ _))) hC1).put _ (by omega)
   rw [hrl] at hCX
   have nX : ∀ j, N ≤ j → j < N + 3 → arrNo (.ar r 0 (vs.length - 1) 2) j := fun j h1 h2 => nA j h1
   have hkX : k ≤ (vs.take k ++ vs.drop (k + 1)).length := by simp; omega
   have hlX : (vs.take k ++ vs.drop (k + 1)).length + 1 ≤ LA := by simp; omega
   have hpX : putB ⟨q, normA d⟩ vs = (vs.take k ++ vs.drop (k + 1)).take k ++ [⟨q, normA d⟩] ++ (vs.take k ++ vs.drop (k + 1)).drop k := by
    have hl : (vs.take k).length = k := by rw [List.length_take]; omega
    rw [List.take_left' hl, List.drop_left' hl]
    exact hpt
   rw [← hKX]
   clear hKX
   refine W_draw [(1, 3), (1, 5), (3, 5)] (by kernel_rfl) ?_
   simp only [go_sem, simprocAttr, xN, xN1, hnd, i1, hbd]
   refine dK_exS (ins_arr (c := cfgY) (f := 133) (t := 23) rfl rfl rfl el_sBnd (by decide) zo_sBnd rfl (by decide) (A := (.ar r 0 (vs.length - 1) 2)) (lo := lo) (es := (vs.take k ++ vs.drop (k + 1)).map encB) (k := k) (x := encB ⟨q, normA d⟩) (by repeat (first | exact hPX | refine ArrS.up ?_ _)) (by simp only [go_sem, simprocAttr]; omega) (B_unif _) (B_ones _) (by rw [List.length_map]; exact hkX) (by rw [List.length_map]; exact hlX) rfl rfl) rfl ?_
   rintro v K2 ⟨hP, hC⟩
   have nx2 := hC.nx
   simp only [go_sem, simprocAttr] at nx2
   have k2N : K2.get N = some [.lit (.bool dd), (.ar r 0 (vs.length - 1) 2), B] := by rw [hC.get (by simp only [go_sem, simprocAttr]; omega) (nX N (Nat.le_refl _) (by omega))]; exact xN
   have k2N2 : K2.get (N + 2) = some [.lit (.bool false), .sl .nil [], .sl .nil []] := by rw [hC.get (by simp only [go_sem, simprocAttr]; omega) (nX (N + 2) (by omega) (by omega))]; exact xN2
   have v0 := (hC.ho N (by simp only [go_sem, simprocAttr]; omega) (nX N (Nat.le_refl _) (by omega))).2
   have v2 := (hC.ho (N + 2) (by simp only [go_sem, simprocAttr]; omega) (nX (N + 2) (by omega) (by omega))).2
   have z0 : ¬ N = N + 2 := by omega
   have hv1 := hP.one
   have hvc := cells_of_oneS hv1
   have hvo : [v].all AV.one = true := by rw [List.all_cons, hv1]; rfl
   simp only [go_sem, simprocAttr, rs, k2N, k2N2, hv1, hB, z0, hvc, hvo]
   have hes : (putB ⟨q, normA d⟩ vs).map encB = ((vs.take k ++ vs.drop (k + 1)).map encB).take k ++ [encB ⟨q, normA d⟩] ++ ((vs.take k ++ vs.drop (k + 1)).map encB).drop k := by rw [hpX]; simp [List.map_take, List.map_drop]
   refine ⟨_, rfl, v, rfl, by rw [hes]; exact ((hP.put _ v0).up 2).put _ v2, ?_⟩
   have hC0 : Chg H0 K2 (.ar r 0 vs.length 2) v := Chg.trans (by repeat (first | exact hCX | refine Chg.up ?_ _)) hC
   refine Chg.put (Chg.up (Chg.put hC0 _ ?_) 2) _ ?_ <;> omega
  ·have dq : decide (vs[k].nm = q) = false := by simpa using hq
   simp only [hq, if_false] at hpt
   simp only [go_sem, simprocAttr, rs, kN, kN1, hln, d1, ha, hg, hnm, dq, hm, Nat.add_zero]
   have xN := kN
   have xN1 := kN1
   have xN2 := kN2
   rw [hrl] at hKA
   have hPX := hKA
   have hCX : Chg H0 K (.ar r 0 (vs.map encB).length 2) (.ar r 0 vs.length 2) := by rw [hrl]; exact Chg.frm hF2
   have nX : ∀ j, N ≤ j → j < N + 3 → arrNo (.ar r 0 vs.length 2) j := fun j h1 h2 => nA j h1
   have hkX : k ≤ vs.length := hkl
   have hlX := hvl
   have hpX : putB ⟨q, normA d⟩ vs = vs.take k ++ [⟨q, normA d⟩] ++ vs.drop k := hpt
   refine W_draw [(1, 3), (1, 5), (3, 5)] (by kernel_rfl) ?_
   simp only [go_sem, simprocAttr, xN, xN1, hnd, i1, hbd]
   refine dK_exS (ins_arr (c := cfgY) (f := 133) (t := 23) rfl rfl rfl el_sBnd (by decide) zo_sBnd rfl (by decide) (A := (.ar r 0 vs.length 2)) (lo := lo) (es := (vs).map encB) (k := k) (x := encB ⟨q, normA d⟩) (by repeat (first | exact hPX | refine ArrS.up ?_ _)) (by simp only [go_sem, simprocAttr]; omega) (B_unif _) (B_ones _) (by rw [List.length_map]; exact hkX) (by rw [List.length_map]; exact hlX) rfl rfl) rfl ?_
   rintro v K2 ⟨hP, hC⟩
   have nx2 := hC.nx
   simp only [go_sem, simprocAttr] at nx2
   have k2N : K2.get N = some [.lit (.bool dd), (.ar r 0 vs.length 2), B] := by rw [hC.get (by simp only [go_sem, simprocAttr]; omega) (nX N (Nat.le_refl _) (by omega))]; exact xN
   have k2N2 : K2.get (N + 2) = some [.lit (.bool false), .sl .nil [], .sl .nil []] := by rw [hC.get (by simp only [go_sem, simprocAttr]; omega) (nX (N + 2) (by omega) (by omega))]; exact xN2
   have v0 := (hC.ho N (by simp only [go_sem, simprocAttr]; omega) (nX N (Nat.le_refl _) (by omega))).2
   have v2 := (hC.ho (N + 2) (by simp only [go_sem, simprocAttr]; omega) (nX (N + 2) (by omega) (by omega))).2
   have z0 : ¬ N = N + 2 := by omega
   have hv1 := hP.one
   have hvc := cells_of_oneS hv1
   have hvo : [v].all AV.one = true := by rw [List.all_cons, hv1]; rfl
   simp only [go_sem, simprocAttr, rs, k2N, k2N2, hv1, hB, z0, hvc, hvo]
   have hes : (putB ⟨q, normA d⟩ vs).map encB = ((vs).map encB).take k ++ [encB ⟨q, normA d⟩] ++ ((vs).map encB).drop k := by rw [hpX]; simp [List.map_take, List.map_drop]
   refine ⟨_, rfl, v, rfl, by rw [hes]; exact ((hP.put _ v0).up 2).put _ v2, ?_⟩
   have hC0 : Chg H0 K2 (.ar r 0 (vs.map encB).length 2) v := Chg.trans (by repeat (first | exact hCX | refine Chg.up ?_ _)) hC
   refine Chg.put (Chg.up (Chg.put hC0 _ ?_) 2) _ ?_ <;> omega
 ·have d1 : decide ((k : Int) < (vs.length : Nat)) = false := by simp; omega
  rw [List.getElem?_eq_none (by omega)] at hpt
  simp only [go_sem, simprocAttr]
  refine W_draw [(7, 12), (11, 12)] (by kernel_rfl) ?_
  simp only [go_sem, simprocAttr, rs, kN, kN1, hln, d1, hm]
  have xN := kN
  have xN1 := kN1
  have xN2 := kN2
  have hPX := hKA
  have hCX : Chg H0 K A A := Chg.frm hF2
  have hkX : k ≤ vs.length := hkl
  have hlX := hvl
  have hpX : putB ⟨q, normA d⟩ vs = vs.take k ++ [⟨q, normA d⟩] ++ vs.drop k := by rw [List.drop_of_length_le (l := vs) (i := k) (by omega)]; exact hpt
  refine W_draw [(1, 3), (1, 5), (3, 5)] (by kernel_rfl) ?_
  simp only [go_sem, simprocAttr, xN, xN1, hnd, i1, hbd]
  refine dK_exS (ins_arr (c := cfgY) (f := 133) (t := 23) rfl rfl rfl el_sBnd (by decide) zo_sBnd rfl (by decide) (A := A) (lo := lo) (es := (vs).map encB) (k := k) (x := encB ⟨q, normA d⟩) (by repeat (first | exact hPX | refine ArrS.up ?_ _)) (by simp only [go_sem, simprocAttr]; omega) (B_unif _) (B_ones _) (by rw [List.length_map]; exact hkX) (by rw [List.length_map]; exact hlX) rfl rfl) rfl ?_
  rintro v K2 ⟨hP, hC⟩
  have nx2 := hC.nx
  simp only [go_sem, simprocAttr] at nx2
  have k2N : K2.get N = some [.lit (.bool dd), A, B] := by rw [hC.get (by simp only [go_sem, simprocAttr]; omega) (nX N (Nat.le_refl _) (by omega))]; exact xN
  have k2N2 : K2.get (N + 2) = some [.lit (.bool false), .sl .nil [], .sl .nil []] := by rw [hC.get (by simp only [go_sem, simprocAttr]; omega) (nX (N + 2) (by omega) (by omega))]; exact xN2
  have v0 := (hC.ho N (by simp only [go_sem, simprocAttr]; omega) (nX N (Nat.le_refl _) (by omega))).2
  have v2 := (hC.ho (N + 2) (by simp only [go_sem, simprocAttr]; omega) (nX (N + 2) (by omega) (by omega))).2
  have z0 : ¬ N = N + 2 := by omega
  have hv1 := hP.one
  have hvc := cells_of_oneS hv1
  have hvo : [v].all AV.one = true := by rw [List.all_cons, hv1]; rfl
  simp only [go_sem, simprocAttr, rs, k2N, k2N2, hv1, hB, z0, hvc, hvo]
  have hes : (putB ⟨q, normA d⟩ vs).map encB = ((vs).map encB).take k ++ [encB ⟨q, normA d⟩] ++ ((vs).map encB).drop k := by rw [hpX]; simp [List.map_take, List.map_drop]
  refine ⟨_, rfl, v, rfl, by rw [hes]; exact ((hP.put _ v0).up 2).put _ v2, ?_⟩
  have hC0 : Chg H0 K2 A v := Chg.trans (by repeat (first | exact hCX | refine Chg.up ?_ _)) hC
  refine Chg.put (Chg.up (Chg.put hC0 _ ?_) 2) _ ?_ <;> omega
end Go.Proofs.YtnoahchdmkpleaaGreat.VA

/-! Jo3 -/
namespace Go.Proofs.YtnoahchdmkpleaaGreat.VA
open Go Go.RowKit
attribute [local go_sem] Nat.add_eq_left Nat.left_eq_add true_and and_true ite_true if_false Int.cast_ofNat_Int eq_self Nat.add_assoc Option.some.injEq decide_true decide_false Bool.not_true Bool.not_false List.size_toArray List.length_cons List.length_nil
set_option linter.unusedSimpArgs false
set_option linter.unusedVariables false
set_option maxRecDepth 100000

theorem y_put (dd : Bool) (vs : List Lc) (A B : AV) (q : Int × Int) (o : Sh) (ho : ShOk o) (lo : Nat) (H0 : Heap) (hA : ArrS 4 H0 lo B (vs.map encL)) (hlo : lo ≤ H0.next) (hAo : A.one = true) (hvl : vs.length + 1 ≤ LA) :
  ∃ v H', calls Tryz.prog cfgY 91 [.agg [.lit (.bool dd), A, B], .agg (avA q), .agg (encSh o)] H0 = some (.ret v H') ∧
   (∃ B', v = .agg [.lit (.bool dd), A, B'] ∧ ArrS 4 H' lo B' ((putL ⟨q, o⟩ vs).map encL) ∧ Chg H0 H' B B') := by
 refine calls_arr (fn := Tryz.f91) rfl rfl rfl rfl rfl ?_
 have rs : Tryz.f91.results.toList = [.cell 6 26] := rfl
 generalize hN : H0.next = N
 rw [hN] at hlo
 have hB1 := hA.one
 have z1 : ¬ N + 1 = N := by omega
 have z2 : ¬ N + 2 = N := by omega
 have z3 : ¬ N + 3 = N := by omega
 have z4 : ¬ N + 2 = N + 1 := by omega
 have z5 : ¬ N + 3 = N + 1 := by omega
 have z6 : ¬ N + 3 = N + 2 := by omega
 have nA : ∀ j, N ≤ j → arrNo B j := fun j hj => hA.no' (by omega)
 have a2 : (avA q).length = 2 := rfl
 have a3 : (avA q).take 2 = avA q := rfl
 have a4 : (avA q).all AV.one = true := rfl
 have s2 : (encSh o).length = 2 := rfl
 have s3 : (encSh o).take 2 = encSh o := rfl
 have s4 : (encSh o).all AV.one = true := rfl
 simp only [go_sem, simprocAttr, rs, hN, Nat.add_zero, z1, z2, z3, z4, z5, z6, hB1, hAo, a2, a3, a4, s2, s3, s4]
 refine goC_ex (y_befL vs q (N + 1) B lo _ (hA.of (by simp only [go_sem, simprocAttr]; omega) (fun k h1 h2 h3 => by
  have a1 : ¬ N = k := by omega
  have a2 : ¬ N + 1 = k := by omega
  have a3 : ¬ N + 2 = k := by omega
  have a4 : ¬ N + 3 = k := by omega
  simp only [go_sem, simprocAttr, a1, a2, a3, a4])) (by simp only [go_sem, simprocAttr, z4, z5]) (by simp only [go_sem, simprocAttr]; omega) (by omega)) ?_
 rintro v K ⟨hF1, k, rfl, hkl, hall, hkx⟩
 have kN : K.get N = some [.lit (.bool dd), A, B] := by rw [hF1.get (by simp only [go_sem, simprocAttr]; omega)]; simp only [go_sem, simprocAttr, z1, z2, z3]
 have kN1 : K.get (N + 1) = some (avA q) := by rw [hF1.get (by simp only [go_sem, simprocAttr]; omega)]; simp only [go_sem, simprocAttr, z4, z5]
 have kN2 : K.get (N + 2) = some (encSh o) := by rw [hF1.get (by simp only [go_sem, simprocAttr]; omega)]; simp only [go_sem, simprocAttr, z6]
 have kN3 : K.get (N + 3) = some [.lit (.bool false), .sl .nil [], .sl .nil []] := by rw [hF1.get (by simp only [go_sem, simprocAttr]; omega)]; simp only [go_sem, simprocAttr]
 have knx := hF1.nx
 simp only [go_sem, simprocAttr] at knx
 have hF2 : Frm H0 K := (by repeat (first | exact Frm.refl _ | refine Frm.up ?_ _ | refine Frm.put ?_ _ (by omega)) : Frm H0 _).trans hF1
 have hKA : ArrS 4 K lo B (vs.map encL) := hA.of hF2.nx (fun j h1 h2 h3 => hF2.get h2)
 have hln : lnn Tryz.prog 24 B = some (.lit (.int .i64 (vs.length : Nat))) := by
  have := hA.lnn (P := Tryz.prog) el_sLoc
  rw [List.length_map] at this; exact this
 obtain ⟨m, hm⟩ : ∃ m, K.next = m := ⟨_, rfl⟩
 have hpt := putG_at (key := Lc.atom) (lt := ltA) (x := ⟨q, o⟩) hkl hall hkx
 have hbd : aBuildSlice Tryz.prog 24 1 [(0, .agg [.lit (.int .i64 q.1), .lit (.int .i64 q.2), .sl .sh (o.fields.map encF), .sl .sh (encAs o.proto)])] = some (.sl .ex [encL ⟨q, o⟩]) := build1 el_sLoc (by decide) zr_loc rfl rfl _ rfl rfl
 have hoc : ∀ H, calls Tryz.prog cfgY 75 [.agg [.sl .sh (o.fields.map encF), .sl .sh (encAs o.proto)]] H = some (.ret (.agg [.sl .sh (o.fields.map encF), .sl .sh (encAs o.proto)]) H) := fun H =>
  t_objCopy (c := cfgY) rfl o ho H
 have i1 : cfgY.imp 75 = false := rfl
 have nX : ∀ j, N ≤ j → j < N + 4 → arrNo B j := fun j h1 h2 => nA j h1
 have qx : avA q = [.lit (.int .i64 q.1), .lit (.int .i64 q.2)] := rfl
 have ox : encSh o = [.sl .sh (o.fields.map encF), .sl .sh (encAs o.proto)] := rfl
 by_cases hkn : k < vs.length
 ·rw [List.getElem?_eq_getElem hkn] at hpt
  rcases hKA with ⟨rfl, he⟩ | ⟨r, z, rfl, hg, hlr, hr, hzu, hzo⟩
  ·have hv0 : vs = [] := List.map_eq_nil_iff.1 he
   subst hv0; simp at hkn
  have hrl : (vs.map encL).length = vs.length := List.length_map ..
  have hKA : ArrS 4 K lo (.ar r 0 (vs.map encL).length 4) (vs.map encL) := .inr ⟨r, z, rfl, hg, hlr, hr, hzu, hzo⟩
  have rN : r ≠ N := nA N (Nat.le_refl _)
  have rN1 : r ≠ N + 1 := nA (N + 1) (by omega)
  have rN2 : r ≠ N + 2 := nA (N + 2) (by omega)
  have rN3 : r ≠ N + 3 := nA (N + 3) (by omega)
  have hul := (L_unif vs).append hzu
  have d1 : decide ((k : Int) < (vs.length : Nat)) = true := by simp; omega
  have ha := iad_ar (t := 83) (b := 64) (r := r) (a := 0) (sz := 4) (m := vs.length) hkn
  rw [Nat.zero_add] at ha
  have hat4 := flat_at hul (i := k) (x := encL vs[k]) (by rw [List.getElem?_append_left (by simpa using hkn)]; simp [hkn])
  have hat : ((vs.map encL ++ z).flatten.drop (k * 4)).take 2 = avA vs[k].atom := by
   have : (((vs.map encL ++ z).flatten.drop (k * 4)).take 4).take 2 = (encL vs[k]).take 2 := by rw [hat4]
   rw [List.take_take] at this
   exact this
  have hst : k * 4 + 2 ≤ (vs.map encL ++ z).flatten.length := Nat.le_trans (Nat.add_le_add_left (by decide) _) (flat_rowS hul (i := k) (by simp; omega))
  have b2 : (avA vs[k].atom).length = 2 := rfl
  rw [hrl] at kN hln
  simp only [go_sem, simprocAttr]
  refine W_draw [(7, 12), (11, 12)] (by kernel_rfl) ?_
  by_cases hq : vs[k].atom = q
  ·have dq : decide (vs[k].atom = q) = true := by simpa using hq
   have hw1 := wrap1 (show k + 1 ≤ 9223372036854775807 by unfold LA at hvl; omega)
   simp only [hq, if_true] at hpt
   simp only [go_sem, simprocAttr, rs, kN, kN1, hln, d1, ha, hg, hst, hat, a2, a3, a4, b2, dq, hw1, hm, Nat.add_zero]
   have hdl := fun H hA => del_arr (P := Tryz.prog) (c := cfgY) (f := 141) (t := 24) (lo := lo) rfl rfl rfl el_sLoc (by decide) zr_loc rfl rfl (H := H) (A := .ar r 0 vs.length 4) (es := vs.map encL) hA (L_unif vs) (L_ones vs) (k := k) (by rw [hrl]; exact hkn)
   refine goC_ex (hdl _ (by rw [hrl] at hKA; repeat (first | exact hKA | refine ArrS.up ?_ _))) ?_
   rintro v K1 ⟨hP1, hC1, r1, hr1, rfl⟩
   simp only [AV.ar.injEq] at hr1
   obtain ⟨rfl, -, -⟩ := hr1
   have h1N : K1.get N = some [.lit (.bool dd), A, .ar r 0 vs.length 4] := by rw [hC1.get (by simp only [go_sem, simprocAttr]; omega) rN]; exact kN
   have h1N1 : K1.get (N + 1) = some (avA q) := by rw [hC1.get (by simp only [go_sem, simprocAttr]; omega) rN1]; exact kN1
   have h1N2 : K1.get (N + 2) = some (encSh o) := by rw [hC1.get (by simp only [go_sem, simprocAttr]; omega) rN2]; exact kN2
   have h1N3 : K1.get (N + 3) = some [.lit (.bool false), .sl .nil [], .sl .nil []] := by rw [hC1.get (by simp only [go_sem, simprocAttr]; omega) rN3]; exact kN3
   have hnx1 := hC1.nx
   simp only [go_sem, simprocAttr] at hnx1
   simp only [go_sem, simprocAttr, rs, h1N, hAo, hrl]
   obtain ⟨KX, hKX⟩ : ∃ KX, KX = K1.put N [.lit (.bool dd), A, .ar r 0 (vs.length - 1) 4] := ⟨_, rfl⟩
   have z0' : ¬ N = N + 1 := by omega
   have z0'' : ¬ N = N + 2 := by omega
   have z0q : ¬ N = N + 3 := by omega
   have xN : KX.get N = some [.lit (.bool dd), A, .ar r 0 (vs.length - 1) 4] := by rw [hKX]; simp only [go_sem, simprocAttr]
   have xN1 : KX.get (N + 1) = some (avA q) := by rw [hKX]; simp only [go_sem, simprocAttr, z0', h1N1]
   have xN2 : KX.get (N + 2) = some (encSh o) := by rw [hKX]; simp only [go_sem, simprocAttr, z0'', h1N2]
   have xN3 : KX.get (N + 3) = some [.lit (.bool false), .sl .nil [], .sl .nil []] := by rw [hKX]; simp only [go_sem, simprocAttr, z0q, h1N3]
   have xnx : KX.next = K1.next := by rw [hKX]; simp only [go_sem, simprocAttr]
   rw [hrl, ← List.map_take, ← List.map_drop, ← List.map_append] at hP1
   have hPX : ArrS 4 KX lo (.ar r 0 (vs.length - 1) 4) ((vs.take k ++ vs.drop (k + 1)).map encL) := by rw [hKX]; exact hP1.put _ rN
   have hCX : Chg H0 KX (.ar r 0 (vs.map encL).length 4) (.ar r 0 (vs.length - 1) 4) := by
    rw [hKX, hrl]
    rw [hrl] at hC1
    exact (Chg.trans (Chg.frm (by repeat (first | exact hF2 | refine Frm.up ?_ _))) hC1).put _ (by omega)
   rw [hrl] at hCX
   have nX : ∀ j, N ≤ j → j < N + 4 → arrNo (.ar r 0 (vs.length - 1) 4) j := fun j h1 h2 => nA j h1
   have hkX : k ≤ (vs.take k ++ vs.drop (k + 1)).length := by simp; omega
   have hlX : (vs.take k ++ vs.drop (k + 1)).length + 1 ≤ LA := by simp; omega
   have hpX : putL ⟨q, o⟩ vs = (vs.take k ++ vs.drop (k + 1)).take k ++ [⟨q, o⟩] ++ (vs.take k ++ vs.drop (k + 1)).drop k := by
    have hl : (vs.take k).length = k := by rw [List.length_take]; omega
    rw [List.take_left' hl, List.drop_left' hl]
    exact hpt
   rw [← hKX]
   clear hKX
   have yN1 := xN1
   have yN2 := xN2
   rw [qx] at yN1
   rw [ox] at yN2
   refine W_draw [(1, 3), (1, 4), (3, 4), (1, 5), (3, 5)] (by kernel_rfl) ?_
   simp only [go_sem, simprocAttr, xN, yN1, yN2, hoc, i1, hbd]
   refine dK_exS (ins_arr (c := cfgY) (f := 142) (t := 24) rfl rfl rfl el_sLoc (by decide) zo_sLoc rfl (by decide) (A := (.ar r 0 (vs.length - 1) 4)) (lo := lo) (es := (vs.take k ++ vs.drop (k + 1)).map encL) (k := k) (x := encL ⟨q, o⟩) (by repeat (first | exact hPX | refine ArrS.up ?_ _)) (by simp only [go_sem, simprocAttr]; omega) (L_unif _) (L_ones _) (by rw [List.length_map]; exact hkX) (by rw [List.length_map]; exact hlX) rfl rfl) rfl ?_
   rintro v K2 ⟨hP, hC⟩
   have nx2 := hC.nx
   simp only [go_sem, simprocAttr] at nx2
   have k2N : K2.get N = some [.lit (.bool dd), A, (.ar r 0 (vs.length - 1) 4)] := by rw [hC.get (by simp only [go_sem, simprocAttr]; omega) (nX N (Nat.le_refl _) (by omega))]; exact xN
   have k2N3 : K2.get (N + 3) = some [.lit (.bool false), .sl .nil [], .sl .nil []] := by rw [hC.get (by simp only [go_sem, simprocAttr]; omega) (nX (N + 3) (by omega) (by omega))]; exact xN3
   have v0 := (hC.ho N (by simp only [go_sem, simprocAttr]; omega) (nX N (Nat.le_refl _) (by omega))).2
   have v3 := (hC.ho (N + 3) (by simp only [go_sem, simprocAttr]; omega) (nX (N + 3) (by omega) (by omega))).2
   have z0 : ¬ N = N + 3 := by omega
   have hv1 := hP.one
   have hvc := cells_of_oneS hv1
   have hvo : [v].all AV.one = true := by rw [List.all_cons, hv1]; rfl
   simp only [go_sem, simprocAttr, rs, k2N, k2N3, hv1, hAo, z0, hvc, hvo]
   have hes : (putL ⟨q, o⟩ vs).map encL = ((vs.take k ++ vs.drop (k + 1)).map encL).take k ++ [encL ⟨q, o⟩] ++ ((vs.take k ++ vs.drop (k + 1)).map encL).drop k := by rw [hpX]; simp [List.map_take, List.map_drop]
   refine ⟨_, rfl, v, rfl, by rw [hes]; exact ((hP.put _ v0).up 2).put _ v3, ?_⟩
   have hC0 : Chg H0 K2 (.ar r 0 vs.length 4) v := Chg.trans (by repeat (first | exact hCX | refine Chg.up ?_ _)) hC
   refine Chg.put (Chg.up (Chg.put hC0 _ ?_) 2) _ ?_ <;> omega
  ·have dq : decide (vs[k].atom = q) = false := by simpa using hq
   simp only [hq, if_false] at hpt
   simp only [go_sem, simprocAttr, rs, kN, kN1, hln, d1, ha, hg, hst, hat, a2, a3, a4, b2, dq, hm, Nat.add_zero]
   have xN := kN
   have yN1 := kN1
   have yN2 := kN2
   have xN3 := kN3
   rw [qx] at yN1
   rw [ox] at yN2
   rw [hrl] at hKA
   have hPX := hKA
   have hCX : Chg H0 K (.ar r 0 (vs.map encL).length 4) (.ar r 0 vs.length 4) := by rw [hrl]; exact Chg.frm hF2
   have nX : ∀ j, N ≤ j → j < N + 4 → arrNo (.ar r 0 vs.length 4) j := fun j h1 h2 => nA j h1
   have hkX : k ≤ vs.length := hkl
   have hlX := hvl
   have hpX : putL ⟨q, o⟩ vs = vs.take k ++ [⟨q, o⟩] ++ vs.drop k := hpt
   refine W_draw [(1, 3), (1, 4), (3, 4), (1, 5), (3, 5)] (by kernel_rfl) ?_
   simp only [go_sem, simprocAttr, xN, yN1, yN2, hoc, i1, hbd]
   refine dK_exS (ins_arr (c := cfgY) (f := 142) (t := 24) rfl rfl rfl el_sLoc (by decide) zo_sLoc rfl (by decide) (A := (.ar r 0 vs.length 4)) (lo := lo) (es := (vs).map encL) (k := k) (x := encL ⟨q, o⟩) (by repeat (first | exact hPX | refine ArrS.up ?_ _)) (by simp only [go_sem, simprocAttr]; omega) (L_unif _) (L_ones _) (by rw [List.length_map]; exact hkX) (by rw [List.length_map]; exact hlX) rfl rfl) rfl ?_
   rintro v K2 ⟨hP, hC⟩
   have nx2 := hC.nx
   simp only [go_sem, simprocAttr] at nx2
   have k2N : K2.get N = some [.lit (.bool dd), A, (.ar r 0 vs.length 4)] := by rw [hC.get (by simp only [go_sem, simprocAttr]; omega) (nX N (Nat.le_refl _) (by omega))]; exact xN
   have k2N3 : K2.get (N + 3) = some [.lit (.bool false), .sl .nil [], .sl .nil []] := by rw [hC.get (by simp only [go_sem, simprocAttr]; omega) (nX (N + 3) (by omega) (by omega))]; exact xN3
   have v0 := (hC.ho N (by simp only [go_sem, simprocAttr]; omega) (nX N (Nat.le_refl _) (by omega))).2
   have v3 := (hC.ho (N + 3) (by simp only [go_sem, simprocAttr]; omega) (nX (N + 3) (by omega) (by omega))).2
   have z0 : ¬ N = N + 3 := by omega
   have hv1 := hP.one
   have hvc := cells_of_oneS hv1
   have hvo : [v].all AV.one = true := by rw [List.all_cons, hv1]; rfl
   simp only [go_sem, simprocAttr, rs, k2N, k2N3, hv1, hAo, z0, hvc, hvo]
   have hes : (putL ⟨q, o⟩ vs).map encL = ((vs).map encL).take k ++ [encL ⟨q, o⟩] ++ ((vs).map encL).drop k := by rw [hpX]; simp [List.map_take, List.map_drop]
   refine ⟨_, rfl, v, rfl, by rw [hes]; exact ((hP.put _ v0).up 2).put _ v3, ?_⟩
   have hC0 : Chg H0 K2 (.ar r 0 (vs.map encL).length 4) v := Chg.trans (by repeat (first | exact hCX | refine Chg.up ?_ _)) hC
   refine Chg.put (Chg.up (Chg.put hC0 _ ?_) 2) _ ?_ <;> omega
 ·have d1 : decide ((k : Int) < (vs.length : Nat)) = false := by simp; omega
  rw [List.getElem?_eq_none (by omega)] at hpt
  simp only [go_sem, simprocAttr]
  refine W_draw [(7, 12), (11, 12)] (by kernel_rfl) ?_
  simp only [go_sem, simprocAttr, rs, kN, kN1, hln, d1, hm]
  have xN := kN
  have yN1 := kN1
  have yN2 := kN2
  have xN3 := kN3
  rw [qx] at yN1
  rw [ox] at yN2
  have hPX := hKA
  have hCX : Chg H0 K B B := Chg.frm hF2
  have hkX : k ≤ vs.length := hkl
  have hlX := hvl
  have hpX : putL ⟨q, o⟩ vs = vs.take k ++ [⟨q, o⟩] ++ vs.drop k := by rw [List.drop_of_length_le (l := vs) (i := k) (by omega)]; exact hpt
  refine W_draw [(1, 3), (1, 4), (3, 4), (1, 5), (3, 5)] (by kernel_rfl) ?_
  simp only [go_sem, simprocAttr, xN, yN1, yN2, hoc, i1, hbd]
  refine dK_exS (ins_arr (c := cfgY) (f := 142) (t := 24) rfl rfl rfl el_sLoc (by decide) zo_sLoc rfl (by decide) (A := B) (lo := lo) (es := (vs).map encL) (k := k) (x := encL ⟨q, o⟩) (by repeat (first | exact hPX | refine ArrS.up ?_ _)) (by simp only [go_sem, simprocAttr]; omega) (L_unif _) (L_ones _) (by rw [List.length_map]; exact hkX) (by rw [List.length_map]; exact hlX) rfl rfl) rfl ?_
  rintro v K2 ⟨hP, hC⟩
  have nx2 := hC.nx
  simp only [go_sem, simprocAttr] at nx2
  have k2N : K2.get N = some [.lit (.bool dd), A, B] := by rw [hC.get (by simp only [go_sem, simprocAttr]; omega) (nX N (Nat.le_refl _) (by omega))]; exact xN
  have k2N3 : K2.get (N + 3) = some [.lit (.bool false), .sl .nil [], .sl .nil []] := by rw [hC.get (by simp only [go_sem, simprocAttr]; omega) (nX (N + 3) (by omega) (by omega))]; exact xN3
  have v0 := (hC.ho N (by simp only [go_sem, simprocAttr]; omega) (nX N (Nat.le_refl _) (by omega))).2
  have v3 := (hC.ho (N + 3) (by simp only [go_sem, simprocAttr]; omega) (nX (N + 3) (by omega) (by omega))).2
  have z0 : ¬ N = N + 3 := by omega
  have hv1 := hP.one
  have hvc := cells_of_oneS hv1
  have hvo : [v].all AV.one = true := by rw [List.all_cons, hv1]; rfl
  simp only [go_sem, simprocAttr, rs, k2N, k2N3, hv1, hAo, z0, hvc, hvo]
  have hes : (putL ⟨q, o⟩ vs).map encL = ((vs).map encL).take k ++ [encL ⟨q, o⟩] ++ ((vs).map encL).drop k := by rw [hpX]; simp [List.map_take, List.map_drop]
  refine ⟨_, rfl, v, rfl, by rw [hes]; exact ((hP.put _ v0).up 2).put _ v3, ?_⟩
  have hC0 : Chg H0 K2 B v := Chg.trans (by repeat (first | exact hCX | refine Chg.up ?_ _)) hC
  refine Chg.put (Chg.up (Chg.put hC0 _ ?_) 2) _ ?_ <;> omega
end Go.Proofs.YtnoahchdmkpleaaGreat.VA

/-! Jo4 -/
namespace Go.Proofs.YtnoahchdmkpleaaGreat.VA
open Go Go.RowKit
set_option linter.unusedSimpArgs false
set_option linter.unusedVariables false
set_option maxRecDepth 100000

/-- One list is no other's array. -/
def Sep (A B : AV) : Prop :=
 match B with
 | .ar r _ _ _ => arrNo A r
 | _ => True
theorem Sep.of {A B : AV} (h : ArrDis A B) : Sep A B ∧ Sep B A := by
 cases A <;> cases B <;> first | exact ⟨trivial, trivial⟩ | (simp only [Sep, ArrDis, arrNo] at h ⊢; first | exact ⟨fun e => h e.symm, h⟩ | (constructor <;> first | trivial | (intro e; exact h e.symm) | exact h))
theorem ArrS.keep {sz lo : Nat} {H H' : Heap} {A A' B : AV} {es : List (List AV)} (hB : ArrS sz H lo B es) (hS : Sep A B) (hC : Chg H H' A A') : ArrS sz H' lo B es ∧ Sep A' B := by
 rcases hB with ⟨rfl, he⟩ | ⟨r, z, rfl, h2, h3, h4, h5⟩
 ·exact ⟨.inl ⟨rfl, he⟩, trivial⟩
 ·have hn : arrNo A r := hS
  exact ⟨.inr ⟨r, z, rfl, by rw [hC.get h4 hn]; exact h2, h3, Nat.lt_of_lt_of_le h4 hC.nx, h5⟩, (hC.ho r h4 hn).2⟩
/-- The array of one list is not the other's, from the other side. -/
theorem Sep.back {sz lo : Nat} {H' : Heap} {A' B : AV} {es : List (List AV)} (hA : ArrS sz H' lo A' es) (hS : Sep A' B) : Sep B A' := by
 rcases hA with ⟨rfl, _⟩ | ⟨r, z, rfl, _⟩
 ·trivial
 ·cases B <;> first | trivial | (intro e; exact hS e.symm)
theorem y_copy (s : Sta) (hs : StOk s) (H0 : Heap) : ∃ v H', calls Tryz.prog cfgY 48 [.agg (encSt s)] H0 = some (.ret v H') ∧
  (∃ A B, v = .agg [.lit (.bool s.dead), A, B] ∧ Frm H0 H' ∧ ArrOf H' H0.next A 2 (s.vars.map encB) ∧ ArrOf H' H0.next B 4 (s.locs.map encL) ∧ ArrDis A B) :=
 calls_arr (fn := Tryz.f48) rfl rfl rfl rfl rfl (copy_W (c := cfgY) rfl rfl rfl rfl s hs H0 (fun A B H' h1 h2 h3 h4 => ⟨A, B, rfl, h1, h2, h3, h4⟩) rfl)
theorem y_may (s : Sta) (hs : StOk s) (H : Heap) : calls Tryz.prog cfgY 45 [.agg (encSt s)] H = some (.ret (.lit (.bool (mayT s))) H) :=
 calls_by rfl (fun H => by simp only [sanL, san, sanL_encSt]; exact c_staMay s hs H) rfl H
theorem y_var (s : Sta) (hs : StOk s) (q : ByteArray) (H : Heap) : calls Tryz.prog cfgY 65 [.agg (encSt s), .lit (.string q)] H = some (.ret (.sl .sh (encAs (varA q s.vars))) H) :=
 calls_by rfl (fun H => by simp only [sanL, san, sanL_encSt]; exact c_Var s hs q H) (by simp only [san, sanLL_encAs]) H
theorem y_loc (s : Sta) (hs : StOk s) (q : Int × Int) (H : Heap) : calls Tryz.prog cfgY 89 [.agg (encSt s), .agg (avA q)] H = some (.ret (.tup [.agg (encSh (((getL q s.locs).map Lc.shape).getD shZ)), .lit (.bool (getL q s.locs).isSome)]) H) :=
 calls_by rfl (fun H => by
  have e : sanL [AV.agg (encSt s), .agg (avA q)] = [.agg (encSt s), .agg (avA q)] := by simp only [sanL, san, sanL_encSt]; rfl
  rw [e]; exact c_Loc s hs q H) (by simp only [san, sanL, sanL_encSh]) H
theorem y_ojoin (a b : Sh) (ha : ShB a) (hb : ShB b) (H : Heap) : calls Tryz.prog cfgY 90 [.agg (encSh a), .agg (encSh b)] H = some (.ret (.agg (encSh (joinSh a b))) H) :=
 calls_by rfl (fun H => by simp only [sanL, san, sanL_encSh]; exact c_Join a b ha hb H) (by simp only [san, sanL_encSh]) H
theorem y_union (a b : List (Int × Int)) (hl : a.length + b.length ≤ LA) (o1 o2 : Own) (H : Heap) : calls Tryz.prog cfgY 88 [.sl o1 (encAs a), .sl o2 (encAs b)] H = some (.ret (.sl .sh (encAs (normA (a ++ b)))) H) :=
 calls_by rfl (fun H => by simp only [sanL, san, sanLL_encAs]; exact c_union a b hl .sh .sh H) (by simp only [san, sanLL_encAs]) H
theorem y_concat (a b : List Bnd) (hl : a.length + b.length ≤ LA) (o o1 o2 : Own) (H : Heap) : calls Tryz.prog cfgY 86 [.sl o [[.sl o1 (a.map encB)], [.sl o2 (b.map encB)]]] H = some (.ret (.sl .sh ((a ++ b).map encB)) H) :=
 calls_by rfl (fun H => by
  have e : sanL [AV.sl o [[.sl o1 (a.map encB)], [.sl o2 (b.map encB)]]] = [.sl .sh [[.sl .sh (a.map encB)], [.sl .sh (b.map encB)]]] := by simp only [sanL, san, sanLL, sanLL_B]
  rw [e, List.map_append]
  exact c_concatB (a.map encB) (b.map encB) (B_unif a) (B_unif b) (sanLL_B a) (sanLL_B b) (by simp only [List.length_map]; exact hl) .sh .sh .sh H) (by simp only [san, sanLL_B]) H
end Go.Proofs.YtnoahchdmkpleaaGreat.VA

/-! Jo5 -/
namespace Go.Proofs.YtnoahchdmkpleaaGreat.VA
open Go Go.RowKit
attribute [local go_sem] Nat.add_eq_left Nat.left_eq_add true_and and_true ite_true if_false Int.cast_ofNat_Int eq_self Nat.add_assoc Option.some.injEq decide_true decide_false Bool.not_true Bool.not_false List.size_toArray List.length_cons List.length_nil
set_option linter.unusedSimpArgs false
set_option linter.unusedVariables false
set_option maxRecDepth 100000

theorem frz_sta {H : Heap} {lo : Nat} {A B : AV} {s : Sta} (hA : ArrS 2 H lo A (s.vars.map encB)) (hB : ArrS 4 H lo B (s.locs.map encL)) : san (oneOr (frzL H [AV.agg [.lit (.bool s.dead), A, B]])) = .agg (encSt s) := by
 have e1 := hA.frz (B_unif _) (B_ones _)
 have e2 := hB.frz (L_unif _) (L_ones _)
 rw [sanLL_B] at e1
 rw [sanLL_L] at e2
 simp only [oneOr, frz, frzL, san, sanL, e1, e2]
 rfl
theorem c_JoinT (a b : Sta) (ha : Few a) (hb : Few b) (H : Heap) : calls Tryz.prog cfgY 55 [.agg (encSt a), .agg (encSt b)] H = some (.ret (.agg (encSt (joinT a b))) H) := by
 refine calls_frz (fn := Tryz.f55) rfl rfl rfl rfl rfl ?_ H
 have rs : Tryz.f55.results.toList = [.cell 4 26] := rfl
 have hLA : LA = 1000000000000 := rfl
 have oa := ha.ok
 have ob := hb.ok
 have a1 : (encSt a).length = 3 := rfl
 have a2 : (encSt a).take 3 = encSt a := rfl
 have a3 : (encSt a).all AV.one = true := rfl
 have a4 : (encSt a)[0]? = some (.lit (.bool a.dead)) := rfl
 have b1 : (encSt b).length = 3 := rfl
 have b2 : (encSt b).take 3 = encSt b := rfl
 have b3 : (encSt b).all AV.one = true := rfl
 have b4 : (encSt b)[0]? = some (.lit (.bool b.dead)) := rfl
 have hma := y_may a oa
 have hmb := y_may b ob
 cases ma : mayT a with
 | false =>
  rw [ma] at hma
  have hr : joinT a b = ⟨false, [], []⟩ := by unfold joinT; rw [if_neg (by rw [ma]; simp)]
  rw [hr]
  simp only [go_sem, simprocAttr, rs, hma, a1, a2, a3, a4, b1, b2, b3, b4]
  exact ⟨_, rfl, rfl⟩
 | true =>
  rw [ma] at hma
  cases mb : mayT b with
  | false =>
   rw [mb] at hmb
   have hr : joinT a b = ⟨false, [], []⟩ := by unfold joinT; rw [if_neg (by rw [mb]; simp)]
   rw [hr]
   simp only [go_sem, simprocAttr, rs, hma, hmb, a1, a2, a3, a4, b1, b2, b3, b4]
   exact ⟨_, rfl, rfl⟩
  | true =>
   rw [mb] at hmb
   have hj : joinT a b = if a.dead = true then b else if b.dead = true then a else ⟨false, (a.vars ++ b.vars).foldl (stpV a b) a.vars, b.locs.foldl (stpL a) a.locs⟩ := by
    unfold joinT; rw [if_pos ⟨ma, mb⟩]
   cases da : a.dead with
   | true =>
    rw [da] at a4
    rw [hj, if_pos da]
    simp only [go_sem, simprocAttr, rs, hma, hmb, a1, a2, a3, a4, b1, b2, b3, b4]
    refine goC_ex (y_copy b ob _) ?_
    rintro v H1 ⟨A, B, rfl, hF, hA, hB, hD⟩
    have hA1 := hA.one
    have hB1 := hB.one
    have nx1 := hF.nx
    simp only [go_sem, simprocAttr] at nx1
    have g2 : H1.get 2 = some [.lit (.bool false), .sl .nil [], .sl .nil []] := by rw [hF.get (by simp only [go_sem, simprocAttr] <;> omega)]; simp only [go_sem, simprocAttr]
    simp only [go_sem, simprocAttr, rs, hA1, hB1, g2]
    refine ⟨_, rfl, ?_⟩
    have n2 : arrNo A 2 := hA.no (by simp only [go_sem, simprocAttr] <;> omega)
    have m2 : arrNo B 2 := hB.no (by simp only [go_sem, simprocAttr] <;> omega)
    exact frz_sta (hA.s.put _ n2) (hB.s.put _ m2)
   | false =>
    rw [da] at a4
    cases db : b.dead with
    | true =>
     rw [db] at b4
     rw [hj, if_neg (by rw [da]; simp), if_pos db]
     simp only [go_sem, simprocAttr, rs, hma, hmb, a1, a2, a3, a4, b1, b2, b3, b4]
     refine goC_ex (y_copy a oa _) ?_
     rintro v H1 ⟨A, B, rfl, hF, hA, hB, hD⟩
     have hA1 := hA.one
     have hB1 := hB.one
     have nx1 := hF.nx
     simp only [go_sem, simprocAttr] at nx1
     have g2 : H1.get 2 = some [.lit (.bool false), .sl .nil [], .sl .nil []] := by rw [hF.get (by simp only [go_sem, simprocAttr] <;> omega)]; simp only [go_sem, simprocAttr]
     simp only [go_sem, simprocAttr, rs, hA1, hB1, g2]
     refine ⟨_, rfl, ?_⟩
     have n2 : arrNo A 2 := hA.no (by simp only [go_sem, simprocAttr] <;> omega)
     have m2 : arrNo B 2 := hB.no (by simp only [go_sem, simprocAttr] <;> omega)
     exact frz_sta (hA.s.put _ n2) (hB.s.put _ m2)
    | false =>
     rw [db] at b4
     rw [hj, if_neg (by rw [da]; simp), if_neg (by rw [db]; simp)]
     have a5 : (encSt a)[1]? = some (.sl .sh (a.vars.map encB)) := rfl
     have b5 : (encSt b)[1]? = some (.sl .sh (b.vars.map encB)) := rfl
     have b6 : (encSt b)[2]? = some (.sl .sh (b.locs.map encL)) := rfl
     simp only [go_sem, simprocAttr, rs, hma, hmb, a1, a2, a3, a4, b1, b2, b3, b4]
     refine goC_ex (y_copy a oa _) ?_
     rintro v H1 ⟨A, B, rfl, hF, hA, hB, hD⟩
     rw [da]
     have nx1 := hF.nx
     simp only [go_sem, simprocAttr] at nx1
     obtain ⟨q, hq⟩ : ∃ q, H1.next = q + 22 := ⟨H1.next - 22, by omega⟩
     have g0 : H1.get 0 = some (encSt a) := by rw [hF.get (by simp only [go_sem, simprocAttr] <;> omega)]; simp only [go_sem, simprocAttr]
     have g1 : H1.get 1 = some (encSt b) := by rw [hF.get (by simp only [go_sem, simprocAttr] <;> omega)]; simp only [go_sem, simprocAttr]
     have g2 : H1.get 2 = some [.lit (.bool false), .sl .nil [], .sl .nil []] := by rw [hF.get (by simp only [go_sem, simprocAttr] <;> omega)]; simp only [go_sem, simprocAttr]
     have hA1 := hA.one
     have hB1 := hB.one
     have hva := ha.v
     have hvb := hb.v
     have hbs : aBuildSlice Tryz.prog 149 2 [(0, .sl .sh (a.vars.map encB)), (1, .sl .sh (b.vars.map encB))] = some (.sl .ex [[.sl .sh (a.vars.map encB)], [.sl .sh (b.vars.map encB)]]) := by
      simp only [aBuildSlice, el_ssBnd, zr_sBnd]
      rfl
     have hcc := fun H => y_concat a.vars b.vars (by omega) .ex .sh .sh H
     generalize hcs : a.vars ++ b.vars = cs at hcc ⊢
     have hcl : cs.length ≤ 80 := by rw [← hcs, List.length_append]; omega
     simp only [go_sem, simprocAttr, rs, hq, g0, g1, g2, a1, a2, a3, a5, b1, b2, b3, b5, hA1, hB1, hbs, hcc, List.length_map]
     have hno : ∀ k, k < 22 → arrNo A k := fun k hk => hA.no (by simp only [go_sem, simprocAttr] <;> omega)
     have hno2 : ∀ k, k < 22 → arrNo B k := fun k hk => hB.no (by simp only [go_sem, simprocAttr] <;> omega)
     have hA' : ArrS 2 H1 22 A (a.vars.map encB) := hA.s.mono (by simp only [go_sem, simprocAttr] <;> omega)
     have hB' : ArrS 4 H1 22 B (a.locs.map encL) := hB.s.mono (by simp only [go_sem, simprocAttr] <;> omega)
     refine W_loop_ind (fun k e H => ∃ (i : Nat) (A : AV), k = cs.length - i ∧ i ≤ cs.length ∧ H.get 0 = some (encSt a) ∧ H.get 1 = some (encSt b) ∧ H.get 2 = some [.lit (.bool false), .sl .nil [], .sl .nil []] ∧ H.get 20 = some [.lit (.bool false), A, B] ∧ 22 ≤ H.next ∧
       ArrS 2 H 22 A (((cs.take i).foldl (stpV a b) a.vars).map encB) ∧ ArrS 4 H 22 B (a.locs.map encL) ∧ Sep A B ∧
       gget .bad e 2 = .ptr 0 0 ∧ gget .bad e 3 = .ptr 1 0 ∧ gget .bad e 4 = .ptr 2 0 ∧ gget .bad e 5 = .ptr 20 0 ∧ gget .bad e 40 = .sl .sh (cs.map encB) ∧ gget .bad e 41 = .lit (.int .i64 (cs.length : Nat)) ∧ gget .bad e 42 = .lit (.int .i64 (i : Nat)))
      cs.length ⟨0, A, rfl, by omega, by simp only [go_sem, simprocAttr, g0], by simp only [go_sem, simprocAttr, g1], by simp only [go_sem, simprocAttr, g2], by simp only [go_sem, simprocAttr], by simp only [go_sem, simprocAttr, hq] <;> omega,
       by repeat (first | exact hA' | refine ArrS.up ?_ _ | refine ArrS.put ?_ _ (hno _ (by omega))),
       by repeat (first | exact hB' | refine ArrS.up ?_ _ | refine ArrS.put ?_ _ (hno2 _ (by omega))), (Sep.of hD).1,
       by simp only [go_sem, simprocAttr], by simp only [go_sem, simprocAttr], by simp only [go_sem, simprocAttr], by simp only [go_sem, simprocAttr], by simp only [go_sem, simprocAttr], by simp only [go_sem, simprocAttr], by simp only [go_sem, simprocAttr]⟩ ?_
     clear hA' hB' hno hno2 hF hA hB g0 g1 g2 hq nx1 hA1 hB1 hD
     clear H1 q A
     rintro k ih e H ⟨i, A, rfl, hle, g0, g1, g2, g20, hnx, hA, hB, hS, e2, e3, e4, e5, e40, e41, e42⟩
     obtain ⟨m, hm⟩ : ∃ m, H.next = m + 22 := ⟨H.next - 22, by omega⟩
     have hA1 := hA.one
     have hB1 := hB.one
     by_cases hlt : i < cs.length
     ·have d1 : decide ((i : Int) < (cs.length : Nat)) = true := by simp; omega
      have hw := wrap1 (show i + 1 ≤ 9223372036854775807 by omega)
      have hI := iad_map (f := encB) (t := 76) (n := 2) (b := 40) (o := .sh) hlt (fun _ => rfl)
      have hsucc : (cs.take (i + 1)).foldl (stpV a b) a.vars = stpV a b ((cs.take i).foldl (stpV a b) a.vars) cs[i] := by rw [List.take_succ_eq_append_getElem hlt, List.foldl_append]; rfl
      generalize hx : cs[i] = x at hI hsucc
      have x1 : (encB x).length = 2 := rfl
      have x2 : (encB x).take 2 = encB x := rfl
      have x3 : (encB x).all AV.one = true := rfl
      have x4 : (encB x)[0]? = some (.lit (.string x.nm)) := rfl
      simp only [go_sem, simprocAttr, rs, hm, d1, g0, g1, g2, g20, e2, e3, e4, e5, e40, e41, e42, hI, x1, x2, x3, x4, hA1, hB1]
      refine W_draw [(0, 2), (0, 3), (2, 3), (0, 5), (2, 5), (3, 5), (0, 6), (2, 6), (0, 7), (2, 7), (3, 7), (5, 7), (6, 7), (0, 9), (2, 9), (3, 9), (5, 9), (6, 9), (7, 9), (0, 10), (2, 10), (0, 11), (2, 11)] (by kernel_rfl) ?_
      have hGV := GoodV.fold ha hb (cs.take i) (GoodV.start ha ma)
      have hgl := hGV.len
      rw [List.length_take, Nat.min_eq_left hle] at hgl
      have hva2 := varA_few ha x.nm
      have hvb2 := varA_few hb x.nm
      have hv1 := fun H => y_var a oa x.nm H
      have hv2 := fun H => y_var b ob x.nm H
      have hun := fun H => y_union (varA x.nm a.vars) (varA x.nm b.vars) (by omega) .sh .sh H
      have i1 : cfgY.imp 65 = false := rfl
      have i2 : cfgY.imp 88 = false := rfl
      have hul : (normA (varA x.nm a.vars ++ varA x.nm b.vars)).length ≤ LA := by
       have h2 := normA_le (varA x.nm a.vars ++ varA x.nm b.vars)
       rw [List.length_append] at h2
       omega
      simp only [go_sem, simprocAttr, rs, hm, d1, g0, g1, g2, g20, e2, e3, e4, e5, e40, e41, e42, hI, a1, a2, a3, b1, b2, b3, x1, x2, x3, x4, hA1, hB1, hv1, hv2, hun, i1, i2]
      refine dK_exS (y_set false _ A B x.nm _ .sh 22 _ (by repeat (first | exact hA | refine ArrS.up ?_ _ | refine ArrS.put ?_ _ (hA.no' (by omega)))) (by simp only [go_sem, simprocAttr] <;> omega) hB1 hul (by omega)) rfl ?_
      rintro v K2 ⟨A', rfl, hA2, hC⟩
      have nA : ∀ k, k < 22 → arrNo A k := fun k hk => hA.no (by omega)
      have n25 : ∀ k, k < 22 → ¬ m + 25 = k := fun k hk => by omega
      have nx2 := hC.nx
      simp only [go_sem, simprocAttr, hm] at nx2
      have q0 : K2.get 0 = some (encSt a) := by rw [hC.get (by simp only [go_sem, simprocAttr, hm] <;> omega) (nA 0 (by omega))]; simp only [go_sem, simprocAttr, n25 0 (by omega), g0]
      have q1 : K2.get 1 = some (encSt b) := by rw [hC.get (by simp only [go_sem, simprocAttr, hm] <;> omega) (nA 1 (by omega))]; simp only [go_sem, simprocAttr, n25 1 (by omega), g1]
      have q2 : K2.get 2 = some [.lit (.bool false), .sl .nil [], .sl .nil []] := by rw [hC.get (by simp only [go_sem, simprocAttr, hm] <;> omega) (nA 2 (by omega))]; simp only [go_sem, simprocAttr, n25 2 (by omega), g2]
      have q20 : K2.get 20 = some [.lit (.bool false), A, B] := by rw [hC.get (by simp only [go_sem, simprocAttr, hm] <;> omega) (nA 20 (by omega))]; simp only [go_sem, simprocAttr, n25 20 (by omega), g20]
      obtain ⟨hB2, hS2⟩ := ArrS.keep (sz := 4) (lo := 22) (B := B) (es := a.locs.map encL) (by repeat (first | exact hB | refine ArrS.up ?_ _ | refine ArrS.put ?_ _ (hB.no' (by omega)))) hS hC
      obtain ⟨m3, hm3⟩ : ∃ m3, K2.next = m3 + 22 := ⟨K2.next - 22, by omega⟩
      have hA3 := hA2.one
      simp only [go_sem, simprocAttr, rs, e2, e3, e4, e5, e40, e41, e42, q0, q1, q2, q20, hm3, hA3, hB1, hw]
      exact ih (cs.length - (i + 1)) (by omega) _ _ ⟨i + 1, A', rfl, by omega, by simp only [go_sem, simprocAttr, q0], by simp only [go_sem, simprocAttr, q1], by simp only [go_sem, simprocAttr, q2], by simp only [go_sem, simprocAttr], by simp only [go_sem, simprocAttr, hm3] <;> omega,
       by
        rw [hsucc]
        exact (hA2.put _ (hA2.no (by omega))).up 2,
       (hB2.put _ (hB2.no (by omega))).up 2, hS2,
       by simp only [go_sem, simprocAttr, e2], by simp only [go_sem, simprocAttr, e3], by simp only [go_sem, simprocAttr, e4], by simp only [go_sem, simprocAttr, e5], by simp only [go_sem, simprocAttr, e40], by simp only [go_sem, simprocAttr, e41], by simp only [go_sem, simprocAttr]⟩
     ·have d1 : decide ((i : Int) < (cs.length : Nat)) = false := by simp; omega
      have hi : i = cs.length := by omega
      subst hi
      rw [List.take_length] at hA
      generalize hV : cs.foldl (stpV a b) a.vars = V at hA ⊢
      clear ih
      simp only [go_sem, simprocAttr, rs, hm, d1, g0, g1, g2, g20, e2, e3, e4, e5, e40, e41, e42, b1, b2, b3, b6, hA1, hB1, List.length_map]
      generalize hls : b.locs = ls
      have hlm : ∀ x, x ∈ ls → x ∈ b.locs := fun x hx => by rw [hls]; exact hx
      have hll : ls.length ≤ 40 := by rw [← hls]; exact hb.l
      refine W_loop_ind (fun k e H => ∃ (i : Nat) (B : AV), k = ls.length - i ∧ i ≤ ls.length ∧ H.get 0 = some (encSt a) ∧ H.get 2 = some [.lit (.bool false), .sl .nil [], .sl .nil []] ∧ H.get 20 = some [.lit (.bool false), A, B] ∧ 22 ≤ H.next ∧
        ArrS 2 H 22 A (V.map encB) ∧ ArrS 4 H 22 B (((ls.take i).foldl (stpL a) a.locs).map encL) ∧ Sep B A ∧
        gget .bad e 2 = .ptr 0 0 ∧ gget .bad e 4 = .ptr 2 0 ∧ gget .bad e 5 = .ptr 20 0 ∧ gget .bad e 61 = .sl .sh (ls.map encL) ∧ gget .bad e 62 = .lit (.int .i64 (ls.length : Nat)) ∧ gget .bad e 63 = .lit (.int .i64 (i : Nat)))
       ls.length ⟨0, B, rfl, by omega, by simp only [go_sem, simprocAttr, g0], by simp only [go_sem, simprocAttr, g2], by simp only [go_sem, simprocAttr, g20], by simp only [go_sem, simprocAttr, hm] <;> omega,
        by repeat (first | exact hA | refine ArrS.up ?_ _), by repeat (first | exact hB | refine ArrS.up ?_ _), Sep.back hA hS,
        by simp only [go_sem, simprocAttr, e2], by simp only [go_sem, simprocAttr, e4], by simp only [go_sem, simprocAttr, e5], by simp only [go_sem, simprocAttr], by simp only [go_sem, simprocAttr], by simp only [go_sem, simprocAttr]⟩ ?_
      clear g0 g2 g20 hnx hA hB hS e2 e3 e4 e5 e40 e41 e42 g1 hB1 hm hA1
      clear m e H B
      rintro k ih e H ⟨i, B, rfl, hle2, g0, g2, g20, hnx, hA, hB, hS, e2, e4, e5, e61, e62, e63⟩
      obtain ⟨m, hm⟩ : ∃ m, H.next = m + 22 := ⟨H.next - 22, by omega⟩
      have hA1 := hA.one
      have hB1 := hB.one
      by_cases hlt2 : i < ls.length
      ·have d1 : decide ((i : Int) < (ls.length : Nat)) = true := by simp; omega
       have hw := wrap1 (show i + 1 ≤ 9223372036854775807 by omega)
       have hI := iad_map (f := encL) (t := 83) (n := 4) (b := 64) (o := .sh) hlt2 (fun _ => rfl)
       have hsucc : (ls.take (i + 1)).foldl (stpL a) a.locs = stpL a ((ls.take i).foldl (stpL a) a.locs) ls[i] := by rw [List.take_succ_eq_append_getElem hlt2, List.foldl_append]; rfl
       have hxm := hlm ls[i] (List.getElem_mem hlt2)
       generalize hx : ls[i] = x at hI hsucc hxm
       have hGL := GoodL.fold ha hb mb (ls.take i) (fun x hx => hlm x (List.mem_of_mem_take hx)) (GoodL.start ha ma)
       have hgl := hGL.len
       rw [List.length_take, Nat.min_eq_left hle2] at hgl
       have x1 : (encL x).length = 4 := rfl
       have x2 : (encL x).take 4 = encL x := rfl
       have x3 : (encL x).all AV.one = true := rfl
       have x4 : (encL x).take 2 = avA x.atom := rfl
       have x5 : (encL x).drop 2 = encSh x.shape := rfl
       have x6 : ((encL x).drop 2).take 2 = encSh x.shape := rfl
       have q1 : (avA x.atom).length = 2 := rfl
       have q2 : (avA x.atom).take 2 = avA x.atom := rfl
       have q3 : (avA x.atom).all AV.one = true := rfl
       have h1 : ∀ o : Sh, (encSh o).length = 2 := fun _ => rfl
       have h2 : ∀ o : Sh, (encSh o).take 2 = encSh o := fun _ => rfl
       have h3 : ∀ o : Sh, (encSh o).all AV.one = true := fun _ => rfl
       have hloc := fun H => y_loc a oa x.atom H
       have nB : ∀ k, k < 22 → arrNo B k := fun k hk => hB.no (by omega)
       have n25 : ∀ k, k < 22 → ¬ m + 25 = k := fun k hk => by omega
       have n29 : ∀ k, k < 22 → ¬ m + 29 = k := fun k hk => by omega
       have n38 : ∀ k, k < 22 → ¬ m + 38 = k := fun k hk => by omega
       have hxl := hb.ll x hxm
       have hxb : ShB x.shape := by
        have hLB : LB = 100000000000 := rfl
        exact ⟨by omega, by omega, fun f hf => by have := hxl.2.2 f hf; omega⟩
       cases hq : (getL x.atom a.locs).isSome with
       | false =>
        have hjo : joinO a x = x.shape := by unfold joinO; rw [hq]; rfl
        rw [hq] at hloc
        simp only [go_sem, simprocAttr, rs, hm, d1, g0, g2, g20, e2, e4, e5, e61, e62, e63, hI, a1, a2, a3, x1, x2, x3, x4, x5, x6, q1, q2, q3, h1, h2, h3, hloc, hA1, hB1]
        refine goC_ex (y_put false _ A B x.atom (x.shape) hxb.ok 22 _ (by repeat (first | exact hB | refine ArrS.up ?_ _ | refine ArrS.put ?_ _ (hB.no' (by omega)))) (by simp only [go_sem, simprocAttr] <;> omega) hA1 (by omega)) ?_
        rintro v K2 ⟨B', rfl, hB2, hC⟩
        have nx2 := hC.nx
        simp only [go_sem, simprocAttr, hm] at nx2
        have q0 : K2.get 0 = some (encSt a) := by rw [hC.get (by simp only [go_sem, simprocAttr, hm] <;> omega) (nB 0 (by omega))]; simp only [go_sem, simprocAttr, n25 0 (by omega), n29 0 (by omega), n38 0 (by omega), g0]
        have q2 : K2.get 2 = some [.lit (.bool false), .sl .nil [], .sl .nil []] := by rw [hC.get (by simp only [go_sem, simprocAttr, hm] <;> omega) (nB 2 (by omega))]; simp only [go_sem, simprocAttr, n25 2 (by omega), n29 2 (by omega), n38 2 (by omega), g2]
        have q20 : K2.get 20 = some [.lit (.bool false), A, B] := by rw [hC.get (by simp only [go_sem, simprocAttr, hm] <;> omega) (nB 20 (by omega))]; simp only [go_sem, simprocAttr, n25 20 (by omega), n29 20 (by omega), n38 20 (by omega), g20]
        obtain ⟨hA2, hS2⟩ := ArrS.keep (sz := 2) (lo := 22) (B := A) (es := V.map encB) (by repeat (first | exact hA | refine ArrS.up ?_ _ | refine ArrS.put ?_ _ (hA.no' (by omega)))) hS hC
        obtain ⟨m3, hm3⟩ : ∃ m3, K2.next = m3 + 22 := ⟨K2.next - 22, by omega⟩
        have hB3 := hB2.one
        simp only [go_sem, simprocAttr, rs, e2, e4, e5, e61, e62, e63, q0, q2, q20, hm3, hA1, hB3, hw]
        exact ih (ls.length - (i + 1)) (by omega) _ _ ⟨i + 1, B', rfl, by omega, by simp only [go_sem, simprocAttr, q0], by simp only [go_sem, simprocAttr, q2], by simp only [go_sem, simprocAttr], by simp only [go_sem, simprocAttr, hm3] <;> omega,
         (hA2.put _ (hA2.no (by omega))).up 2,
         by
          rw [hsucc]
          unfold stpL
          rw [hjo]
          exact (hB2.put _ (hB2.no (by omega))).up 2,
         hS2,
         by simp only [go_sem, simprocAttr, e2], by simp only [go_sem, simprocAttr, e4], by simp only [go_sem, simprocAttr, e5], by simp only [go_sem, simprocAttr, e61], by simp only [go_sem, simprocAttr, e62], by simp only [go_sem, simprocAttr]⟩
       | true =>
        obtain ⟨p, hp⟩ := Option.isSome_iff_exists.1 hq
        have hpl := ha.ll p (getL_mem hp).2
        have hpb : ShB p.shape := by
         have hLB : LB = 100000000000 := rfl
         exact ⟨by omega, by omega, fun f hf => by have := hpl.2.2 f hf; omega⟩
        have hjo : joinO a x = joinO a x := rfl
        have hje : joinO a x = joinSh p.shape x.shape := by unfold joinO; rw [hp]; rfl
        have hjk : ShOk (joinO a x) := by
         have := joinSh_len hpl hxl
         rw [hje]
         exact ⟨fun f hf => by have := this.2.2 f hf; unfold FOk; omega, by omega, by omega⟩
        have hoj : ∀ H, calls Tryz.prog cfgY 90 [.agg (encSh p.shape), .agg (encSh x.shape)] H = some (.ret (.agg (encSh (joinO a x))) H) := fun H => by rw [hje]; exact y_ojoin p.shape x.shape hpb hxb H
        have hpg : ((getL x.atom a.locs).map Lc.shape).getD shZ = p.shape := by rw [hp]; rfl
        rw [hq, hpg] at hloc
        have h4 : ∀ o : Sh, (encSh o).drop 2 = [] := fun _ => rfl
        have r1 : ¬ m + 38 = m + 29 := by omega
        have r2 : ¬ m + 29 = m + 38 := by omega
        simp only [go_sem, simprocAttr, rs, hm, d1, g0, g2, g20, e2, e4, e5, e61, e62, e63, hI, a1, a2, a3, x1, x2, x3, x4, x5, x6, q1, q2, q3, h1, h2, h3, hloc, hoj, h4, List.append_nil, hA1, hB1]
        refine goC_ex (y_put false _ A B x.atom (joinO a x) hjk 22 _ (by repeat (first | exact hB | refine ArrS.up ?_ _ | refine ArrS.put ?_ _ (hB.no' (by omega)))) (by simp only [go_sem, simprocAttr] <;> omega) hA1 (by omega)) ?_
        rintro v K2 ⟨B', rfl, hB2, hC⟩
        have nx2 := hC.nx
        simp only [go_sem, simprocAttr, hm] at nx2
        have q0 : K2.get 0 = some (encSt a) := by rw [hC.get (by simp only [go_sem, simprocAttr, hm] <;> omega) (nB 0 (by omega))]; simp only [go_sem, simprocAttr, n25 0 (by omega), n29 0 (by omega), n38 0 (by omega), g0]
        have q2 : K2.get 2 = some [.lit (.bool false), .sl .nil [], .sl .nil []] := by rw [hC.get (by simp only [go_sem, simprocAttr, hm] <;> omega) (nB 2 (by omega))]; simp only [go_sem, simprocAttr, n25 2 (by omega), n29 2 (by omega), n38 2 (by omega), g2]
        have q20 : K2.get 20 = some [.lit (.bool false), A, B] := by rw [hC.get (by simp only [go_sem, simprocAttr, hm] <;> omega) (nB 20 (by omega))]; simp only [go_sem, simprocAttr, n25 20 (by omega), n29 20 (by omega), n38 20 (by omega), g20]
        obtain ⟨hA2, hS2⟩ := ArrS.keep (sz := 2) (lo := 22) (B := A) (es := V.map encB) (by repeat (first | exact hA | refine ArrS.up ?_ _ | refine ArrS.put ?_ _ (hA.no' (by omega)))) hS hC
        obtain ⟨m3, hm3⟩ : ∃ m3, K2.next = m3 + 22 := ⟨K2.next - 22, by omega⟩
        have hB3 := hB2.one
        simp only [go_sem, simprocAttr, rs, e2, e4, e5, e61, e62, e63, q0, q2, q20, hm3, hA1, hB3, hw]
        exact ih (ls.length - (i + 1)) (by omega) _ _ ⟨i + 1, B', rfl, by omega, by simp only [go_sem, simprocAttr, q0], by simp only [go_sem, simprocAttr, q2], by simp only [go_sem, simprocAttr], by simp only [go_sem, simprocAttr, hm3] <;> omega,
         (hA2.put _ (hA2.no (by omega))).up 2,
         by
          rw [hsucc]
          unfold stpL
          rw [hjo]
          exact (hB2.put _ (hB2.no (by omega))).up 2,
         hS2,
         by simp only [go_sem, simprocAttr, e2], by simp only [go_sem, simprocAttr, e4], by simp only [go_sem, simprocAttr, e5], by simp only [go_sem, simprocAttr, e61], by simp only [go_sem, simprocAttr, e62], by simp only [go_sem, simprocAttr]⟩
      ·have d1 : decide ((i : Int) < (ls.length : Nat)) = false := by simp; omega
       have hi : i = ls.length := by omega
       subst hi
       rw [List.take_length] at hB
       simp only [go_sem, simprocAttr, rs, hm, d1, g0, g2, g20, e2, e4, e5, e61, e62, e63, hA1, hB1]
       refine ⟨_, rfl, ?_⟩
       exact frz_sta (s := ⟨false, V, _⟩) (((hA.up 1).up 2).put _ (hA.no (by omega))) (((hB.up 1).up 2).put _ (hB.no (by omega)))
end Go.Proofs.YtnoahchdmkpleaaGreat.VA

/-! Ra7 -/
namespace Go.Proofs.YtnoahchdmkpleaaGreat.VA
open Go Go.RowKit
attribute [local go_sem] Nat.add_eq_left Nat.left_eq_add true_and and_true ite_true if_false Int.cast_ofNat_Int eq_self Nat.add_assoc Option.some.injEq decide_true decide_false Bool.not_true Bool.not_false List.size_toArray List.length_cons List.length_nil
set_option linter.unusedSimpArgs false
set_option maxRecDepth 100000

theorem c_same1 (d : List (Int × Int)) (hd : d.length ≤ LA) (o o' : Own) (H : Heap) : calls Tryz.prog cfgR 18 [.sl o (encAs d), .sl o' (encAs d)] H = some (.ret (.lit (.bool true)) H) := by
 have := c_same d d hd o o' H
 rw [decide_eq_true rfl] at this
 exact this
theorem c_sameSh (s : Sh) (hs : ShOk s) (H : Heap) : calls Tryz.prog cfgR 51 [.agg (encSh s), .agg (encSh s)] H = some (.ret (.lit (.bool true)) H) := by
 refine calls_pure (fn := Tryz.f51) rfl rfl rfl rfl rfl ?_ H
 have rs : Tryz.f51.results.toList = [.tmp 4] := rfl
 obtain ⟨fs, pr⟩ := s
 obtain ⟨hf, hfl, hpl⟩ := hs
 simp only at hf hfl hpl
 have hp := fun H => c_same1 pr (by omega) .sh .sh H
 have dn : ∀ n : Nat, decide ((n : Int) = (n : Nat)) = true := fun n => by simp
 unfold encSh
 simp only [go_sem, simprocAttr, rs, List.length_map, dn, hp]
 refine W_loop_ind (fun k e H => ∃ i : Nat, k = fs.length - i ∧ i ≤ fs.length ∧ gget .bad e 2 = .ptr 0 0 ∧ gget .bad e 3 = .ptr 1 0 ∧ gget .bad e 5 = .lit (.int .i64 (i : Nat)) ∧ H.get 0 = some [.sl .sh (fs.map encF), .sl .sh (encAs pr)] ∧ H.get 1 = some [.sl .sh (fs.map encF), .sl .sh (encAs pr)] ∧ 2 ≤ H.next)
  fs.length ⟨0, rfl, by omega, by simp only [go_sem, simprocAttr], by simp only [go_sem, simprocAttr], by simp only [go_sem, simprocAttr], by simp only [go_sem, simprocAttr], by simp only [go_sem, simprocAttr], by simp only [go_sem, simprocAttr] <;> omega⟩ ?_
 rintro k ih e H ⟨i, rfl, hle, g2, g3, g5, h0, h1, hnx⟩
 obtain ⟨m, hm⟩ : ∃ m, H.next = m + 2 := ⟨H.next - 2, by omega⟩
 by_cases hlt : i < fs.length
 ·have d1 : decide ((i : Int) < (fs.length : Nat)) = true := by simp; omega
  have hw := wrap1 (show i + 1 ≤ 9223372036854775807 by unfold LA at hfl; omega)
  have hfo := hf fs[i] (List.getElem_mem hlt)
  have hA : iad (some (85, 3, 48)) (.sl .sh (fs.map encF)) (some i) = some (.ep [.lit (.string fs[i].nm), .lit (.bool fs[i].sure), .sl .sh (encAs fs[i].vals)]) := iad_map (f := encF) hlt (fun _ => rfl)
  generalize fs[i] = x at hA hfo
  have hv := fun H => c_same1 x.vals (by unfold FOk at hfo; omega) .sh .sh H
  have dx : decide (x.nm = x.nm) = true := decide_eq_true rfl
  have db : (x.sure == x.sure) = true := by simp
  simp only [go_sem, simprocAttr, g2, g3, g5, h0, h1, hm, d1, List.length_map]
  refine W_draw [(1, 6), (4, 6), (1, 9), (4, 9), (1, 10), (4, 10), (6, 10), (9, 10), (1, 11), (4, 11), (6, 11), (9, 11), (10, 11), (6, 12), (9, 12)] (by kernel_rfl) ?_
  simp only [go_sem, simprocAttr, g2, g3, g5, h0, h1, hm, hA, hw, dx, db, hv]
  exact ih (fs.length - (i + 1)) (by omega) _ _ ⟨i + 1, rfl, by omega, by simp only [go_sem, simprocAttr, g2], by simp only [go_sem, simprocAttr, g3], by simp only [go_sem, simprocAttr], by simp only [go_sem, simprocAttr, hm, h0], by simp only [go_sem, simprocAttr, hm, h1], by simp only [go_sem, simprocAttr, hm] <;> omega⟩
 ·have d1 : decide ((i : Int) < (fs.length : Nat)) = false := by simp; omega
  simp only [go_sem, simprocAttr, g2, g3, g5, h0, h1, hm, d1, List.length_map, rs]
theorem c_sameSt (s : Sta) (hs : StOk s) (H : Heap) : calls Tryz.prog cfgR 17 [.agg (encSt s), .agg (encSt s)] H = some (.ret (.lit (.bool true)) H) := by
 refine calls_pure (fn := Tryz.f17) rfl rfl rfl rfl rfl ?_ H
 have rs : Tryz.f17.results.toList = [.tmp 4] := rfl
 obtain ⟨dd, vs, ls⟩ := s
 obtain ⟨hv, hvl, hL, hll⟩ := hs
 simp only at hv hvl hL hll
 have dn : ∀ n : Nat, decide ((n : Int) = (n : Nat)) = true := fun n => by simp
 have db : (dd == dd) = true := by simp
 unfold encSt
 simp only [go_sem, simprocAttr, rs, List.length_map, dn, db]
 refine W_loop_ind (fun k e H => ∃ i : Nat, k = vs.length - i ∧ i ≤ vs.length ∧ gget .bad e 2 = .ptr 0 0 ∧ gget .bad e 3 = .ptr 1 0 ∧ gget .bad e 5 = .lit (.int .i64 (i : Nat)) ∧ H.get 0 = some [.lit (.bool dd), .sl .sh (vs.map encB), .sl .sh (ls.map encL)] ∧ H.get 1 = some [.lit (.bool dd), .sl .sh (vs.map encB), .sl .sh (ls.map encL)])
  vs.length ⟨0, rfl, by omega, by simp only [go_sem, simprocAttr], by simp only [go_sem, simprocAttr], by simp only [go_sem, simprocAttr], by simp only [go_sem, simprocAttr], by simp only [go_sem, simprocAttr]⟩ ?_
 rintro k ih e H ⟨i, rfl, hle, g2, g3, g5, h0, h1⟩
 by_cases hlt : i < vs.length
 ·have d1 : decide ((i : Int) < (vs.length : Nat)) = true := by simp; omega
  have hw := wrap1 (show i + 1 ≤ 9223372036854775807 by unfold LA at hvl; omega)
  have hfo := hv vs[i] (List.getElem_mem hlt)
  have hA : iad (some (76, 2, 40)) (.sl .sh (vs.map encB)) (some i) = some (.ep [.lit (.string vs[i].nm), .sl .sh (encAs vs[i].vals)]) := iad_map (f := encB) hlt (fun _ => rfl)
  generalize vs[i] = x at hA hfo
  have hc := fun H => c_same1 x.vals (by unfold BOk at hfo; omega) .sh .sh H
  have dx : decide (x.nm = x.nm) = true := decide_eq_true rfl
  simp only [go_sem, simprocAttr, g2, g3, g5, h0, h1, d1, List.length_map]
  refine W_draw [(1, 7), (5, 7), (1, 11), (5, 11), (15, 21), (19, 21), (15, 25), (19, 25)] (by kernel_rfl) ?_
  simp only [go_sem, simprocAttr, g2, g3, g5, h0, h1, hA, hw, dx, hc]
  exact ih (vs.length - (i + 1)) (by omega) _ _ ⟨i + 1, rfl, by omega, by simp only [go_sem, simprocAttr, g2], by simp only [go_sem, simprocAttr, g3], by simp only [go_sem, simprocAttr], by simp only [go_sem, simprocAttr, h0], by simp only [go_sem, simprocAttr, h1]⟩
 ·have d1 : decide ((i : Int) < (vs.length : Nat)) = false := by simp; omega
  clear ih
  simp only [go_sem, simprocAttr, g2, g3, g5, h0, h1, d1, List.length_map, rs]
  refine W_loop_ind (fun k e H => ∃ i : Nat, k = ls.length - i ∧ i ≤ ls.length ∧ gget .bad e 2 = .ptr 0 0 ∧ gget .bad e 3 = .ptr 1 0 ∧ gget .bad e 6 = .lit (.int .i64 (i : Nat)) ∧ H.get 0 = some [.lit (.bool dd), .sl .sh (vs.map encB), .sl .sh (ls.map encL)] ∧ H.get 1 = some [.lit (.bool dd), .sl .sh (vs.map encB), .sl .sh (ls.map encL)])
   ls.length ⟨0, rfl, by omega, by simp only [go_sem, simprocAttr, g2], by simp only [go_sem, simprocAttr, g3], by simp only [go_sem, simprocAttr], by simp only [go_sem, simprocAttr, h0], by simp only [go_sem, simprocAttr, h1]⟩ ?_
  clear g2 g3 g5 h0 h1
  rintro k ih e H ⟨i, rfl, hle, g2, g3, g6, h0, h1⟩
  by_cases hlt : i < ls.length
  ·have d1 : decide ((i : Int) < (ls.length : Nat)) = true := by simp; omega
   have hw := wrap1 (show i + 1 ≤ 9223372036854775807 by unfold LA at hll; omega)
   have hfo := hL ls[i] (List.getElem_mem hlt)
   have hA : iad (some (83, 4, 64)) (.sl .sh (ls.map encL)) (some i) = some (.ep [.lit (.int .i64 ls[i].atom.1), .lit (.int .i64 ls[i].atom.2), .sl .sh (ls[i].shape.fields.map encF), .sl .sh (encAs ls[i].shape.proto)]) := iad_map (f := encL) hlt (fun _ => rfl)
   generalize ls[i] = x at hA hfo
   have hc : ∀ H, calls Tryz.prog cfgR 51 [.agg [.sl .sh (x.shape.fields.map encF), .sl .sh (encAs x.shape.proto)], .agg [.sl .sh (x.shape.fields.map encF), .sl .sh (encAs x.shape.proto)]] H = some (.ret (.lit (.bool true)) H) := fun H => c_sameSh x.shape hfo H
   have hn : aBin Tryz.prog .neq 81 (.agg [.lit (.int .i64 x.atom.1), .lit (.int .i64 x.atom.2)]) (.agg [.lit (.int .i64 x.atom.1), .lit (.int .i64 x.atom.2)]) = some (.lit (.bool false)) := by
    have := bin_neatm x.atom x.atom
    rw [decide_eq_true rfl] at this
    exact this
   simp only [go_sem, simprocAttr, g2, g3, g6, h0, h1, d1, List.length_map]
   refine W_draw [(1, 7), (5, 7), (1, 11), (5, 11), (15, 21), (19, 21), (15, 25), (19, 25)] (by kernel_rfl) ?_
   simp only [go_sem, simprocAttr, g2, g3, g6, h0, h1, hA, hw, hn, hc]
   exact ih (ls.length - (i + 1)) (by omega) _ _ ⟨i + 1, rfl, by omega, by simp only [go_sem, simprocAttr, g2], by simp only [go_sem, simprocAttr, g3], by simp only [go_sem, simprocAttr], by simp only [go_sem, simprocAttr, h0], by simp only [go_sem, simprocAttr, h1]⟩
  ·have d1 : decide ((i : Int) < (ls.length : Nat)) = false := by simp; omega
   simp only [go_sem, simprocAttr, g2, g3, g6, h0, h1, d1, List.length_map, rs]
end Go.Proofs.YtnoahchdmkpleaaGreat.VA

/-! Rj1 -/
namespace Go.Proofs.YtnoahchdmkpleaaGreat.VA
open Go Go.RowKit
attribute [local go_sem] Nat.add_eq_left Nat.left_eq_add true_and and_true ite_true if_false Int.cast_ofNat_Int eq_self Nat.add_assoc Option.some.injEq decide_true decide_false Bool.not_true Bool.not_false List.size_toArray List.length_cons List.length_nil
set_option linter.unusedSimpArgs false
set_option linter.unusedVariables false
set_option maxRecDepth 100000

/-- The table for the reference's joins. -/
noncomputable def cfgZ : Cfg := mkC Tryz.prog [93, 68, 143, 94, 92, 95, 42, 57]
 []
 [143, 92, 95]
 [(111, toldBy Tryz.prog cfgR 111), (66, toldBy Tryz.prog cfgR 66), (40, toldBy Tryz.prog cfgR 40),
  (39, toldBy Tryz.prog cfgR 39), (11, toldBy Tryz.prog cfgR 11), (38, toldBy Tryz.prog cfgR 38),
  (19, toldBy Tryz.prog cfgR 19)]
 []
theorem cfgZ_ok : CfgOk Tryz.prog Cond.none cfgZ := mkC_ok (by kernel_rfl) (by kernel_rfl) (by
 intro p hp
 simp only [List.mem_cons, List.not_mem_nil, or_false] at hp
 rcases hp with rfl | rfl | rfl | rfl | rfl | rfl | rfl
 ·exact toldBy_ok cfgR_ok (fn := Tryz.f111) (by kernel_rfl) (by kernel_rfl) rfl
 ·exact toldBy_ok cfgR_ok (fn := Tryz.f66) (by kernel_rfl) (by kernel_rfl) rfl
 ·exact toldBy_ok cfgR_ok (fn := Tryz.f40) (by kernel_rfl) (by kernel_rfl) rfl
 ·exact toldBy_ok cfgR_ok (fn := Tryz.f39) (by kernel_rfl) (by kernel_rfl) rfl
 ·exact toldBy_ok cfgR_ok (fn := Tryz.f11) (by kernel_rfl) (by kernel_rfl) rfl
 ·exact toldBy_ok cfgR_ok (fn := Tryz.f38) (by kernel_rfl) (by kernel_rfl) rfl
 ·exact toldBy_ok cfgR_ok (fn := Tryz.f19) (by kernel_rfl) (by kernel_rfl) rfl) (by simp)
@[go_sem] theorem cfgZ_imp (f : FuncId) : cfgZ.imp f = false := rfl
theorem z_add (l : List (Int × Int)) (x : Int × Int) (hl : l.length + 1 ≤ LA) (o : Own) (H : Heap) : calls Tryz.prog cfgZ 111 [.sl o (encAs l), .agg (avA x)] H = some (.ret (.sl .sh (encAs (addR l x))) H) :=
 calls_by rfl (fun H => by
  have e : sanL [AV.sl o (encAs l), .agg (avA x)] = [.sl .sh (encAs l), .agg (avA x)] := by simp only [sanL, san, sanLL_encAs]; rfl
  rw [e]; exact c_add l x hl .sh H) (by simp only [san, sanLL_encAs]) H
theorem z_norm (d : List (Int × Int)) (hl : d.length + 1 ≤ LA) (o : Own) (H : Heap) : calls Tryz.prog cfgZ 66 [.sl o (encAs d)] H = some (.ret (.sl .sh (encAs (normA d))) H) :=
 calls_by rfl (fun H => by simp only [sanL, san, sanLL_encAs]; rw [← normR_eq]; exact c_rNorm d hl .sh H) (by simp only [san, sanLL_encAs]) H
theorem z_less (x y : Int × Int) (H : Heap) : calls Tryz.prog cfgZ 40 [.agg (avA x), .agg (avA y)] H = some (.ret (.lit (.bool (ltA x y))) H) :=
 calls_by rfl (fun H => c_less x y H) rfl H
theorem z_mayS (s : Sh) (hs : ShOk s) (H : Heap) : calls Tryz.prog cfgZ 39 [.agg (encSh s)] H = some (.ret (.lit (.bool (mayS s))) H) :=
 calls_by rfl (fun H => by simp only [sanL, san, sanL_encSh]; exact c_rObjMay s hs H) (by simp only [san]) H
theorem z_mayT (s : Sta) (hs : StOk s) (H : Heap) : calls Tryz.prog cfgZ 11 [.agg (encSt s)] H = some (.ret (.lit (.bool (mayT s))) H) :=
 calls_by rfl (fun H => by simp only [sanL, san, sanL_encSt]; exact c_rStaMay s hs H) (by simp only [san]) H
theorem z_place (x : Int × Int) (H : Heap) : calls Tryz.prog cfgZ 38 [.agg (avA x)] H = some (.ret (.lit (.bool (placeA x))) H) :=
 calls_by rfl (fun H => c_rPlace x H) rfl H
theorem z_var (s : Sta) (hvl : s.vars.length ≤ LA) (q : ByteArray) (H : Heap) : calls Tryz.prog cfgZ 19 [.agg (encSt s), .lit (.string q)] H = some (.ret (.sl .sh (encAs (varA q s.vars))) H) :=
 calls_by rfl (fun H => by simp only [sanL, san, sanL_encSt]; exact c_rVar s hvl q H) (by simp only [san, sanLL_encAs]) H
theorem fold_union (a b : List (Int × Int)) : b.foldl addR (normA a) = normA (a ++ b) := by
 rw [← normR_eq, ← normR_eq]
 unfold normR
 rw [List.foldl_append]
theorem z_union (a b : List (Int × Int)) (hl : a.length + b.length + 1 ≤ LA) (o1 o2 : Own) (H : Heap) : calls Tryz.prog cfgZ 93 [.sl o1 (encAs a), .sl o2 (encAs b)] H = some (.ret (.sl .sh (encAs (normA (a ++ b)))) H) := by
 refine calls_pure (fn := Tryz.f93) rfl rfl rfl rfl rfl ?_ H
 have rs : Tryz.f93.results.toList = [.tmp 4] := rfl
 have e0 : sanL [AV.sl o1 (encAs a), .sl o2 (encAs b)] = [.sl .sh (encAs a), .sl .sh (encAs b)] := by simp only [sanL, san, sanLL_encAs]
 have hn := fun H => z_norm a (by omega) .sh H
 have hna : (normA a).length ≤ a.length := by
  rw [← normR_eq]
  have := foldl_len a []
  rw [List.length_nil, Nat.zero_add] at this
  exact this
 rw [e0]
 simp only [go_sem, simprocAttr, rs, hn]
 refine W_loop_ind (fun k e H => ∃ (i : Nat), k = b.length - i ∧ i ≤ b.length ∧ gget .bad e 1 = .sl .sh (encAs b) ∧ gget .bad e 5 = .sl .sh (encAs ((b.take i).foldl addR (normA a))) ∧ gget .bad e 6 = .lit (.int .i64 (i : Nat)))
  b.length ⟨0, rfl, by omega, by simp only [go_sem, simprocAttr], by simp only [go_sem, simprocAttr, List.take_zero, List.foldl_nil], by simp only [go_sem, simprocAttr]⟩ ?_
 rintro k ih e H ⟨i, rfl, hle, g1, g5, g6⟩
 by_cases hlt : i < b.length
 ·have d1 : decide ((i : Int) < (b.length : Nat)) = true := by simp; omega
  have hw := wrap1 (show i + 1 ≤ 9223372036854775807 by unfold LA at hl; omega)
  have hA := iad_atm (t := 81) (b := 16) (o := .sh) hlt
  have hfl := foldl_len (b.take i) (normA a)
  rw [List.length_take, Nat.min_eq_left (by omega)] at hfl
  have hc : ∀ H, calls Tryz.prog cfgZ 111 [.sl .sh (encAs ((b.take i).foldl addR (normA a))), .agg (avA b[i])] H = some (.ret (.sl .sh (encAs (addR ((b.take i).foldl addR (normA a)) b[i]))) H) := z_add _ b[i] (by omega) .sh
  simp only [go_sem, simprocAttr, g1, g5, g6, d1, hA, hw, hc]
  exact ih (b.length - (i + 1)) (by omega) _ _ ⟨i + 1, rfl, by omega, by simp only [go_sem, simprocAttr, g1], by rw [List.take_succ_eq_append_getElem hlt, List.foldl_append]; simp only [go_sem, simprocAttr, List.foldl_cons, List.foldl_nil], by simp only [go_sem, simprocAttr]⟩
 ·have d1 : decide ((i : Int) < (b.length : Nat)) = false := by simp; omega
  rw [List.take_of_length_le (by omega), fold_union] at g5
  simp only [go_sem, simprocAttr, g1, g5, g6, d1, rs]
end Go.Proofs.YtnoahchdmkpleaaGreat.VA

/-! Rj2 -/
namespace Go.Proofs.YtnoahchdmkpleaaGreat.VA
open Go Go.RowKit
attribute [local go_sem] Nat.add_eq_left Nat.left_eq_add true_and and_true ite_true if_false Int.cast_ofNat_Int eq_self Nat.add_assoc Option.some.injEq decide_true decide_false Bool.not_true Bool.not_false List.size_toArray List.length_cons List.length_nil
set_option linter.unusedSimpArgs false
set_option linter.unusedVariables false
set_option maxRecDepth 100000

@[go_sem] theorem aStr_leq' (a b : ByteArray) : aStr .leq a b = some (.lit (.bool (!strLt b a))) := by
 have h : (Op.bytesLess a.data.toList b.data.toList || strEq a b) = !strLt b a := by
  show (strLt a b || strEq a b) = !strLt b a
  rw [strEq_decide]
  cases h1 : strLt a b with
  | true => rw [sl_asym h1]; rfl
  | false =>
   rcases sl_total h1 with rfl | h2
   ·simp [sl_self]
   ·have : ¬ a = b := fun e => by subst e; rw [sl_self] at h2; cases h2
    simp [h2, this]
 show some (AV.lit (.bool (Op.bytesLess a.data.toList b.data.toList || strEq a b))) = _
 rw [h]
section
variable {α κ : Type} [DecidableEq κ] {key : α → κ} {lt : κ → κ → Bool}
theorem withG_drop {x : α} {l : List α} {i : Nat} (h : i < l.length) (laid : Bool) : withG key lt x laid (l.drop i) =
  (if (!laid && !lt (key l[i]) (key x)) = true then [x] else []) ++ ((if key l[i] = key x then [] else [l[i]]) ++ withG key lt x (laid || (!laid && !lt (key l[i]) (key x))) (l.drop (i + 1))) := by
 rw [List.drop_eq_getElem_cons h]; rfl
end
theorem frz_two {H : Heap} {A B x y : AV} (h1 : san (frz H A) = x) (h2 : san (frz H B) = y) : san (frz H (oneOr [.agg [A, B]])) = .agg [x, y] := by simp only [oneOr, frz, frzL, san, sanL, h1, h2]
theorem frz_three {H : Heap} {A B C x y z : AV} (h1 : san (frz H A) = x) (h2 : san (frz H B) = y) (h3 : san (frz H C) = z) : san (frz H (oneOr [.agg [A, B, C]])) = .agg [x, y, z] := by simp only [oneOr, frz, frzL, san, sanL, h1, h2, h3]
theorem z_with (s : Sh) (f : Fd) (hl : s.fields.length + 1 ≤ LA) (o : Own) (H : Heap) : calls Tryz.prog cfgZ 143 [.agg [.sl o (s.fields.map encF), .sl .sh (encAs s.proto)], .agg (encF f)] H = some (.ret (.agg (encSh ⟨withG Fd.nm strLt f false s.fields, s.proto⟩)) H) := by
 refine calls_frz (fn := Tryz.f143) rfl rfl rfl rfl rfl ?_ H
 have rs : Tryz.f143.results.toList = [.cell 4 79] := rfl
 have hLA : LA = 1000000000000 := rfl
 obtain ⟨fs, pr⟩ := s
 have f1 : (encF f).length = 3 := rfl
 have f2 : (encF f).take 3 = encF f := rfl
 have f3 := F_one f
 have f4 : (encF f)[0]? = some (.lit (.string f.nm)) := rfl
 unfold encSh
 have fz : sanL (encF f) = encF f := sanL_encF f
 simp only [go_sem, simprocAttr, rs, fz, f1, f2, f3, f4]
 simp only at hl
 have bsF : ∀ g : Fd, aBuildSlice Tryz.prog 77 1 [(0, .agg (encF g))] = some (.sl .ex [encF g]) := fun g => build1 el_sFld (by decide) zr_fld rfl rfl _ rfl rfl
 have ap : ∀ (acc : List Fd) (g : Fd) (A : AV) (H H' : Heap), acc.length ≤ 2 * LA → ArrOf H 8 A 3 (acc.map encF) → arrGet A H' = arrGet A H → ∀ id, aAppend Tryz.prog 77 A (.sl .ex [encF g]) H' id = some (.ar id 0 (acc.length + 1) 3, arrUs A id ((acc ++ [g]).map encF).flatten, arrRs A) := by
  intro acc g A H H' hal hA hg id
  have := app_arr (P := Tryz.prog) (x := encF g) (o := .ex) el_sFld rfl (by decide) zo_sFld (by rw [List.length_map]; omega) (by rw [List.length_map]; omega) rfl (F_one g) (F_unif _) hA id hg
  rw [List.length_map] at this
  rw [this, List.map_append]; rfl
 refine W_loop_ind (fun k e H => ∃ (i : Nat) (A : AV) (acc : List Fd) (laid : Bool), k = fs.length - i ∧ i ≤ fs.length ∧ acc ++ withG Fd.nm strLt f laid (fs.drop i) = withG Fd.nm strLt f false fs ∧ acc.length ≤ 2 * i ∧
   H.get 0 = some [.sl .sh (fs.map encF), .sl .sh (encAs pr)] ∧ H.get 1 = some (encF f) ∧ H.get 2 = some [.sl .nil [], .sl .nil []] ∧ H.get 6 = some [A, .sl .sh (encAs pr)] ∧ 8 ≤ H.next ∧ ArrOf H 8 A 3 (acc.map encF) ∧
   gget .bad e 2 = .ptr 0 0 ∧ gget .bad e 3 = .ptr 1 0 ∧ gget .bad e 4 = .ptr 2 0 ∧ gget .bad e 5 = .ptr 6 0 ∧ gget .bad e 6 = .lit (.bool laid) ∧ gget .bad e 7 = .lit (.int .i64 (i : Nat)))
  fs.length ⟨0, .sl .nil [], [], false, rfl, by omega, rfl, by simp, by simp only [go_sem, simprocAttr], by simp only [go_sem, simprocAttr], by simp only [go_sem, simprocAttr], by simp only [go_sem, simprocAttr], by simp only [go_sem, simprocAttr] <;> omega, .inl ⟨rfl, rfl⟩, by simp only [go_sem, simprocAttr], by simp only [go_sem, simprocAttr], by simp only [go_sem, simprocAttr], by simp only [go_sem, simprocAttr], by simp only [go_sem, simprocAttr], by simp only [go_sem, simprocAttr]⟩ ?_
 rintro k ih e H ⟨i, A, acc, laid, rfl, hle, hR, hal, g0, g1, g2, g6, hnx, hA, e2, e3, e4, e5, e6, e7⟩
 obtain ⟨m, hm⟩ : ∃ m, H.next = m + 8 := ⟨H.next - 8, by omega⟩
 have hA1 := hA.one
 by_cases hlt : i < fs.length
 ·have d1 : decide ((i : Int) < (fs.length : Nat)) = true := by simp; omega
  have hw := wrap1 (show i + 1 ≤ 9223372036854775807 by omega)
  have hI := iad_map (f := encF) (t := 85) (n := 3) (b := 48) (o := .sh) hlt (fun _ => rfl)
  rw [withG_drop hlt] at hR
  generalize hy : fs[i] = y at hI hR
  have y1 : (encF y).length = 3 := rfl
  have y2 : (encF y).take 3 = encF y := rfl
  have y3 := F_one y
  have y4 : (encF y)[0]? = some (.lit (.string y.nm)) := rfl
  have nA : ∀ k, k < 8 → arrNo A k := fun k hk => hA.no (by omega)
  have nB : ∀ k, arrNo A (m + 8 + k) := fun k => hA.no' (by omega)
  have ap1 := fun (H' : Heap) (id : Nat) (hg : arrGet A H' = arrGet A H) => ap acc f A H H' (by omega) hA hg id
  have ap1y := fun (H' : Heap) (id : Nat) (hg : arrGet A H' = arrGet A H) => ap acc y A H H' (by omega) hA hg id
  cases laid with
  | false =>
   cases hlt3 : strLt y.nm f.nm with
   | false =>
    rw [hlt3] at hR
    simp only [go_sem, simprocAttr, rs, List.length_map, hm, d1, g0, g1, g2, g6, e2, e3, e4, e5, e6, e7]
    refine W_draw [(4, 6), (4, 10)] (by kernel_rfl) ?_
    have hgk : ∀ k, k < 8 → ∀ (H' : Heap) (cs : List AV), (appU H' (arrUs A (m + 30) cs)).get k = H'.get k := fun k hk H' cs => arrUs_get (by omega) (hA.no (by omega))
    have hg6 := hgk 6 (by omega)
    have nb30 : ¬ 6 = m + 30 := by omega
    simp only [go_sem, simprocAttr, rs, List.length_map, hm, d1, g0, g1, g2, g6, e2, e3, e4, e5, e6, e7, hI, f1, f2, f3, f4, y1, y2, y3, y4, hlt3, bsF, ap1, hg6]
    obtain ⟨HX, hHX⟩ : ∃ HX, HX = ((appU (((H.up 5).up 13).up 7) (arrUs A (m + 30) ((acc ++ [f]).map encF).flatten)).put 6 [.ar (m + 30) 0 (acc.length + 1) 3, .sl .sh (encAs pr)]) := ⟨_, rfl⟩
    have h0 : HX.get 0 = some [.sl .sh (fs.map encF), .sl .sh (encAs pr)] := by rw [hHX]; simp only [go_sem, simprocAttr, hgk 0 (by omega), g0]
    have h1 : HX.get 1 = some (encF f) := by rw [hHX]; simp only [go_sem, simprocAttr, hgk 1 (by omega), g1]
    have h2 : HX.get 2 = some [.sl .nil [], .sl .nil []] := by rw [hHX]; simp only [go_sem, simprocAttr, hgk 2 (by omega), g2]
    have h6 : HX.get 6 = some [.ar (m + 30) 0 (acc.length + 1) 3, .sl .sh (encAs pr)] := by rw [hHX]; simp only [go_sem, simprocAttr]
    have hXn : HX.next = m + 33 := by rw [hHX]; simp only [go_sem, simprocAttr, hm]
    have hXA : ArrOf HX 8 (.ar (m + 30) 0 (acc.length + 1) 3) 3 ((acc ++ [f]).map encF) := .inr ⟨m + 30, by simp, by simp, by rw [hHX]; simp only [go_sem, simprocAttr, arrUs_new, nb30], by omega, by rw [hXn]; omega⟩
    rw [← hHX]
    clear hHX
    refine W_draw [(1, 7), (5, 7)] (by kernel_rfl) ?_
    by_cases hq : y.nm = f.nm
    ·have dq : decide (y.nm = f.nm) = true := by simpa using hq
     simp only [hq, if_true, List.nil_append] at hR
     simp only [go_sem, simprocAttr, rs, List.length_map, hXn, h0, h1, h2, h6, e2, e3, e4, e5, e6, e7, hI, f1, f2, f3, f4, y1, y2, y3, y4, dq, hw]
     exact ih (fs.length - (i + 1)) (by omega) _ _ ⟨i + 1, (.ar (m + 30) 0 (acc.length + 1) 3), acc ++ [f], true, rfl, by omega, by simpa using hR, by first | omega | (simp; omega), by simp only [go_sem, simprocAttr, h0], by simp only [go_sem, simprocAttr, h1], by simp only [go_sem, simprocAttr, h2], by simp only [go_sem, simprocAttr, h6], by simp only [go_sem, simprocAttr, hXn] <;> omega,
      by repeat (first | exact hXA | refine ArrOf.of (H := _) ?_ (Nat.le_add_right _ _) (fun _ _ _ => rfl)), by simp only [go_sem, simprocAttr, e2], by simp only [go_sem, simprocAttr, e3], by simp only [go_sem, simprocAttr, e4], by simp only [go_sem, simprocAttr, e5], by simp only [go_sem, simprocAttr, e6], by simp only [go_sem, simprocAttr]⟩
    ·have dq : decide (y.nm = f.nm) = false := by simpa using hq
     simp only [hq, if_false] at hR
     simp only [go_sem, simprocAttr, rs, List.length_map, hXn, h0, h1, h2, h6, e2, e3, e4, e5, e6, e7, hI, f1, f2, f3, f4, y1, y2, y3, y4, dq]
     refine W_draw [(1, 3), (1, 6)] (by kernel_rfl) ?_
     have ap2 := fun (H' : Heap) (id : Nat) (hg : arrGet (.ar (m + 30) 0 (acc.length + 1) 3) H' = arrGet (.ar (m + 30) 0 (acc.length + 1) 3) HX) => ap (acc ++ [f]) y (.ar (m + 30) 0 (acc.length + 1) 3) HX H' (by first | omega | (simp; omega)) hXA hg id
     have hgk : ∀ k, k < 8 → ∀ (H' : Heap) (cs : List AV), (appU H' (arrUs (.ar (m + 30) 0 (acc.length + 1) 3) (m + 51) cs)).get k = H'.get k := fun k hk H' cs => arrUs_get (by omega) (hXA.no (by omega))
     have hg0 := hgk 0 (by omega)
     have hg1 := hgk 1 (by omega)
     have hg2 := hgk 2 (by omega)
     have hg6 := hgk 6 (by omega)
     have n6 : arrNo (.ar (m + 30) 0 (acc.length + 1) 3) 6 := hXA.no (by omega)
     have nb : ¬ 6 = m + 51 := by omega
     have sp : ArrOf HX 8 (.ar (m + 30) 0 (acc.length + 1) 3) 3 ((acc ++ [f]).map encF) := hXA
     simp only [go_sem, simprocAttr, rs, List.length_map, hXn, h0, h1, h2, h6, e2, e3, e4, e5, e6, e7, hI, f1, f2, f3, f4, y1, y2, y3, y4, dq, hw, bsF, ap2, hg6, n6]
     refine ih (fs.length - (i + 1)) (by omega) _ _ ⟨i + 1, .ar (m + 51) 0 ((acc ++ [f]).length + 1) 3, acc ++ [f] ++ [y], true, rfl, by omega, by simpa using hR, by first | omega | (simp; omega), by simp only [go_sem, simprocAttr, hg0, h0], by simp only [go_sem, simprocAttr, hg1, h1], by simp only [go_sem, simprocAttr, hg2, h2], by simp only [go_sem, simprocAttr], by simp only [go_sem, simprocAttr, hXn] <;> omega,
      .inr ⟨m + 51, by simp, by simp, by simp only [go_sem, simprocAttr, arrUs_new, nb], by omega, by simp only [go_sem, simprocAttr, hXn] <;> omega⟩, by simp only [go_sem, simprocAttr, e2], by simp only [go_sem, simprocAttr, e3], by simp only [go_sem, simprocAttr, e4], by simp only [go_sem, simprocAttr, e5], by simp only [go_sem, simprocAttr, e6], by simp only [go_sem, simprocAttr]⟩
   | true =>
    rw [hlt3] at hR
    simp only [go_sem, simprocAttr, rs, List.length_map, hm, d1, g0, g1, g2, g6, e2, e3, e4, e5, e6, e7]
    refine W_draw [(4, 6), (4, 10)] (by kernel_rfl) ?_
    simp only [go_sem, simprocAttr, rs, List.length_map, hm, d1, g0, g1, g2, g6, e2, e3, e4, e5, e6, e7, hI, f1, f2, f3, f4, y1, y2, y3, y4, hlt3]
    have h0 := g0
    have h1 := g1
    have h2 := g2
    have h6 := g6
    have hXA := hA
    refine W_draw [(1, 7), (5, 7)] (by kernel_rfl) ?_
    by_cases hq : y.nm = f.nm
    ·have dq : decide (y.nm = f.nm) = true := by simpa using hq
     simp only [hq, if_true, List.nil_append] at hR
     simp only [go_sem, simprocAttr, rs, List.length_map, hm, h0, h1, h2, h6, e2, e3, e4, e5, e6, e7, hI, f1, f2, f3, f4, y1, y2, y3, y4, dq, hw]
     exact ih (fs.length - (i + 1)) (by omega) _ _ ⟨i + 1, A, acc, false, rfl, by omega, by simpa using hR, by first | omega | (simp; omega), by simp only [go_sem, simprocAttr, h0], by simp only [go_sem, simprocAttr, h1], by simp only [go_sem, simprocAttr, h2], by simp only [go_sem, simprocAttr, h6], by simp only [go_sem, simprocAttr, hm] <;> omega,
      by repeat (first | exact hXA | refine ArrOf.of (H := _) ?_ (Nat.le_add_right _ _) (fun _ _ _ => rfl)), by simp only [go_sem, simprocAttr, e2], by simp only [go_sem, simprocAttr, e3], by simp only [go_sem, simprocAttr, e4], by simp only [go_sem, simprocAttr, e5], by simp only [go_sem, simprocAttr, e6], by simp only [go_sem, simprocAttr]⟩
    ·have dq : decide (y.nm = f.nm) = false := by simpa using hq
     simp only [hq, if_false] at hR
     simp only [go_sem, simprocAttr, rs, List.length_map, hm, h0, h1, h2, h6, e2, e3, e4, e5, e6, e7, hI, f1, f2, f3, f4, y1, y2, y3, y4, dq]
     refine W_draw [(1, 3), (1, 6)] (by kernel_rfl) ?_
     have ap2 := fun (H' : Heap) (id : Nat) (hg : arrGet A H' = arrGet A H) => ap (acc) y A H H' (by first | omega | (simp; omega)) hXA hg id
     have hgk : ∀ k, k < 8 → ∀ (H' : Heap) (cs : List AV), (appU H' (arrUs A (m + 43) cs)).get k = H'.get k := fun k hk H' cs => arrUs_get (by omega) (hXA.no (by omega))
     have hg0 := hgk 0 (by omega)
     have hg1 := hgk 1 (by omega)
     have hg2 := hgk 2 (by omega)
     have hg6 := hgk 6 (by omega)
     have n6 : arrNo A 6 := hXA.no (by omega)
     have nb : ¬ 6 = m + 43 := by omega
     have sp : ArrOf H 8 A 3 ((acc).map encF) := hXA
     simp only [go_sem, simprocAttr, rs, List.length_map, hm, h0, h1, h2, h6, e2, e3, e4, e5, e6, e7, hI, f1, f2, f3, f4, y1, y2, y3, y4, dq, hw, bsF, ap2, hg6, n6]
     refine ih (fs.length - (i + 1)) (by omega) _ _ ⟨i + 1, .ar (m + 43) 0 ((acc).length + 1) 3, acc ++ [y], false, rfl, by omega, by simpa using hR, by first | omega | (simp; omega), by simp only [go_sem, simprocAttr, hg0, h0], by simp only [go_sem, simprocAttr, hg1, h1], by simp only [go_sem, simprocAttr, hg2, h2], by simp only [go_sem, simprocAttr], by simp only [go_sem, simprocAttr, hm] <;> omega,
      .inr ⟨m + 43, by simp, by simp, by simp only [go_sem, simprocAttr, arrUs_new, nb], by omega, by simp only [go_sem, simprocAttr, hm] <;> omega⟩, by simp only [go_sem, simprocAttr, e2], by simp only [go_sem, simprocAttr, e3], by simp only [go_sem, simprocAttr, e4], by simp only [go_sem, simprocAttr, e5], by simp only [go_sem, simprocAttr, e6], by simp only [go_sem, simprocAttr]⟩
  | true =>
   simp only [go_sem, simprocAttr, rs, List.length_map, hm, d1, g0, g1, g2, g6, e2, e3, e4, e5, e6, e7]
   refine W_draw [(4, 6), (4, 10)] (by kernel_rfl) ?_
   simp only [go_sem, simprocAttr, rs, List.length_map, hm, d1, g0, g1, g2, g6, e2, e3, e4, e5, e6, e7, hI, f1, f2, f3, f4, y1, y2, y3, y4]
   have h0 := g0
   have h1 := g1
   have h2 := g2
   have h6 := g6
   have hXA := hA
   refine W_draw [(1, 7), (5, 7)] (by kernel_rfl) ?_
   by_cases hq : y.nm = f.nm
   ·have dq : decide (y.nm = f.nm) = true := by simpa using hq
    simp only [hq, if_true, List.nil_append] at hR
    simp only [go_sem, simprocAttr, rs, List.length_map, hm, h0, h1, h2, h6, e2, e3, e4, e5, e6, e7, hI, f1, f2, f3, f4, y1, y2, y3, y4, dq, hw]
    exact ih (fs.length - (i + 1)) (by omega) _ _ ⟨i + 1, A, acc, true, rfl, by omega, by simpa using hR, by first | omega | (simp; omega), by simp only [go_sem, simprocAttr, h0], by simp only [go_sem, simprocAttr, h1], by simp only [go_sem, simprocAttr, h2], by simp only [go_sem, simprocAttr, h6], by simp only [go_sem, simprocAttr, hm] <;> omega,
     by repeat (first | exact hXA | refine ArrOf.of (H := _) ?_ (Nat.le_add_right _ _) (fun _ _ _ => rfl)), by simp only [go_sem, simprocAttr, e2], by simp only [go_sem, simprocAttr, e3], by simp only [go_sem, simprocAttr, e4], by simp only [go_sem, simprocAttr, e5], by simp only [go_sem, simprocAttr, e6], by simp only [go_sem, simprocAttr]⟩
   ·have dq : decide (y.nm = f.nm) = false := by simpa using hq
    simp only [hq, if_false] at hR
    simp only [go_sem, simprocAttr, rs, List.length_map, hm, h0, h1, h2, h6, e2, e3, e4, e5, e6, e7, hI, f1, f2, f3, f4, y1, y2, y3, y4, dq]
    refine W_draw [(1, 3), (1, 6)] (by kernel_rfl) ?_
    have ap2 := fun (H' : Heap) (id : Nat) (hg : arrGet A H' = arrGet A H) => ap (acc) y A H H' (by first | omega | (simp; omega)) hXA hg id
    have hgk : ∀ k, k < 8 → ∀ (H' : Heap) (cs : List AV), (appU H' (arrUs A (m + 43) cs)).get k = H'.get k := fun k hk H' cs => arrUs_get (by omega) (hXA.no (by omega))
    have hg0 := hgk 0 (by omega)
    have hg1 := hgk 1 (by omega)
    have hg2 := hgk 2 (by omega)
    have hg6 := hgk 6 (by omega)
    have n6 : arrNo A 6 := hXA.no (by omega)
    have nb : ¬ 6 = m + 43 := by omega
    have sp : ArrOf H 8 A 3 ((acc).map encF) := hXA
    simp only [go_sem, simprocAttr, rs, List.length_map, hm, h0, h1, h2, h6, e2, e3, e4, e5, e6, e7, hI, f1, f2, f3, f4, y1, y2, y3, y4, dq, hw, bsF, ap2, hg6, n6]
    refine ih (fs.length - (i + 1)) (by omega) _ _ ⟨i + 1, .ar (m + 43) 0 ((acc).length + 1) 3, acc ++ [y], true, rfl, by omega, by simpa using hR, by first | omega | (simp; omega), by simp only [go_sem, simprocAttr, hg0, h0], by simp only [go_sem, simprocAttr, hg1, h1], by simp only [go_sem, simprocAttr, hg2, h2], by simp only [go_sem, simprocAttr], by simp only [go_sem, simprocAttr, hm] <;> omega,
     .inr ⟨m + 43, by simp, by simp, by simp only [go_sem, simprocAttr, arrUs_new, nb], by omega, by simp only [go_sem, simprocAttr, hm] <;> omega⟩, by simp only [go_sem, simprocAttr, e2], by simp only [go_sem, simprocAttr, e3], by simp only [go_sem, simprocAttr, e4], by simp only [go_sem, simprocAttr, e5], by simp only [go_sem, simprocAttr, e6], by simp only [go_sem, simprocAttr]⟩
 ·have d1 : decide ((i : Int) < (fs.length : Nat)) = false := by simp; omega
  rw [List.drop_of_length_le (by omega)] at hR
  have ap1 := fun (H' : Heap) (id : Nat) (hg : arrGet A H' = arrGet A H) => ap acc f A H H' (by omega) hA hg id
  have nA : ∀ k, k < 8 → arrNo A k := fun k hk => hA.no (by omega)
  cases laid with
  | true =>
   have hR' : acc = withG Fd.nm strLt f false fs := by rw [← hR]; simp [withG]
   rw [← hR']
   simp only [go_sem, simprocAttr, rs, List.length_map, hm, d1, g0, g1, g2, g6, e2, e3, e4, e5, e6, e7, hA1]
   refine ⟨_, rfl, ?_⟩
   generalize hHF : Heap.put _ 2 _ = HF
   have hfr := frz_arr (H' := HF) (hA.of (H' := HF) (by rw [← hHF]; simp only [go_sem, simprocAttr] <;> omega) (fun k h1 h2 => by rw [← hHF, Heap.get_put, if_neg (by omega)]; rfl)) (F_unif acc) (F_ones acc)
   rw [sanLL_F] at hfr
   have hsp : frz HF (.sl .sh (encAs pr)) = .sl .sh (encAs pr) := rfl
   exact frz_two hfr (by rw [hsp]; simp only [san, sanLL_encAs])
  | false =>
   have hR' : acc ++ [f] = withG Fd.nm strLt f false fs := by rw [← hR]; simp [withG]
   rw [← hR']
   have hgk : ∀ k, k < 8 → ∀ (H' : Heap) (cs : List AV), (appU H' (arrUs A (m + 19) cs)).get k = H'.get k := fun k hk H' cs => arrUs_get (by omega) (hA.no (by omega))
   have hg2 := hgk 2 (by omega)
   have hg6 := hgk 6 (by omega)
   have nb1 : ¬ 6 = m + 19 := by omega
   have nb2 : ¬ 2 = m + 19 := by omega
   simp only [go_sem, simprocAttr, rs, List.length_map, hm, d1, g0, g1, g2, g6, e2, e3, e4, e5, e6, e7, f1, f2, f3, f4, hA1, bsF, ap1, hg2, hg6]
   refine ⟨_, rfl, ?_⟩
   generalize hHF : Heap.put _ 2 _ = HF
   have hfr := frz_arr (H' := HF) (lo := 8) (sz := 3) (A := .ar (m + 19) 0 (acc.length + 1) 3) (es := (acc ++ [f]).map encF) (.inr ⟨m + 19, by simp, by simp, by rw [← hHF]; simp only [go_sem, simprocAttr, arrUs_new, nb1, nb2], by omega, by rw [← hHF]; simp only [go_sem, simprocAttr, hm] <;> omega⟩) (F_unif _) (F_ones _)
   rw [sanLL_F] at hfr
   have hsp : frz HF (.sl .sh (encAs pr)) = .sl .sh (encAs pr) := rfl
   exact frz_two hfr (by rw [hsp]; simp only [san, sanLL_encAs])
end Go.Proofs.YtnoahchdmkpleaaGreat.VA
