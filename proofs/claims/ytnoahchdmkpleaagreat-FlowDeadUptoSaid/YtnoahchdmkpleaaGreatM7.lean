/- What is proved: number.all yields a tree's statements, in order. Condition: what the loop's body keeps.
What is proved: number.Count and number.Sites, at a tree of statements in memory: how many there are, and how many are of one kind. Condition: not more than 10^9.
What is proved: number.Count and number.Sites are told to the abstract interpreter (VA). Condition: not more than 10^9 statements.
What is said: tables of the abstract interpreter (VA) in which the kernel itself can reckon closed calls of the flow. No condition.
What is proved: the flow's fixed calls, reckoned by the kernel. No condition.
What is proved: facts on this program's types, for the flow. No condition.
What is said: trees of statements as data; the table for the flow; number.Count and number.Sites there. No condition.
What is proved: what a condition needs at the Dead state: nothing; in the abstract interpreter (VA). Condition: no longer lists than a machine holds.
What is proved: a flow behind another one, where no casts and no faults are, in the abstract interpreter (VA). Condition: no longer lists than a machine holds.
What is proved: two flows joined, from the Dead state, in the abstract interpreter (VA). Condition: no longer lists than a machine holds.
What is proved: the flow of a simple statement, from the Dead state, in the abstract interpreter (VA). Condition: no longer lists than a machine holds.
What is proved: the flow of a branch, from the Dead state, in the abstract interpreter (VA), if that of its blocks is. Condition: no longer lists than a machine holds.
What is proved: the flow of a loop, from the Dead state, in the abstract interpreter (VA), if that of its body is. Condition: no longer lists than a machine holds.
What is proved: flow.Loops and the reference's depth answer at any block, in the abstract interpreter (VA). Condition: no longer lists than a machine holds.
What is proved: the reference's list of all statements, in the abstract interpreter (VA). Condition: no longer lists than a machine holds. -/
import Derived.Test.YtnoahchdmkpleaaGreatM6
import Derived.Test.YtnoahchdmkpleaaGreatM1
import Derived.Test.YtnoahchdmkpleaaGreatProg
import Derived.Shelf.Abstract
import Derived.WalkKit
import Derived.OwnWalkIn
import Derived.TacticsInMore
import Derived.LoopNIn
import Derived.LoopIn
import Derived.RangeFuncBox
import Derived.RangeFuncCalls
import Derived.Test.YtnoahchdmkpleaaGreatM4
/-! Rf2 -/
namespace Go.Proofs.YtnoahchdmkpleaaGreat.RF
open Go Go.RowKit Go.Proofs.YtnoahchdmkpleaaGreat.VA
set_option linter.unusedSimpArgs false
set_option linter.unusedVariables false
attribute [local go_sem] Oper.semAt_some

theorem size_putObj (W : World) (l : Nat) (o : Obj) : (W.putObj l o).heap.size = W.heap.size := by simp [World.putObj]
/-- Cells stay, but for one block's. -/
structure KC (B : Nat) (W W' : World) : Prop where
 size : W.heap.size ≤ W'.heap.size
 drawn : W'.drawn = W.drawn
 keep : ∀ b o, b ≠ B → W.heap[b]? = some o → o.isCells = true → W'.heap[b]? = some o
theorem KC.refl (B : Nat) (W : World) : KC B W W := ⟨Nat.le_refl _, rfl, fun _ _ _ h _ => h⟩
theorem KC.trans {B : Nat} {W1 W2 W3 : World} (h : KC B W1 W2) (k : KC B W2 W3) : KC B W1 W3 :=
 ⟨Nat.le_trans h.size k.size, k.drawn.trans h.drawn, fun b o hb ho hc => k.keep b o hb (h.keep b o hb ho hc) hc⟩
theorem KC.alloc (B : Nat) (W : World) (o : Obj) : KC B W (W.alloc o) :=
 ⟨by simp, rfl, fun b x _ h _ => by
  have hlt := (Array.getElem?_eq_some_iff.1 h).1
  rw [← h]; exact Below.heap_alloc W o b hlt⟩
theorem KC.putObj {B : Nat} {W : World} {l : Nat} {o : Obj} (o' : Obj) (h : W.heap[l]? = some o) (ho : o.isCells = false) : KC B W (W.putObj l o') :=
 ⟨by rw [size_putObj]; exact Nat.le_refl _, rfl, fun b x _ hb hc => by
  have : l ≠ b := by rintro rfl; rw [h] at hb; cases hb; rw [ho] at hc; cases hc
  exact (World.putObj_heap_other (Ne.symm this)).trans hb⟩
theorem KC.cell {B : Nat} {W W' : World} (h : KC B W W') {b i : Nat} {v : Value} (hb : b ≠ B) (hc : W.cell? ⟨b, i, none⟩ = some v) : W'.cell? ⟨b, i, none⟩ = some v := by
 unfold World.cell? at hc ⊢
 split at hc
 ·rename_i vs t q hh
  rw [h.keep b _ hb hh rfl]
  exact hc
 ·cases hc
mutual
theorem AtT.kept {n B : Nat} (hn : n ≤ B) {A C : World} (h : KC B A C) : ∀ (t : GT) {b o : Nat}, b < n → AtT n A b o t → AtT n C b o t
 | .node y th el, b, o, hb, ht => by
  simp only [AtT] at ht ⊢
  obtain ⟨c0, c1, c2, c3, c4, c5, c6, c7, s1, s2⟩ := ht
  have k : ∀ {i v}, A.cell? ⟨b, i, none⟩ = some v → C.cell? ⟨b, i, none⟩ = some v := fun hc => h.cell (by omega) hc
  exact ⟨k c0, k c1, k c2, k c3, k c4, k c5, k c6, k c7,
   s1.mono fun b' o' h' => ⟨h'.1, AtE.kept hn h th h'.1 h'.2⟩, s2.mono fun b' o' h' => ⟨h'.1, AtE.kept hn h el h'.1 h'.2⟩⟩
theorem AtE.kept {n B : Nat} (hn : n ≤ B) {A C : World} (h : KC B A C) : ∀ (l : List GT) {b o : Nat}, b < n → AtE n A b o l → AtE n C b o l
 | [], _, _, _, _ => by simp only [AtE]
 | t :: l, b, o, hb, ht => by
  simp only [AtE] at ht ⊢
  exact ⟨AtT.kept hn h t hb ht.1, AtE.kept hn h l hb ht.2⟩
end
theorem AtS.kept {n B : Nat} (hn : n ≤ B) {A C : World} (h : KC B A C) {v : Value} {l : List GT} (hs : AtS n A v l) : AtS n C v l :=
 Sli.mono hs fun _ _ h' => ⟨h'.1, AtE.kept hn h l h'.1 h'.2⟩
/-- An operation that is no call, by what it does. -/
theorem wpIn_run {F : Fence} {n : Nat} {P : Program} {o : Oper} {a : Act} {w w' : World} {K : Act → World → Prop} {Q : Exit → Act → World → Prop} {nx : Next} {v : Value} (ha : o.about P w a.eval = none) (hd : ∀ c, o.op ≠ .defer c)
  (h : (execOp a.eval o).run P w = .ok nx w') (hn : nx = .value v ∨ nx = .skip ∧ v = undef) (hk : K (a.put o.dst v) w') : o.wpIn F n P a w K Q := by
 refine ⟨fun f hf => (by rw [ha] at hf; cases hf), ?_⟩
 rw [Oper.semAt_eq _ _ _ hd, h]
 rcases hn with rfl | ⟨rfl, rfl⟩ <;> exact hk
theorem wpListIn_run {F : Fence} {n : Nat} {P : Program} {ops : Array Oper} {Q : Exit → Act → World → Prop} {rest : List Oper} {o : Oper} {a : Act} {w w' : World} {nx : Next} {v : Value} (hw : Region.wanted o (yielded ops a.tmps) = true) (ha : o.about P w a.eval = none) (hd : ∀ c, o.op ≠ .defer c)
  (h : (execOp a.eval o).run P w = .ok nx w') (hn : nx = .value v ∨ nx = .skip ∧ v = undef) (hk : wpListIn F n P ops Q rest (a.put o.dst v) w') : wpListIn F n P ops Q (o :: rest) a w :=
 BigFrame.wpListIn_want hw fun _ hK => wpIn_run ha hd h hn (hK _ _ hk)
theorem wpListIn_load {F : Fence} {n : Nat} {P : Program} {ops : Array Oper} {Q : Exit → Act → World → Prop} {rest : List Oper} {o : Oper} {a : Act} {w : World} {t : TypeId} {x : Operand} {v : Value} {p : Addr} (ho : o.op = .load t x) (hx : a.eval x = .pointer (some p)) (hw : Region.wanted o (yielded ops a.tmps) = true)
  (h : (loadVar t p).run P w = .ok v w) (hk : wpListIn F n P ops Q rest (a.put o.dst v) w) : wpListIn F n P ops Q (o :: rest) a w := by
 refine wpListIn_run hw ?_ ?_ (nx := .value v) ?_ (.inl rfl) hk
 ·unfold Oper.about; rw [ho]
 ·intro c hc; rw [ho] at hc; cases hc
 ·simp [execOp, ho, hx, Instr.loadAt, Instr.sureAddr, h]
theorem wpListIn_alloc {F : Fence} {n : Nat} {P : Program} {ops : Array Oper} {Q : Exit → Act → World → Prop} {rest : List Oper} {o : Oper} {a : Act} {w w' : World} {t : TypeId} {v : Value} (ho : o.op = .alloc t) (hw : Region.wanted o (yielded ops a.tmps) = true)
  (h : (execOp a.eval o).run P w = .ok (.value v) w') (hk : wpListIn F n P ops Q rest (a.put o.dst v) w') : wpListIn F n P ops Q (o :: rest) a w := by
 refine wpListIn_run hw ?_ ?_ (nx := .value v) h (.inl rfl) hk
 ·unfold Oper.about; rw [ho]
 ·intro c hc; rw [ho] at hc; cases hc
theorem wpListIn_store {F : Fence} {n : Nat} {P : Program} {ops : Array Oper} {Q : Exit → Act → World → Prop} {rest : List Oper} {o : Oper} {a : Act} {w w' : World} {t : TypeId} {x z : Operand} {u v : Value} (ho : o.op = .store t x z) (hx : a.eval x = u) (hz : a.eval z = v) (hw : Region.wanted o (yielded ops a.tmps) = true)
  (h : (Instr.storeAt t u v).run P w = .ok () w') (hk : wpListIn F n P ops Q rest (a.put o.dst undef) w') : wpListIn F n P ops Q (o :: rest) a w := by
 refine wpListIn_run hw ?_ ?_ (nx := .skip) ?_ (.inr ⟨rfl, rfl⟩) hk
 ·unfold Oper.about; rw [ho]
 ·intro c hc; rw [ho] at hc; cases hc
 ·subst hx; subst hz
  simp [execOp, ho, h]
/-- A new block, of which each cell is written. -/
theorem store_new {P : Program} {w : World} {t t' : TypeId} {zs vs : Array Value} {n : Nat} (hs : tSize P t = some n) (hz : zs.size = n) (hv : vs.size = n) (h1 : ∀ v, v ∈ vs.toList → v.oneCell' = true) :
  (Instr.storeAt t (.pointer (some ⟨w.heap.size, 0, none⟩)) (.agg vs)).run P (w.alloc (.cells zs t')) = .ok () (w.alloc (.cells vs t')) := by
 have hst := run_storeCells_at (P := P) w.heap.size 0 t' vs.toList 0 zs (w.alloc (.cells zs t')) (World.alloc_heap_new w _) (by simp; omega) h1
 simp only [Instr.storeAt, Instr.sureAddr, storeVar, Sem.run_bind, Sem.run_pure, Result.andThen_ok, tSize_run hs]
 rw [if_neg (by simp [Value.cells, hv])]
 simp only [Value.cells]
 have hl : vs.toList.length = n := by simpa using hv
 have e : (zs.toList.take (0 + 0) ++ vs.toList ++ zs.toList.drop (0 + 0 + vs.toList.length)).toArray = vs := by
  rw [hl]
  have : zs.toList.drop (0 + 0 + n) = [] := by apply List.drop_eq_nil_of_le; simp; omega
  rw [this]; simp
 rw [e] at hst
 rw [hst]
 congr 1
 simp only [World.setRow, World.alloc]
 congr 1
 apply Array.ext_getElem?
 intro i
 rw [Array.getElem?_modify]
 by_cases hi : w.heap.size = i
 ·subst hi; simp
 ·rw [if_neg hi]
  by_cases hlt : i < w.heap.size
  ·rw [Array.getElem?_push_lt hlt, Array.getElem?_push_lt hlt]
  ·rw [Array.getElem?_eq_none (by simp; omega), Array.getElem?_eq_none (by simp; omega)]
theorem agg_stm : tAgg Tryz.prog 31 = some true := by kernel_rfl
theorem siz_stm : tSize Tryz.prog 31 = some 8 := by kernel_rfl
theorem agg_sStm : tAgg Tryz.prog 29 = some false := by kernel_rfl
/-- A whole statement is loaded. -/
theorem load_stm {w : World} {b o : Nat} (y : Y) (c0 : w.cell? ⟨b, o, none⟩ = some (.int .i64 y.op)) (c1 : w.cell? ⟨b, o + 1, none⟩ = some y.v1) (c2 : w.cell? ⟨b, o + 2, none⟩ = some y.v2) (c3 : w.cell? ⟨b, o + 3, none⟩ = some y.v3)
  (c4 : w.cell? ⟨b, o + 4, none⟩ = some y.v4) (c5 : w.cell? ⟨b, o + 5, none⟩ = some y.v5) (c6 : w.cell? ⟨b, o + 6, none⟩ = some y.th) (c7 : w.cell? ⟨b, o + 7, none⟩ = some y.el) :
  (loadVar 31 ⟨b, o, none⟩).run Tryz.prog w = .ok y.enc w := by
 simp only [loadVar, Sem.run_bind, tAgg_run agg_stm, Result.andThen_ok, if_true, tSize_run siz_stm]
 rw [run_loadCells w ⟨b, o, none⟩ 8 (fun k => y.vs.getD k undef) (fun j hj => by
  rw [addr_add]
  have : j = 0 ∨ j = 1 ∨ j = 2 ∨ j = 3 ∨ j = 4 ∨ j = 5 ∨ j = 6 ∨ j = 7 := by omega
  rcases this with rfl | rfl | rfl | rfl | rfl | rfl | rfl | rfl <;> simp [Y.vs, *])]
 rfl
theorem ordL_ge : ∀ (l : List GT), l.length ≤ (ordL l).length
 | [] => Nat.le_refl _
 | .node y th el :: l => by
  have := ordL_ge l
  simp only [ordL, ordT, List.length_cons, List.length_append]
  omega
theorem pfx {gs : List GT} {j : Nat} {y : Y} {th el : List GT} (ht : gs[j]? = some (.node y th el)) {q : List Y} (hq : q <+: y :: (ordL th ++ ordL el)) : ordL (gs.take j) ++ q <+: ordL gs := by
 refine List.IsPrefix.trans ?_ (ordL_prefix gs (j + 1))
 rw [ordL_take_succ ht, ordT]
 exact (List.prefix_append_right_inj _).2 hq
set_option maxRecDepth 100000 in
set_option maxHeartbeats 2000000 in
theorem all_in (F : Fence) (hd : F.depth = none) (hf : F.fn 190) (hro : F.round = none) (l n B N : Nat) (hnB : n ≤ B) (hN : N ≤ 1000000000) (J Jx : List Y → World → Prop)
  (hJa : ∀ s W o, J s W → J s (W.alloc o))
  (hY : ∀ m pre y W, J pre W → pre.length < N → YieldAt F m Tryz.prog l #[y.enc] W fun e W' =>
   (e = .returned (.bool true) ∧ J (pre ++ [y]) W' ∧ KC B W W') ∨ (e = .returned (.bool false) ∧ Jx (pre ++ [y]) W')) : ∀ (k : Nat) (gs : List GT), depL gs < k →
  ∀ (n' : Nat) (v : Value) (pre : List Y) (W : World), AtS n W v gs → J pre W → B < W.heap.size → pre.length + (ordL gs).length ≤ N →
   CallsIn F n' Tryz.prog 190 #[v, .func (.yield l) #[] #[]] W fun e W' =>
    (e = .returned (.bool true) ∧ J (pre ++ ordL gs) W' ∧ KC B W W') ∨ (e = .returned (.bool false) ∧ ∃ q, q <+: ordL gs ∧ Jx (pre ++ q) W') := by
 intro k
 induction k with
 | zero => intro gs hdep; omega
 | succ k ih =>
  intro gs hdep n' v pre W hs hJ hB hlen
  obtain ⟨a0, cap, rfl, hat⟩ := hs
  have hdd : ∀ k : Nat, (F.depth.isSome = true → 1 ≤ k) := fun k h => by rw [hd] at h; cases h
  refine callsIn_of_wp Tryz.func190 rfl hf ?_ hro
  simp only [Tryz.ntmps190, List.size_toArray, List.length_cons, List.length_nil, Nat.reduceAdd, Nat.reduceSub, Array.replicate_succ, Array.replicate_zero, List.push_toArray, List.append_toArray, List.nil_append, List.cons_append]
  gi_wp2
  gi_loopw [9] (fun i wr => ∃ j : Nat, j ≤ gs.length ∧ i = .int .i64 j ∧ J (pre ++ ordL (gs.take j)) wr ∧ KC B W wr) (fun i _ => gs.length - (intOf i).toNat)
  case atStart => exact ⟨0, Nat.zero_le _, rfl, by simpa [ordL] using hJ, KC.refl _ _⟩
  case round =>
   obtain ⟨j, hj, rfl, hJs, hnx⟩ := hrel
   have hlg : gs.length < 1000000001 := by have := ordL_ge gs; omega
   by_cases hlt : j < gs.length
   ·obtain ⟨b, o, rfl, hbn, hE⟩ := hat (by omega)
    obtain ⟨y, th, el, ht⟩ : ∃ y th el, gs[j]? = some (.node y th el) := by
     cases h : gs[j] with | node y th el => exact ⟨y, th, el, by rw [List.getElem?_eq_getElem hlt, h]⟩
    have hT := AtT.kept hnB hnx _ hbn (AtE.get j _ hE ht)
    simp only [AtT] at hT
    obtain ⟨c0, c1, c2, c3, c4, c5, c6, c7, s1, s2⟩ := hT
    have hld := load_stm y c0 c1 c2 c3 c4 c5 c6 c7
    clear c0 c1 c2 c3 c4 c5 c6 c7
    have hst := fun zs (hz : zs.size = 8) => store_new (P := Tryz.prog) (w := wr) (t := 31) (t' := 31) (zs := zs) (vs := y.vs) siz_stm hz rfl y.one
    have b0 : ∀ i, (wr.alloc (.cells y.vs 31)).cell? ⟨wr.heap.size, i, none⟩ = y.vs[i]? := fun i => cell_of_row _ _ _ _ _ (0, 0) (World.alloc_heap_new wr _)
    have hld2 := load_stm y (b0 0) (b0 1) (b0 2) (b0 3) (b0 4) (b0 5) (b0 6) (b0 7)
    have hpl := ordL_len_le ht
    have hdt := depL_get ht
    simp only [ordT, depT, List.length_cons, List.length_append] at hpl hdt
    have hbx : wr.heap.size ≠ B := by have := hnx.size; omega
    have hsz : wr.heap.size + 1 = (wr.alloc (.cells y.vs 31)).heap.size := by simp
    obtain ⟨W2, hW2⟩ : ∃ W2, wr.alloc (.cells y.vs 31) = W2 := ⟨_, rfl⟩
    have hk2 : KC B wr W2 := by rw [← hW2]; exact KC.alloc _ _ _
    have hJ2 : J (pre ++ ordL (gs.take j)) W2 := by rw [← hW2]; exact hJa _ _ _ hJs
    have hy2 : YieldAt F (n' - 1) Tryz.prog l #[y.enc] W2 fun e W3 => (e = .returned (.bool true) ∧ J (pre ++ ordL (gs.take j) ++ [y]) W3 ∧ KC B W2 W3 ∧ W3.cell? ⟨wr.heap.size, 6, none⟩ = some y.th) ∨ (e = .returned (.bool false) ∧ Jx (pre ++ ordL (gs.take j) ++ [y]) W3) :=
     YieldAt.mono (hY (n' - 1) _ y W2 hJ2 (by simp; omega)) fun e W3 h => h.elim (fun ⟨he, hj, hk⟩ => .inl ⟨he, hj, hk, hk.cell hbx (by rw [← hW2]; exact b0 6)⟩) .inr
    have ih1 : ∀ W3, J (pre ++ ordL (gs.take j) ++ [y]) W3 → KC B W2 W3 → CallsIn F (n' - 1) Tryz.prog 190 #[y.th, .func (.yield l) #[] #[]] W3 fun e W4 =>
      (e = .returned (.bool true) ∧ J (pre ++ ordL (gs.take j) ++ [y] ++ ordL th) W4 ∧ KC B W2 W4 ∧ W4.cell? ⟨wr.heap.size, 7, none⟩ = some y.el) ∨ (e = .returned (.bool false) ∧ ∃ q, q <+: ordL th ∧ Jx (pre ++ ordL (gs.take j) ++ [y] ++ q) W4) := fun W3 hJ3 hk3 =>
     (ih th (by omega) (n' - 1) y.th _ W3 (AtS.kept hnB (hk2.trans hk3) s1) hJ3 (by have := hnx.size; have := hk2.size; have := hk3.size; omega) (by simp; omega)).mono fun e W4 h => h.elim
      (fun ⟨he, hj, hk⟩ => .inl ⟨he, hj, hk3.trans hk, (hk3.trans hk).cell hbx (by rw [← hW2]; exact b0 7)⟩) .inr
    have ih2 : ∀ W4, J (pre ++ ordL (gs.take j) ++ [y] ++ ordL th) W4 → KC B W2 W4 → CallsIn F (n' - 1) Tryz.prog 190 #[y.el, .func (.yield l) #[] #[]] W4 fun e W5 =>
      (e = .returned (.bool true) ∧ J (pre ++ ordL (gs.take j) ++ [y] ++ ordL th ++ ordL el) W5 ∧ KC B W2 W5) ∨ (e = .returned (.bool false) ∧ ∃ q, q <+: ordL el ∧ Jx (pre ++ ordL (gs.take j) ++ [y] ++ ordL th ++ q) W5) := fun W4 hJ4 hk4 =>
     (ih el (by omega) (n' - 1) y.el _ W4 (AtS.kept hnB (hk2.trans hk4) s2) hJ4 (by have := hnx.size; have := hk2.size; have := hk4.size; omega) (by simp; omega)).mono fun e W5 h => h.elim
      (fun ⟨he, hj, hk⟩ => .inl ⟨he, hj, hk4.trans hk⟩) .inr
    clear hY ih s1 s2
    rw [hW2] at hld2
    simp only [hW2] at hst
    obtain ⟨fn, tmps, assign, body, hy, hR⟩ := hy2
    gi_wp2_with (first
     | refine wpListIn_load (t := 31) rfl rfl rfl hld ?_
     | refine wpListIn_store (t := 31) rfl rfl rfl rfl (hst _ rfl) ?_
     | refine wpListIn_load (t := 31) rfl rfl rfl hld2 ?_
     | ((try refine ⟨hdd _, ?_⟩); refine hR.mono ?_; clear hR; rintro e W3 (⟨rfl, hJ3, hk3, c6'⟩ | ⟨rfl, hx3⟩))
     | ((try refine ⟨hdd _, ?_⟩); gi_at_call 190; refine (ih1 _ hJ3 hk3).mono ?_; clear ih1; rintro e W4 (⟨rfl, hJ4, hk4, c7'⟩ | ⟨rfl, q, hq, hx4⟩))
     | ((try refine ⟨hdd _, ?_⟩); gi_at_call 190; refine (ih2 _ hJ4 hk4).mono ?_; clear ih2; rintro e W5 (⟨rfl, hJ5, hk5⟩ | ⟨rfl, q, hq, hx5⟩)))
    ·go_roundw
     case rel => exact ⟨j + 1, by omega, by simp, by rw [ordL_take_succ ht, ordT]; simpa [List.append_assoc] using hJ5, hnx.trans (hk2.trans hk5)⟩
     case measure => simp [intOf]; omega
    ·go_ret
     exact .inr ⟨rfl, _, pfx ht (show y :: (ordL th ++ q) <+: _ from List.cons_prefix_cons.2 ⟨rfl, List.prefix_append_right_inj _ |>.2 hq⟩), by simpa [List.append_assoc] using hx5⟩
    ·go_ret
     exact .inr ⟨rfl, _, pfx ht (show y :: q <+: _ from List.cons_prefix_cons.2 ⟨rfl, hq.trans (List.prefix_append _ _)⟩), by simpa [List.append_assoc] using hx4⟩
    ·go_ret
     exact .inr ⟨rfl, _, pfx ht (show [y] <+: _ from List.cons_prefix_cons.2 ⟨rfl, List.nil_prefix⟩), by simpa [List.append_assoc] using hx3⟩
   ·obtain rfl : j = gs.length := by omega
    gi_wp2
    go_ret
    exact .inl ⟨rfl, by simpa using hJs, hnx⟩
end Go.Proofs.YtnoahchdmkpleaaGreat.RF

/-! Rf3 -/
namespace Go.Proofs.YtnoahchdmkpleaaGreat.RF
open Go Go.RowKit Go.Proofs.YtnoahchdmkpleaaGreat.VA
set_option linter.unusedSimpArgs false
set_option linter.unusedVariables false
attribute [local go_sem] Oper.semAt_some

theorem cell_of_box {W : World} {B : Nat} {v : Value} {t : TypeId} (h : W.heap[B]? = some (.cells #[v] t (0, 0))) : W.cell? ⟨B, 0, none⟩ = some v ∧ W.frozen? ⟨B, 0, none⟩ = false := by
 constructor <;> simp [World.cell?, World.frozen?, h]
theorem cell_new (W : World) (v : Value) (t : TypeId) : (W.alloc (.cells #[v] t)).cell? ⟨W.heap.size, 0, none⟩ = some v ∧ (W.alloc (.cells #[v] t)).frozen? ⟨W.heap.size, 0, none⟩ = false :=
 cell_of_box (World.alloc_heap_new W _)
theorem cell_alloc {W : World} {a : Addr} {v : Value} (o : Obj) (h : W.cell? a = some v) : (W.alloc o).cell? a = some v := cell_kept h (World.grownBy_alloc W o none) (fun r e => by cases e)
theorem frozen_alloc {W : World} {a : Addr} {v : Value} (o : Obj) (h : W.cell? a = some v) (hf : W.frozen? a = false) : (W.alloc o).frozen? a = false := (frozen_kept h (World.grownBy_alloc W o none) (fun r e => by cases e)).trans hf
theorem KC.setCell (W : World) (B i : Nat) (v : Value) : KC B W (W.setCell ⟨B, i, none⟩ v) := by
 refine ⟨by simp [World.setCell], rfl, fun b o hb ho _ => ?_⟩
 rw [← ho]
 exact Below.heap_setCell W _ v b hb
set_option maxHeartbeats 1000000 in
theorem all1_in (F : Fence) (hd : F.depth = none) (n : Nat) (h5 : F.fn 189) (h6 : F.fn 190) (hro : F.round = none) (l Bt n₀ B : Nat) (hB0 : n₀ ≤ B) (v : Value) (gs : List GT) (hN : (ordL gs).length ≤ 1000000000) (J Jx : List Y → World → Prop) (hJa : ∀ s W o, J s W → J s (W.alloc o))
  (hY : ∀ pre y W, J pre W → pre.length < (ordL gs).length → YieldAt F (n - 1) Tryz.prog l #[y.enc] W fun e W' =>
   (e = .returned (.bool true) ∧ J (pre ++ [y]) W' ∧ KC B W W') ∨ (e = .returned (.bool false) ∧ Jx (pre ++ [y]) W'))
  (W : World) (hBt : W.cell? ⟨Bt, 0, none⟩ = some v) (hB : B < W.heap.size) (hT : AtS n₀ W v gs) (h0 : J [] W) :
  CallsIn F n Tryz.prog 189 #[.func (.yield l) #[] #[], .pointer (some ⟨Bt, 0, none⟩)] W fun e W' => (∃ v, e = .returned v) ∧
   ((∃ ys, ys = ordL gs ∧ J ys W') ∨ (∃ pre, pre <+: ordL gs ∧ Jx pre W')) := by
 have hdd : ∀ k : Nat, (F.depth.isSome = true → 1 ≤ k) := fun k h => by rw [hd] at h; cases h
 have hp := all_in F hd h6 hro l n₀ B (ordL gs).length hB0 hN J Jx hJa (fun m pre x W hj hl => YieldAt.anyDepth hd m (hY pre x W hj hl)) (depL gs + 1) gs (by omega) (n - 1) v [] W hT h0 hB (by simp)
 clear hY
 obtain ⟨a, cap, rfl, _⟩ := hT
 refine callsIn_of_wp Tryz.func189 rfl h5 ?_ hro
 simp only [Tryz.ntmps189, List.size_toArray, List.length_cons, List.length_nil, Nat.reduceAdd, Nat.reduceSub, Array.replicate_succ, Array.replicate_zero, List.push_toArray, List.append_toArray, List.nil_append, List.cons_append]
 gi_wp2_with ((try refine ⟨hdd _, ?_⟩); gi_at_call 190; refine hp.mono ?_; clear hp; rintro e W1 (⟨rfl, hJ1, _⟩ | ⟨rfl, q, hq, hx⟩))
 ·go_end0
  exact ⟨⟨_, rfl⟩, .inl ⟨_, rfl, by simpa using hJ1⟩⟩
 ·go_end0
  exact ⟨⟨_, rfl⟩, .inr ⟨q, hq, by simpa using hx⟩⟩
set_option maxHeartbeats 1000000 in
theorem All_in (F : Fence) (n : Nat) (h4 : F.fn 148) (hro : F.round = none) (a : Option Addr) (ln c : Nat) (w : World) :
  CallsIn F n Tryz.prog 148 #[.slice a ln c] w fun e w' => e = .returned (.func (.func 189) #[] #[.pointer (some ⟨w.heap.size, 0, none⟩)]) ∧ w' = w.alloc (.cells #[.slice a ln c] 29) := by
 refine callsIn_of_wp Tryz.func148 rfl h4 ?_ hro
 simp only [Tryz.ntmps148, List.size_toArray, List.length_cons, List.length_nil, Nat.reduceAdd, Nat.reduceSub, Array.replicate_succ, Array.replicate_zero, List.push_toArray, List.append_toArray, List.nil_append, List.cons_append]
 gi_wp2
 go_ret
 exact ⟨rfl, rfl⟩
theorem KC_b {B : Nat} {w : World} (W : World) (l : Nat) (o o' : Obj) (_ : w.heap.size ≤ l) (h : W.heap[l]? = some o) (hc : o.isCells = false) : KC B W (W.putObj l o') := KC.putObj _ h hc
/-- A loop over an iterator whose body always goes on, and draws nothing. -/
theorem range_walk {α : Type} {F : Fence} {n : Nat} {P : Program} {g : Operand} {ps : Array Tmp} {assign body : Code} {Q : Exit → Act → World → Prop} {a : Act} {w : World} (hro : F.round = none) (h1 : 1 ≤ n)
  {gf : Nat} {lb : Array Value} (hg : a.eval g = .func (.func gf) #[] lb) (hFg : F.fn gf) (eg : ∀ args w, (callFunc gf args).run P w = .ok (.enter gf args) w)
  {encs : α → Array Value} (hps : ∀ x, (encs x).size = ps.size) (I : List α → World → Prop) (Ax : α → Act → World → Prop) (Kp : World → World → Prop) (xs : List α) (N : Nat)
  (hIa : ∀ s W o, I s W → I s (W.alloc o)) (hIp : ∀ s W l o o', I s W → w.heap.size ≤ l → W.heap[l]? = some o → o.isCells = false → I s (W.putObj l o'))
  (hAp : ∀ x a' W l o o', Ax x a' W → w.heap.size ≤ l → W.heap[l]? = some o → o.isCells = false → Ax x a' (W.putObj l o'))
  (hKt : ∀ {A B C : World}, Kp A B → Kp B C → Kp A C) (hKp : ∀ (W : World) (l : Nat) (o o' : Obj), w.heap.size ≤ l → W.heap[l]? = some o → o.isCells = false → Kp W (W.putObj l o'))
  (hit : ∀ (l : Nat) (J : List α → World → Prop) (W : World), Below w.heap.size w W → (∀ s W o, J s W → J s (W.alloc o)) →
   (∀ pre x W, J pre W → pre.length < N → YieldAt F (n - 1 - 1) P l (encs x) W fun e W' => e = .returned (.bool true) ∧ J (pre ++ [x]) W' ∧ Kp W W') → J [] W →
   CallsIn F (n - 1) P gf (#[.func (.yield l) #[] #[]] ++ lb) W fun e W' => (∃ v, e = .returned v) ∧ J xs W')
  (h0 : I [] w)
  (hassign : ∀ (l : Nat) (pre : List α) (x : α) (W : World) (K : Act → World → Prop), I pre W → (∀ a' W', KeepsOthers W W' → Kp W W' → I pre W' → Ax x a' W' → K a' W') →
   assign.wpIn (F.inRound l) (n - 1 - 1) P (Exit.then K (fun _ _ _ => False)) { tmps := (ps.zip (encs x)).foldl (fun t (p, v) => t.setIfInBounds p v) a.tmps, defers := [] } W)
  (hbody : ∀ (l : Nat) (pre : List α) (x : α) (a' : Act) (W : World), I pre W → Ax x a' W → pre.length < N → body.wpIn (F.inRound l) (n - 1 - 1) P (fun e _ W' => e = .normal ∧ KeepsOthers W W' ∧ Kp W W' ∧ I (pre ++ [x]) W') a' W)
  (hdone : ∀ (D : Nat) (W : World), w.heap.size ≤ D → I xs W → W.heap[D]? = some (.deferred (some [])) → Q .normal { a with defers := { target := .collected D, args := #[] } :: a.defers } W) :
  (Code.rangeFunc g ps assign body).wpIn F n P Q a w := by
 refine wpIn_rangeFunc fun fn hfn => ?_
 rw [hro]
 let rec_ : LoopState → Loop := fun st => { state := st, pending := none, fn, tmps := a.tmps, params := ps, assign, body, defers := w.heap.size }
 have e1 : ((w.alloc (.deferred (some []))).alloc (.loop (rec_ .ready))).heap[w.heap.size + 1]? = some (.loop (rec_ .ready)) := by
  have := World.alloc_heap_new (w.alloc (.deferred (some []))) (.loop (rec_ .ready)); rwa [World.size_alloc] at this
 have e2 : ((w.alloc (.deferred (some []))).alloc (.loop (rec_ .ready))).heap[w.heap.size]? = some (.deferred (some [])) :=
  (Below.heap_alloc _ _ _ (by simp)).trans (World.alloc_heap_new w _)
 have e3 : I [] ((w.alloc (.deferred (some []))).alloc (.loop (rec_ .ready))) := hIa _ _ _ (hIa _ _ _ h0)
 have e4 : Below w.heap.size w ((w.alloc (.deferred (some []))).alloc (.loop (rec_ .ready))) := ((Below.refl _ w).alloc (Nat.le_refl _) _).alloc (by simp) _
 refine ⟨w.heap.size + 1, [{ target := .collected w.heap.size, args := #[] }], (w.alloc (.deferred (some []))).alloc (.loop (rec_ .ready)), { target := .fn (.func gf) lb, args := #[.func (.yield (w.heap.size + 1)) #[] #[]] },
  (w.alloc (.deferred (some []))).alloc (.loop (rec_ .ready)), gf, #[.func (.yield (w.heap.size + 1)) #[] #[]] ++ lb, (w.alloc (.deferred (some []))).alloc (.loop (rec_ .ready)), run_enterLoop_outer _ _ _ _ _, ?_, ?_, ?_, fun _ => h1, ?_⟩
 ·simp only [resolve, hg]
  simp [go_sem]
 ·intro f' hf'; simp [Target.leads] at hf'; subst hf'; exact hFg
 ·simp [invoke, go_sem, eg]
 ·refine (hit (w.heap.size + 1) (fun pre W => I pre W ∧ W.heap[w.heap.size + 1]? = some (.loop (rec_ .ready)) ∧ W.heap[w.heap.size]? = some (.deferred (some []))) _ e4 ?_ ?_ ⟨e3, e1, e2⟩).mono ?_
  ·rintro s W o ⟨i1, i2, i3⟩
   exact ⟨hIa _ _ _ i1, (Below.heap_alloc W o _ (Array.getElem?_eq_some_iff.1 i2).1).trans i2, (Below.heap_alloc W o _ (Array.getElem?_eq_some_iff.1 i3).1).trans i3⟩
  ·rintro pre x W ⟨i1, i2, i3⟩ hlen
   refine ⟨fn, _, assign, body, run_yield (P := P) (args := encs x) i2 (hps x), roundIn_of_wpIn hfn (hassign _ pre x W _ i1 ?_)⟩
   intro a' W2 k1 k2 i4 ax
   have j2 := k1.same _ _ i2 rfl
   have j3 := k1.same _ _ i3 rfl
   refine ⟨_, run_beginRound j2 rfl, ?_⟩
   have hlt := (Array.getElem?_eq_some_iff.1 j2).1
   have l2 : (W2.putObj (w.heap.size + 1) (.loop { rec_ .ready with state := .busy })).heap[w.heap.size + 1]? = some (.loop { rec_ .ready with state := .busy }) := World.putObj_heap_same hlt
   have l3 : (W2.putObj (w.heap.size + 1) (.loop { rec_ .ready with state := .busy })).heap[w.heap.size]? = some (.deferred (some [])) := (World.putObj_heap_other (by omega)).trans j3
   refine wpIn_mono (hbody _ pre x a' _ (hIp _ _ _ _ _ i4 (by omega) j2 rfl) (hAp _ _ _ _ _ _ ax (by omega) j2 rfl) hlen) ?_
   rintro e a3 W3 ⟨rfl, k3, k4, i5⟩
   have m2 := k3.same _ _ l2 rfl
   have m3 := k3.same _ _ l3 rfl
   have hr := run_endRound (P := P) none m2
   exact ⟨_, _, hr, rfl, ⟨hIp _ _ _ _ _ i5 (by omega) m2 rfl, World.putObj_heap_same (Array.getElem?_eq_some_iff.1 m2).1, (World.putObj_heap_other (by omega)).trans m3⟩,
    hKt k2 (hKt (hKp _ _ _ _ (by omega) j2 rfl) (hKt k4 (hKp _ _ _ _ (by omega) m2 rfl)))⟩
  ·rintro e W2 ⟨⟨v, rfl⟩, i1, i2, i3⟩
   exact ⟨none, _, run_endLoop (P := P) i2 (by simp [rec_]), hdone _ _ (Nat.le_refl _) (hIp _ _ _ _ _ i1 (by omega) i2 rfl) ((World.putObj_heap_other (by omega)).trans i3)⟩
theorem all_it (F : Fence) (hd : F.depth = none) (n : Nat) (h5 : F.fn 189) (h6 : F.fn 190) (hro : F.round = none) (Bt B : Nat) (v : Value) (gs : List GT) (hN : (ordL gs).length ≤ 1000000000) (w : World) (n₀ : Nat) (hBt : Bt < w.heap.size) (hB0 : n₀ ≤ B) (hB : B < w.heap.size)
  (hc : w.cell? ⟨Bt, 0, none⟩ = some v) (hT : AtS n₀ w v gs) (l : Nat) (J : List Y → World → Prop) (W : World) (hW : Below w.heap.size w W) (hJa : ∀ s W o, J s W → J s (W.alloc o))
  (hY : ∀ pre y W, J pre W → pre.length < (ordL gs).length → YieldAt F (n - 1) Tryz.prog l #[y.enc] W fun e W' => e = .returned (.bool true) ∧ J (pre ++ [y]) W' ∧ KC B W W') (h0 : J [] W) :
  CallsIn F n Tryz.prog 189 (#[.func (.yield l) #[] #[]] ++ #[.pointer (some ⟨Bt, 0, none⟩)]) W fun e W' => (∃ v, e = .returned v) ∧ J (ordL gs) W' :=
 (all1_in F hd n h5 h6 hro l Bt n₀ B hB0 v gs hN J (fun _ _ => False) hJa (fun pre y W h1 h2 => YieldAt.mono (hY pre y W h1 h2) fun _ _ h => .inl h) W ((hW.cell (p := ⟨Bt, 0, none⟩) hBt).trans hc) (by have := hW.size; omega) (AtS.below (hW.mono (by omega)) hT) h0).mono
  fun e W' h => ⟨h.1, h.2.elim (fun ⟨ys, h1, hj⟩ => h1 ▸ hj) (fun ⟨_, _, hf⟩ => hf.elim)⟩
theorem cell_put {W : World} {l : Nat} {o o' : Obj} {a : Addr} {v : Value} (h : W.cell? a = some v) (hl : W.heap[l]? = some o) (ho : o.isCells = false) : (W.putObj l o').cell? a = some v ∧ (W.putObj l o').frozen? a = W.frozen? a :=
 ⟨cell_kept h (grownBy_putObj' W l o') (fun r e => by cases e; exact ⟨o, hl, ho⟩), frozen_kept h (grownBy_putObj' W l o') (fun r e => by cases e; exact ⟨o, hl, ho⟩)⟩
theorem below_put {W w : World} {l : Nat} {o o' : Obj} (h : Below w.heap.size w W) (hl : w.heap.size ≤ l) (hh : W.heap[l]? = some o) : Below w.heap.size w (W.putObj l o') :=
 ⟨h.os, h.tape, h.output, by rw [size_putObj]; exact h.size, fun k hk => (World.putObj_heap_other (by omega)).trans (h.block k hk)⟩
set_option maxRecDepth 100000 in
set_option maxHeartbeats 2000000 in
/-- number.Count -/
theorem Count_in (F : Fence) (hd : F.depth = none) (n : Nat) (h3 : F.fn 99) (h4 : F.fn 148) (h5 : F.fn 189) (h6 : F.fn 190) (hro : F.round = none) (hn : 3 ≤ n) (v : Value) (gs : List GT) (hN : (ordL gs).length ≤ 1000000000) (w : World) (hL : AtS w.heap.size w v gs) :
  CallsIn F n Tryz.prog 99 #[v] w fun e W' => e = .returned (.int .i64 (ordL gs).length) ∧ Below w.heap.size w W' ∧ W'.drawn = w.drawn := by
 have h1 : 1 ≤ n := by omega
 obtain ⟨va, vcap, hv⟩ : ∃ a cap, v = .slice a gs.length cap := by obtain ⟨a, cap, hv, _⟩ := hL; exact ⟨a, cap, hv⟩
 subst hv
 refine callsIn_of_wp_marks Tryz.func99 rfl h3 ?_ hro
 simp only [Tryz.ntmps99, List.size_toArray, List.length_cons, List.length_nil, Nat.reduceAdd, Nat.reduceSub, Array.replicate_succ, Array.replicate_zero, List.push_toArray, List.append_toArray, List.nil_append, List.cons_append]
 gi_wp2_with (gi_at_call 148; refine (All_in F (n - 1) h4 hro _ _ _ _).mono ?_; rintro e w' ⟨rfl, rfl⟩)
 have hs := cell_new w (.int .i64 0) 3
 have hb := cell_new (w.alloc (.cells #[.int .i64 0] 3)) (.slice va gs.length vcap) 29
 rw [World.size_alloc] at hb
 have hB0 : Below w.heap.size w ((w.alloc (.cells #[.int .i64 0] 3)).alloc (.cells #[.slice va gs.length vcap] 29)) := ((Below.refl _ w).alloc (Nat.le_refl _) _).alloc (by simp) _
 refine range_walk hro h1 (gf := 189) (lb := #[.pointer (some ⟨w.heap.size + 1, 0, none⟩)]) rfl h5 (enters_of Tryz.func189 (by kernel_rfl) rfl) (encs := fun y : Y => #[y.enc]) (fun _ => rfl)
  (fun pre W => (W.cell? ⟨w.heap.size, 0, none⟩ = some (.int .i64 pre.length) ∧ W.frozen? ⟨w.heap.size, 0, none⟩ = false) ∧ Below w.heap.size w W ∧ W.drawn = w.drawn)
  (fun x a' _ => a' = { tmps := #[.slice va gs.length vcap, undef, .int .i64 0, .pointer (some ⟨w.heap.size, 0, none⟩), .slice va gs.length vcap, .func (.func 189) #[] #[.pointer (some ⟨w.heap.size + 1, 0, none⟩)], x.enc, undef, undef, undef], defers := [] })
  (KC w.heap.size) (ordL gs) (ordL gs).length
  (fun s W o ⟨⟨i1, i2⟩, i3, i4⟩ => ⟨⟨cell_alloc _ i1, frozen_alloc _ i1 i2⟩, i3.alloc i3.size _, i4⟩)
  (fun s W l o o' ⟨⟨i1, i2⟩, i3, i4⟩ hl hh ho => ⟨⟨(cell_put i1 hh ho).1, (cell_put i1 hh ho).2.trans i2⟩, below_put i3 (by simp at hl; omega) hh, i4⟩)
  (fun x a' W l o o' h _ _ _ => h) KC.trans KC_b
  (fun l J W hW hJa hY h0 => all_it F hd (n - 1) h5 h6 hro (w.heap.size + 1) w.heap.size _ gs hN _ w.heap.size (by simp) (Nat.le_refl _) (by simp; omega) hb.1 (hL.below hB0) l J W hW hJa hY h0)
  ⟨⟨cell_alloc _ hs.1, frozen_alloc _ hs.1 hs.2⟩, hB0, rfl⟩ ?assign ?body ?done
 case assign =>
  intro l pre x W K hi hK
  have hK' := hK _ W (KeepsOthers.refl _) (KC.refl _ _) hi rfl
  gi_wp2
  first | exact hK' | simpa using hK'
 case body =>
  rintro l pre x a' W ⟨⟨hc, hf⟩, hB, hdr⟩ rfl hlt
  have hlt2 : (pre.length : Int) < 1000000000 := by omega
  gi_wp2
  exact ⟨KeepsOthers.setCell _ _ _, KC.setCell _ _ _ _, hB.setCell (p := ⟨w.heap.size, 0, none⟩) (Nat.le_refl _) _⟩
 case done =>
  rintro D W hD ⟨⟨hc, _⟩, hB, hdr⟩ hK
  gi_wp2
  refine ⟨by simp, .inl ⟨_, _, rfl, run_takeDeferred hK, ?_⟩⟩
  exact ⟨_, results_tmp rfl _ _ _, rfl, hB.trans (belowK_b (w := w) (Nat.le_refl _) W D _ _ (by simp at hD; omega) hK rfl rfl), hdr⟩
def sitY (l : List Y) : Nat := (l.filter fun y => decide (y.op = 4)).length
theorem sitY_snoc (l : List Y) (y : Y) : sitY (l ++ [y]) = sitY l + if y.op = 4 then 1 else 0 := by
 simp only [sitY, List.filter_append, List.length_append, List.filter_cons, List.filter_nil]
 by_cases h : y.op = 4 <;> simp [h]
theorem sitY_le (l : List Y) : sitY l ≤ l.length := List.length_filter_le _ _
set_option maxRecDepth 100000 in
set_option maxHeartbeats 4000000 in
/-- number.Sites -/
theorem Sites_in (F : Fence) (hd : F.depth = none) (n : Nat) (h3 : F.fn 100) (h4 : F.fn 148) (h5 : F.fn 189) (h6 : F.fn 190) (hro : F.round = none) (hn : 3 ≤ n) (v : Value) (gs : List GT) (hN : (ordL gs).length ≤ 1000000000) (w : World) (hL : AtS w.heap.size w v gs) :
  CallsIn F n Tryz.prog 100 #[v] w fun e W' => e = .returned (.int .i64 (sitY (ordL gs))) ∧ Below w.heap.size w W' ∧ W'.drawn = w.drawn := by
 have h1 : 1 ≤ n := by omega
 obtain ⟨va, vcap, hv⟩ : ∃ a cap, v = .slice a gs.length cap := by obtain ⟨a, cap, hv, _⟩ := hL; exact ⟨a, cap, hv⟩
 subst hv
 refine callsIn_of_wp_marks Tryz.func100 rfl h3 ?_ hro
 simp only [Tryz.ntmps100, List.size_toArray, List.length_cons, List.length_nil, Nat.reduceAdd, Nat.reduceSub, Array.replicate_succ, Array.replicate_zero, List.push_toArray, List.append_toArray, List.nil_append, List.cons_append]
 gi_wp2_with (gi_at_call 148; refine (All_in F (n - 1) h4 hro _ _ _ _).mono ?_; rintro e w' ⟨rfl, rfl⟩)
 have hs := cell_new w (.int .i64 0) 3
 have hb := cell_new (w.alloc (.cells #[.int .i64 0] 3)) (.slice va gs.length vcap) 29
 rw [World.size_alloc] at hb
 have hB0 : Below w.heap.size w ((w.alloc (.cells #[.int .i64 0] 3)).alloc (.cells #[.slice va gs.length vcap] 29)) := ((Below.refl _ w).alloc (Nat.le_refl _) _).alloc (by simp) _
 refine range_walk hro h1 (gf := 189) (lb := #[.pointer (some ⟨w.heap.size + 1, 0, none⟩)]) rfl h5 (enters_of Tryz.func189 (by kernel_rfl) rfl) (encs := fun y : Y => #[y.enc]) (fun _ => rfl)
  (fun pre W => (W.cell? ⟨w.heap.size, 0, none⟩ = some (.int .i64 (sitY pre)) ∧ W.frozen? ⟨w.heap.size, 0, none⟩ = false) ∧ Below w.heap.size w W ∧ W.drawn = w.drawn)
  (fun x a' W => ∃ Bx, W.cell? ⟨Bx, 0, none⟩ = some (.int .i64 x.op) ∧ a' = { tmps := #[.slice va gs.length vcap, undef, .int .i64 0, .pointer (some ⟨w.heap.size, 0, none⟩), .pointer (some ⟨Bx, 0, none⟩), .slice va gs.length vcap, .func (.func 189) #[] #[.pointer (some ⟨w.heap.size + 1, 0, none⟩)], x.enc, undef, undef, undef, undef, undef, undef], defers := [] })
  (KC w.heap.size) (ordL gs) (ordL gs).length
  (fun s W o ⟨⟨i1, i2⟩, i3, i4⟩ => ⟨⟨cell_alloc _ i1, frozen_alloc _ i1 i2⟩, i3.alloc i3.size _, i4⟩)
  (fun s W l o o' ⟨⟨i1, i2⟩, i3, i4⟩ hl hh ho => ⟨⟨(cell_put i1 hh ho).1, (cell_put i1 hh ho).2.trans i2⟩, below_put i3 (by simp at hl; omega) hh, i4⟩)
  (fun x a' W l o o' ⟨Bx, h1, h2⟩ _ hh ho => ⟨Bx, (cell_put h1 hh ho).1, h2⟩) KC.trans KC_b
  (fun l J W hW hJa hY h0 => all_it F hd (n - 1) h5 h6 hro (w.heap.size + 1) w.heap.size _ gs hN _ w.heap.size (by simp) (Nat.le_refl _) (by simp; omega) hb.1 (hL.below hB0) l J W hW hJa hY h0)
  ⟨⟨cell_alloc _ hs.1, frozen_alloc _ hs.1 hs.2⟩, hB0, rfl⟩ ?assign ?body ?done
 case assign =>
  rintro l pre x W K ⟨⟨hc, hf⟩, hB, hdr⟩ hK
  have hst := fun zs (hz : zs.size = 8) => store_new (P := Tryz.prog) (w := W) (t := 31) (t' := 31) (zs := zs) (vs := x.vs) siz_stm hz rfl x.one
  have b0 : (W.alloc (.cells x.vs 31)).cell? ⟨W.heap.size, 0, none⟩ = some (.int .i64 x.op) := cell_of_row _ _ _ _ _ (0, 0) (World.alloc_heap_new W _)
  gi_wp2_with (refine wpListIn_store (t := 31) rfl rfl rfl rfl (hst _ rfl) ?_)
  refine hK _ _ (KeepsOthers.alloc _ _) (KC.alloc _ _ _) ⟨⟨cell_alloc _ hc, frozen_alloc _ hc hf⟩, hB.alloc hB.size _, hdr⟩ ⟨W.heap.size, b0, ?_⟩
  rfl
 case body =>
  rintro l pre x a' W ⟨⟨hc, hf⟩, hB, hdr⟩ ⟨Bx, bx, rfl⟩ hlt
  have hlt2 : (sitY pre : Int) < 1000000000 := by have := sitY_le pre; omega
  clear hlt hN hL hs hb hB0
  have hsn := sitY_snoc pre x
  by_cases hx : x.op = 4
  ·rw [if_pos hx] at hsn
   rw [hx] at bx
   clear hx
   gi_wp2
   exact ⟨KeepsOthers.setCell _ _ _, KC.setCell _ _ _ _, hB.setCell (p := ⟨w.heap.size, 0, none⟩) (Nat.le_refl _) _⟩
  ·rw [if_neg hx] at hsn
   obtain ⟨k, hk⟩ : ∃ k, x.op = k := ⟨_, rfl⟩
   rw [hk] at bx hx
   clear hk
   have hx' : (k == 4) = false := by simpa using hx
   clear hx
   gi_wp2
   exact ⟨KeepsOthers.refl _, KC.refl _ _⟩
 case done =>
  rintro D W hD ⟨⟨hc, _⟩, hB, hdr⟩ hK
  gi_wp2
  refine ⟨by simp, .inl ⟨_, _, rfl, run_takeDeferred hK, ?_⟩⟩
  exact ⟨_, results_tmp rfl _ _ _, rfl, hB.trans (belowK_b (w := w) (Nat.le_refl _) W D _ _ (by simp at hD; omega) hK rfl rfl), hdr⟩
end Go.Proofs.YtnoahchdmkpleaaGreat.RF

/-! Rf4 -/
namespace Go.Proofs.YtnoahchdmkpleaaGreat.RF
open Go Go.RowKit Go.Proofs.YtnoahchdmkpleaaGreat.VA
set_option linter.unusedSimpArgs false
set_option linter.unusedVariables false

theorem below_step {g : Gh} {H : Heap} {w w' : World} (hi : Inv g H w) (h : Below w.heap.size w w') (hd : w'.drawn = w.drawn) : Ext g w g w' ∧ Inv g H w' := by
 have hcell : ∀ b, b < w.heap.size → ∀ o, w'.cell? ⟨b, o, none⟩ = w.cell? ⟨b, o, none⟩ := fun b hb o => by
  simp only [World.cell?, h.block b hb]
 have hext : Ext g w g w' := by
  refine ⟨rfl, h.os, h.tape, ⟨h.output, Nat.le_of_eq hd.symm⟩, h.size, fun b hb => h.block b (Nat.lt_of_lt_of_le hb hi.lo), fun _ _ => rfl, fun _ => Nat.le_refl _, ?_, fun _ _ h => h, fun _ _ h => h, rfl⟩
  intro b o ho
  by_cases hb : b < w.heap.size
  ·exact hcell b hb o
  ·rw [hi.fresh b (by omega)] at ho; omega
 refine ⟨hext, Nat.le_trans hi.lo h.size, fun b hb => hi.fresh b (Nat.le_trans h.size hb), fun r b hb => ⟨(hi.boxS r b hb).1, Nat.lt_of_lt_of_le (hi.boxS r b hb).2 h.size⟩, hi.boxB, hi.boxI, ?_, ?_, hi.liveI, ?_, ?_,
  g.cond.stable hi.cond (Nat.le_refl _) (fun b hb => h.block b (Nat.lt_of_lt_of_le hb hi.lo))⟩
 ·intro r cs b hr h1
  obtain ⟨vs, t, h2, h3⟩ := hi.box r cs b hr h1
  exact ⟨vs, t, by rw [h.block b (hi.boxS r b h1).2]; exact h2, h3.ext hext⟩
 ·intro s hs
  obtain ⟨b, m, cap, e, sz, vs, h1, h2, h3, h4⟩ := hi.live s hs
  exact ⟨b, m, cap, e, sz, vs, h1, h2, by rw [h.block b (Array.getElem?_eq_some_iff.1 h3).1]; exact h3, h4⟩
 ·intro r ks vs hr
  obtain ⟨b, es, clock, h1, h2, h3, h4⟩ := hi.map r ks vs hr
  exact ⟨b, es, clock, h1, by rw [h.block b (hi.boxS r b h1).2]; exact h2, h3.ext hext, h4.ext hext⟩
 ·intro r b n cap e sz h1 h2 h3
  obtain ⟨k1, vs, k2, k3⟩ := hi.arr r b n cap e sz h1 h2 h3
  exact ⟨k1, vs, by rw [h.block b (hi.boxS r b h2).2]; exact k2, k3⟩
def cntV : Nat → List (List AV) → Option (Nat × Nat)
 | 0, es => match es with
  | [] => some (0, 0)
  | _ :: _ => none
 | k + 1, es => match es with
  | [] => some (0, 0)
  | e :: es => match e with
   | [.lit (.int .i64 op), _, _, _, _, _, .sl _ th, .sl _ el] =>
    match cntV k th, cntV k el, cntV k es with
    | some a, some b, some c => some (1 + (a.1 + b.1) + c.1, (if op = 4 then 1 else 0) + (a.2 + b.2) + c.2)
    | _, _, _ => none
   | _ => none
def tCnt (sel : Nat × Nat → Nat) (args : List AV) : Option AV :=
 match args with
 | [.sl _ es] =>
  match cntV 200 es with
  | some p => if p.1 ≤ 1000000000 then some (.lit (.int .i64 (sel p))) else none
  | none => none
 | _ => none
theorem sitY_app (a b : List Y) : sitY (a ++ b) = sitY a + sitY b := by simp [sitY]
theorem sitY_cons (y : Y) (b : List Y) : sitY (y :: b) = (if y.op = 4 then 1 else 0) + sitY b := by
 have := sitY_app [y] b
 rw [show [y] ++ b = y :: b from rfl] at this
 rw [this]
 have := sitY_snoc [] y
 simp [sitY] at this ⊢
 exact this
/-- A list of statements, as the interpreter sees it, is one in memory. -/
theorem rel_elems {g : Gh} {w : World} : ∀ (k : Nat) (es : List (List AV)) (p : Nat × Nat), cntV k es = some p → ∀ (b off : Nat) (f : Nat → Value), (∀ j, j < es.length * 8 → w.cell? ⟨b, off + j, none⟩ = some (f j)) →
  (∀ j, j < es.length * 8 → (f j).oneCell' = true) → (∀ (i : Nat) (e : List AV) (j : Nat) (x : AV), es[i]? = some e → e[j]? = some x → Rel g w x (f (i * 8 + j))) →
  ∃ gs, gs.length = es.length ∧ AtE w.heap.size w b off gs ∧ (ordL gs).length = p.1 ∧ sitY (ordL gs) = p.2 := by
 intro k
 induction k with
 | zero =>
  intro es p h b off f _ _ _
  cases es with
  | nil => simp [cntV] at h; subst h; exact ⟨[], rfl, by simp only [AtE], rfl, rfl⟩
  | cons e es => simp [cntV] at h
 | succ k ih =>
  intro es p h b off f hc h1 hr
  cases es with
  | nil => simp [cntV] at h; subst h; exact ⟨[], rfl, by simp only [AtE], rfl, rfl⟩
  | cons e es =>
   simp only [cntV] at h
   split at h
   ·rename_i op a1 a2 a3 a4 a5 o1 th o2 el
    split at h
    ·rename_i p1 p2 p3 h2 h3 h4
     simp only [Option.some.injEq] at h
     subst h
     have sub : ∀ (o : VA.Own) (es' : List (List AV)) (v : Value) (q : Nat × Nat), cntV k es' = some q → Rel g w (.sl o es') v → ∃ gs, Sli v gs.length (fun b' o' => b' < w.heap.size ∧ AtE w.heap.size w b' o' gs) ∧ (ordL gs).length = q.1 ∧ sitY (ordL gs) = q.2 := by
      intro o es' v q hq hv
      by_cases hes : es' = []
      ·subst hes
       have : q = (0, 0) := by cases k <;> simp [cntV] at hq <;> exact hq.symm
       subst this
       obtain ⟨a, c, rfl, _⟩ := hv.sl_inv
       exact ⟨[], ⟨a, c, rfl, fun h => absurd rfl h⟩, rfl, rfl⟩
      ·cases hv with
       | nil => exact absurd rfl hes
       | sl _ _ a n cap sz f' ho hn hcap hex hown hsz h1' ha hr' =>
        have h8 : sz = 8 := by
         cases es' with
         | nil => exact absurd rfl hes
         | cons e' es'' =>
          have := hsz e' (List.mem_cons_self ..)
          cases k with
          | zero => simp [cntV] at hq
          | succ k =>
           simp only [cntV] at hq
           split at hq
           ·simpa using this.symm
           ·cases hq
        subst h8
        subst hn
        have hn0 : es'.length ≠ 0 := fun hh => hes (List.length_eq_zero_iff.1 hh)
        obtain ⟨b', off', rfl, _, hcell⟩ := ha hn0
        obtain ⟨gs, q1, q2, q3, q4⟩ := ih es' q hq b' off' f' hcell h1' hr'
        have hlt : b' < w.heap.size := block_lt_of_cell (hcell 0 (by omega))
        exact ⟨gs, ⟨_, cap, by rw [q1], fun _ => ⟨b', off', rfl, hlt, q2⟩⟩, q3, q4⟩
     have r0 := hr 0 _ 0 _ rfl rfl
     have r6 := hr 0 _ 6 _ rfl rfl
     have r7 := hr 0 _ 7 _ rfl rfl
     simp only [Nat.zero_mul, Nat.zero_add] at r0 r6 r7
     obtain ⟨g1, s1, q1, q1'⟩ := sub _ _ _ _ h2 r6
     obtain ⟨g2, s2, q2, q2'⟩ := sub _ _ _ _ h3 r7
     obtain ⟨g3, s3, q3, q3', q3''⟩ := ih es p3 h4 b (off + 8) (fun j => f (8 + j)) (fun j hj => by
       have := hc (8 + j) (by simp only [List.length_cons]; omega)
       rw [← this]; congr 2; omega) (fun j hj => h1 (8 + j) (by simp only [List.length_cons]; omega)) (fun i e j x he hx => by
       have := hr (i + 1) e j x (by simpa using he) hx
       rw [show 8 + (i * 8 + j) = (i + 1) * 8 + j by omega]; exact this)
     have hf0 : f 0 = .int .i64 op := r0.lit_inv
     have hl : 8 ≤ (([.lit (.int .i64 op), a1, a2, a3, a4, a5, .sl o1 th, .sl o2 el] : List AV) :: es).length * 8 := by simp only [List.length_cons]; omega
     refine ⟨.node ⟨op, f 1, f 2, f 3, f 4, f 5, f 6, f 7, fun v hv => ?_⟩ g1 g2 :: g3, by simp [s3], ?_, ?_, ?_⟩
     ·simp only [List.mem_cons, List.not_mem_nil, or_false] at hv
      rcases hv with rfl | rfl | rfl | rfl | rfl | rfl | rfl <;> exact h1 _ (by omega)
     ·simp only [AtE, AtT]
      refine ⟨⟨?_, hc 1 (by omega), hc 2 (by omega), hc 3 (by omega), hc 4 (by omega), hc 5 (by omega), hc 6 (by omega), hc 7 (by omega), s1, s2⟩, q3⟩
      rw [← hf0]
      exact hc 0 (by omega)
     ·simp only [ordL, ordT, List.length_cons, List.length_append, q1, q2, q3']
      omega
     ·simp only [ordL, ordT, List.cons_append, sitY_cons, sitY_app, q1', q2', q3'']
      omega
    ·cases h
   ·cases h
theorem rel_tree {g : Gh} {w : World} {o : VA.Own} {es : List (List AV)} {v : Value} {p : Nat × Nat} {k : Nat} (h : cntV k es = some p) (hv : Rel g w (.sl o es) v) : ∃ gs, AtS w.heap.size w v gs ∧ (ordL gs).length = p.1 ∧ sitY (ordL gs) = p.2 := by
 by_cases hes : es = []
 ·subst hes
  have : p = (0, 0) := by cases k <;> simp [cntV] at h <;> exact h.symm
  subst this
  obtain ⟨a, c, rfl, _⟩ := hv.sl_inv
  exact ⟨[], ⟨a, c, rfl, fun h => absurd rfl h⟩, rfl, rfl⟩
 ·cases hv with
  | nil => exact absurd rfl hes
  | sl _ _ a n cap sz f' ho hn hcap hex hown hsz h1' ha hr' =>
   have h8 : sz = 8 := by
    cases es with
    | nil => exact absurd rfl hes
    | cons e' es'' =>
     have := hsz e' (List.mem_cons_self ..)
     cases k with
     | zero => simp [cntV] at h
     | succ k =>
      simp only [cntV] at h
      split at h
      ·simpa using this.symm
      ·cases h
   subst h8
   subst hn
   have hn0 : es.length ≠ 0 := fun hh => hes (List.length_eq_zero_iff.1 hh)
   obtain ⟨b', off', rfl, _, hcell⟩ := ha hn0
   obtain ⟨gs, q1, q2, q3, q4⟩ := rel_elems k es p h b' off' f' hcell h1' hr'
   have hlt : b' < w.heap.size := block_lt_of_cell (hcell 0 (by omega))
   exact ⟨gs, ⟨_, cap, by rw [q1], fun _ => ⟨b', off', rfl, hlt, q2⟩⟩, q3, q4⟩
theorem arg1 {g : Gh} {w : World} {x : AV} {vs : Array Value} (h : RelL g w [x] vs.toList) : ∃ a, vs = #[a] ∧ Rel g w x a := by
 obtain ⟨h1, h2⟩ := h
 match hv : vs.toList, h1 with
 | [a], _ => exact ⟨a, by rw [← Array.toArray_toList (xs := vs), hv], h2 0 x a rfl (by rw [hv]; rfl)⟩
theorem told_of {C : Cond} {f : FuncId} {fn : Func} {code : Code} (hf : Tryz.prog.funcs[f]? = some fn) (hn : (fn.name == "runtime.NumGoroutine") = false) (hb : fn.body = some code) (sel : Nat × Nat → Nat)
  (hw : ∀ (v : Value) (gs : List GT) (w : World), (ordL gs).length ≤ 1000000000 → AtS w.heap.size w v gs → Calls Tryz.prog f #[v] w fun e W' => e = .returned (.int .i64 (sel ((ordL gs).length, sitY (ordL gs)))) ∧ Below w.heap.size w W' ∧ W'.drawn = w.drawn) :
  ToldOk Tryz.prog C f (tCnt sel) := by
 refine ⟨callFunc_enter hf hn hb, fun args v h g H w vs hC hi hr => ?_⟩
 unfold tCnt at h
 split at h
 ·rename_i o es
  split at h
  ·rename_i p hp
   split at h
   ·rename_i hle
    simp only [Option.some.injEq] at h
    subst h
    obtain ⟨a, rfl, ha⟩ := arg1 hr
    obtain ⟨gs, g1, g2, g3⟩ := rel_tree hp ha
    refine (hw a gs w (by omega) g1).mono ?_
    rintro en w' ⟨rfl, hbl, hdr⟩
    obtain ⟨k1, k2⟩ := below_step hi hbl hdr
    refine ⟨_, g, rfl, k1, k2, rfl, rfl, ?_⟩
    rw [g2, g3]
    exact .lit _
   ·cases h
  ·cases h
 ·cases h
theorem told_count {C : Cond} : ToldOk Tryz.prog C 99 (tCnt Prod.fst) :=
 told_of (fn := Tryz.f99) (by kernel_rfl) (by kernel_rfl) rfl Prod.fst fun v gs w h1 h2 => callsIn_wide.1 (Count_in Fence.wide rfl 3 trivial trivial trivial trivial rfl (Nat.le_refl _) v gs h1 w h2)
theorem told_sites {C : Cond} : ToldOk Tryz.prog C 100 (tCnt Prod.snd) :=
 told_of (fn := Tryz.f100) (by kernel_rfl) (by kernel_rfl) rfl Prod.snd fun v gs w h1 h2 => callsIn_wide.1 (Sites_in Fence.wide rfl 3 trivial trivial trivial trivial rfl (Nat.le_refl _) v gs h1 w h2)
end Go.Proofs.YtnoahchdmkpleaaGreat.RF

/-! Fk1 -/
namespace Go.Proofs.YtnoahchdmkpleaaGreat.VA
open Go Go.RowKit
set_option linter.unusedSimpArgs false
set_option maxRecDepth 100000

/-- What another table answers, within so many steps. -/
noncomputable def toldK (P : Program) (c : Cfg) (k : Nat) (f : FuncId) (args : List AV) : Option AV :=
 match call P c k f (sanL args) Heap.empty with
 | some (.ret v _) => some (san v)
 | _ => none
theorem toldK_by {P : Program} {c : Cfg} {k : Nat} {f : FuncId} {args : List AV} {v : AV} (h : toldK P c k f args = some v) : toldBy P c f args = some v := by
 unfold toldK at h
 unfold toldBy
 split at h
 ·rename_i u H hu
  rw [calls_iff.2 ⟨k, hu⟩]
  exact h
 ·cases h
theorem toldK_ok {P : Program} {C : Cond} {c : Cfg} (hc : CfgOk P C c) (k : Nat) {f : FuncId} {fn : Func} {code : Code} (hf : P.funcs[f]? = some fn) (hn : (fn.name == "runtime.NumGoroutine") = false) (hb : fn.body = some code) : ToldOk P C f (toldK P c k f) :=
 ⟨(toldBy_ok hc hf hn hb).1, fun args v h => (toldBy_ok hc hf hn hb).2 args v (toldK_by h)⟩
def decE : List (List AV) → Option (List (Int × Int))
 | [] => some []
 | e :: l => match e with
  | [.lit (.int .i64 a), .lit (.int .i64 b)] => match decE l with
   | some d => some ((a, b) :: d)
   | none => none
  | _ => none
theorem decE_some : ∀ {es : List (List AV)} {d : List (Int × Int)}, decE es = some d → es = encAs d
 | [], d, h => by simp [decE] at h; subst h; rfl
 | e :: l, d, h => by
  simp only [decE] at h
  split at h
  ·split at h
   ·rename_i d' hd
    simp only [Option.some.injEq] at h
    subst h
    rw [decE_some hd]
    rfl
   ·cases h
  ·cases h
def tNormK (args : List AV) : Option AV :=
 match args with
 | [.sl _ es] => match decE es with
  | some d => if d.length ≤ 1000 then some (.sl .sh (encAs (normR d))) else none
  | none => none
 | _ => none
theorem tNormK_ok : ToldOk Tryz.prog Cond.none 60 tNormK := by
 have hb := toldBy_ok cfg1_ok (f := 60) (fn := Tryz.f60) (by kernel_rfl) (by kernel_rfl) rfl
 refine ⟨hb.1, fun args v h => hb.2 args v ?_⟩
 unfold tNormK at h
 split at h
 ·rename_i o es
  split at h
  ·rename_i d hd
   split at h
   ·rename_i hl
    simp only [Option.some.injEq] at h
    subst h
    have he := decE_some hd
    subst he
    unfold toldBy
    have e1 : sanL [AV.sl o (encAs d)] = [.sl .sh (encAs d)] := by simp only [sanL, san, sanLL_encAs]
    rw [e1, c_norm d (Nat.le_trans hl (by decide)) .sh Heap.empty]
    simp only [san, sanLL_encAs, normR_eq]
   ·cases h
  ·cases h
 ·cases h
noncomputable def cfgSK : Cfg := mkC Tryz.prog [48]
 []
 [48]
 [(74, tClone)]
 []
theorem cfgSK_ok : CfgOk Tryz.prog Cond.none cfgSK := mkC_ok (by kernel_rfl) (by kernel_rfl) (by
 intro p hp
 simp only [List.mem_cons, List.not_mem_nil, or_false] at hp
 subst hp
 ·exact tClone_ok _) (by simp)
noncomputable def cfgMK : Cfg := mkC Tryz.prog [45, 69, 70, 71, 112]
 []
 []
 [(60, tNormK)]
 []
theorem cfgMK_ok : CfgOk Tryz.prog Cond.none cfgMK := mkC_ok (by kernel_rfl) (by kernel_rfl) (by
 intro p hp
 simp only [List.mem_cons, List.not_mem_nil, or_false] at hp
 subst hp
 ·exact tNormK_ok) (by simp)
noncomputable def cfgTK : Cfg := mkC Tryz.prog [115]
 [48, 87, 130, 154, 131, 133, 132]
 [115, 48, 87]
 [(74, tClone),
 (60, tNormK),
 (45, toldK Tryz.prog cfgMK 60 45)]
 [(133, insB Tryz.prog 23), (132, delB Tryz.prog 23)]
theorem cfgTK_ok : CfgOk Tryz.prog Cond.none cfgTK := mkC_ok (by kernel_rfl) (by kernel_rfl) (by
 intro p hp
 simp only [List.mem_cons, List.not_mem_nil, or_false] at hp
 rcases hp with rfl | rfl | rfl
 ·exact tClone_ok _
 ·exact tNormK_ok
 ·exact toldK_ok cfgMK_ok 60 (fn := Tryz.f45) (by kernel_rfl) (by kernel_rfl) rfl) (by
 intro p hp
 simp only [List.mem_cons, List.not_mem_nil, or_false] at hp
 rcases hp with rfl | rfl
 ·exact insBind_ok _
 ·exact delBind_ok _)
noncomputable def cfgDK : Cfg := mkC Tryz.prog [14, 44, 36, 63, 61, 106, 152, 201, 110]
 [46, 73, 47, 49, 76, 77]
 []
 [(60, tNormK),
 (115, toldK Tryz.prog cfgTK 60 115),
 (48, toldK Tryz.prog cfgSK 60 48),
 (65, toldK Tryz.prog cfgV 60 65),
 (45, toldK Tryz.prog cfgMK 60 45)]
 []
theorem cfgDK_ok : CfgOk Tryz.prog Cond.none cfgDK := mkC_ok (by kernel_rfl) (by kernel_rfl) (by
 intro p hp
 simp only [List.mem_cons, List.not_mem_nil, or_false] at hp
 rcases hp with rfl | rfl | rfl | rfl | rfl
 ·exact tNormK_ok
 ·exact toldK_ok cfgTK_ok 60 (fn := Tryz.f115) (by kernel_rfl) (by kernel_rfl) rfl
 ·exact toldK_ok cfgSK_ok 60 (fn := Tryz.f48) (by kernel_rfl) (by kernel_rfl) rfl
 ·exact toldK_ok cfgV_ok 60 (fn := Tryz.f65) (by kernel_rfl) (by kernel_rfl) rfl
 ·exact toldK_ok cfgMK_ok 60 (fn := Tryz.f45) (by kernel_rfl) (by kernel_rfl) rfl) (by simp)
noncomputable def cfgJK : Cfg := mkC Tryz.prog [55, 88, 86, 134]
 [48, 87, 130, 154, 131, 133, 132, 129, 173]
 [55, 48, 87]
 [(74, tClone),
 (60, tNormK),
 (45, toldK Tryz.prog cfgMK 60 45),
 (65, toldK Tryz.prog cfgV 60 65)]
 [(133, insB Tryz.prog 23), (132, delB Tryz.prog 23), (129, grwN 76 2), (173, grwN 81 2)]
theorem cfgJK_ok : CfgOk Tryz.prog Cond.none cfgJK := mkC_ok (by kernel_rfl) (by kernel_rfl) (by
 intro p hp
 simp only [List.mem_cons, List.not_mem_nil, or_false] at hp
 rcases hp with rfl | rfl | rfl | rfl
 ·exact tClone_ok _
 ·exact tNormK_ok
 ·exact toldK_ok cfgMK_ok 60 (fn := Tryz.f45) (by kernel_rfl) (by kernel_rfl) rfl
 ·exact toldK_ok cfgV_ok 60 (fn := Tryz.f65) (by kernel_rfl) (by kernel_rfl) rfl) (by
 intro p hp
 simp only [List.mem_cons, List.not_mem_nil, or_false] at hp
 rcases hp with rfl | rfl | rfl | rfl
 ·exact insBind_ok _
 ·exact delBind_ok _
 ·exact growBind_ok _
 ·exact growAtom_ok _)
noncomputable def cfgK : Cfg := mkC Tryz.prog [21, 52, 53, 31, 85, 26, 27, 34, 61, 106, 152, 201, 36, 63, 35, 62, 107, 153, 17, 51, 18, 145, 147, 185, 187, 112, 184, 186, 146]
 [54, 23, 59, 96, 97, 98, 144]
 [54, 23, 59, 96, 97, 98, 144]
 [(60, tNormK),
 (55, toldK Tryz.prog cfgJK 60 55),
 (14, toldK Tryz.prog cfgDK 60 14),
 (48, toldK Tryz.prog cfgSK 60 48),
 (65, toldK Tryz.prog cfgV 60 65),
 (45, toldK Tryz.prog cfgMK 60 45),
 (99, RF.tCnt Prod.fst),
 (100, RF.tCnt Prod.snd)]
 []
theorem cfgK_ok : CfgOk Tryz.prog Cond.none cfgK := mkC_ok (by kernel_rfl) (by kernel_rfl) (by
 intro p hp
 simp only [List.mem_cons, List.not_mem_nil, or_false] at hp
 rcases hp with rfl | rfl | rfl | rfl | rfl | rfl | rfl | rfl
 ·exact tNormK_ok
 ·exact toldK_ok cfgJK_ok 60 (fn := Tryz.f55) (by kernel_rfl) (by kernel_rfl) rfl
 ·exact toldK_ok cfgDK_ok 60 (fn := Tryz.f14) (by kernel_rfl) (by kernel_rfl) rfl
 ·exact toldK_ok cfgSK_ok 60 (fn := Tryz.f48) (by kernel_rfl) (by kernel_rfl) rfl
 ·exact toldK_ok cfgV_ok 60 (fn := Tryz.f65) (by kernel_rfl) (by kernel_rfl) rfl
 ·exact toldK_ok cfgMK_ok 60 (fn := Tryz.f45) (by kernel_rfl) (by kernel_rfl) rfl
 ·exact RF.told_count
 ·exact RF.told_sites) (by simp)
end Go.Proofs.YtnoahchdmkpleaaGreat.VA

/-! Fk2 -/
namespace Go.Proofs.YtnoahchdmkpleaaGreat.VA
open Go Go.RowKit
set_option maxRecDepth 100000
theorem fix16 : call Tryz.prog cfgK 80 21 [] Heap.empty = some (.ret (.lit (.bool true)) Heap.empty) := by kernel_rfl
end Go.Proofs.YtnoahchdmkpleaaGreat.VA

/-! Tyf -/
namespace Go.Proofs.YtnoahchdmkpleaaGreat.VA
open Go Go.RowKit
set_option linter.unusedSimpArgs false
set_option maxRecDepth 100000
@[go_sem] theorem fl_flow0 : tField Tryz.prog 57 0 = some (0, 1, false) := by kernel_rfl
@[go_sem] theorem fl_flow1 : tField Tryz.prog 57 1 = some (1, 1, false) := by kernel_rfl
@[go_sem] theorem fl_flow2 : tField Tryz.prog 57 2 = some (2, 1, false) := by kernel_rfl
@[go_sem] theorem fl_flow3 : tField Tryz.prog 57 3 = some (3, 3, true) := by kernel_rfl
@[go_sem] theorem bl_flow : tBuild Tryz.prog 57 = some ([(0, 1), (1, 1), (2, 1), (3, 3)], [.sl .nil [], .sl .nil [], .sl .nil [], .lit (.bool false), .sl .nil [], .sl .nil []]) := by kernel_rfl
@[go_sem] theorem zr_flow : tZero Tryz.prog 57 = some [.sl .nil [], .sl .nil [], .sl .nil [], .lit (.bool false), .sl .nil [], .sl .nil []] := by kernel_rfl
@[go_sem] theorem sz_flow : tSize Tryz.prog 57 = some 6 := by kernel_rfl
@[go_sem] theorem ag_flow : tAgg Tryz.prog 57 = some true := by kernel_rfl
@[go_sem] theorem fl_fau0 : tField Tryz.prog 103 0 = some (0, 1, false) := by kernel_rfl
@[go_sem] theorem fl_fau1 : tField Tryz.prog 103 1 = some (1, 1, false) := by kernel_rfl
@[go_sem] theorem bl_fau : tBuild Tryz.prog 103 = some ([(0, 1), (1, 1)], [.lit (.int .i64 0), .lit (.int .i64 0)]) := by kernel_rfl
@[go_sem] theorem zr_fau : tZero Tryz.prog 103 = some [.lit (.int .i64 0), .lit (.int .i64 0)] := by kernel_rfl
@[go_sem] theorem sz_fau : tSize Tryz.prog 103 = some 2 := by kernel_rfl
@[go_sem] theorem ag_fau : tAgg Tryz.prog 103 = some true := by kernel_rfl
@[go_sem] theorem fl_wlk0 : tField Tryz.prog 107 0 = some (0, 1, false) := by kernel_rfl
@[go_sem] theorem bl_wlk : tBuild Tryz.prog 107 = some ([(0, 1)], [.sl .nil []]) := by kernel_rfl
@[go_sem] theorem zr_wlk : tZero Tryz.prog 107 = some [.sl .nil []] := by kernel_rfl
@[go_sem] theorem sz_wlk : tSize Tryz.prog 107 = some 1 := by kernel_rfl
@[go_sem] theorem ag_wlk : tAgg Tryz.prog 107 = some true := by kernel_rfl
@[go_sem] theorem el_sSta : tElem Tryz.prog 54 = some (26, 3, 56) := by kernel_rfl
@[go_sem] theorem zo_sSta : zeroOk Tryz.prog 26 3 = true := by kernel_rfl
@[go_sem] theorem el_sFau : tElem Tryz.prog 55 = some (103, 2, 16) := by kernel_rfl
@[go_sem] theorem zo_sFau : zeroOk Tryz.prog 103 2 = true := by kernel_rfl
@[go_sem] theorem sz_sSta : tSize Tryz.prog 54 = some 1 := by kernel_rfl
@[go_sem] theorem ag_sSta : tAgg Tryz.prog 54 = some false := by kernel_rfl
@[go_sem] theorem zr_sSta : tZero Tryz.prog 54 = some [.sl .nil []] := by kernel_rfl
@[go_sem] theorem sz_sFau : tSize Tryz.prog 55 = some 1 := by kernel_rfl
@[go_sem] theorem ag_sFau : tAgg Tryz.prog 55 = some false := by kernel_rfl
@[go_sem] theorem zr_sFau : tZero Tryz.prog 55 = some [.sl .nil []] := by kernel_rfl
end Go.Proofs.YtnoahchdmkpleaaGreat.VA

/-! Fl2 -/
namespace Go.Proofs.YtnoahchdmkpleaaGreat.VA
open Go Go.RowKit
set_option linter.unusedSimpArgs false
set_option maxRecDepth 100000

inductive GS where
 | mk (op : Int) (x y p : ByteArray) (a : List Opd) (pr : List ByteArray) (th el : List GS)
def enc1 (s : ByteArray) : List AV := [.lit (.string s)]
mutual
def encG : GS → List AV
 | .mk op x y p a pr th el => encStm ⟨op, x, y, p, a, pr.map enc1, encGs th, encGs el⟩
def encGs : List GS → List (List AV)
 | [] => []
 | g :: l => encG g :: encGs l
end
theorem encGs_map : ∀ l : List GS, encGs l = l.map encG
 | [] => rfl
 | g :: l => by simp only [encGs, List.map_cons, encGs_map l]
theorem encGs_len (l : List GS) : (encGs l).length = l.length := by rw [encGs_map, List.length_map]
theorem sanLL_1 (l : List ByteArray) : sanLL (l.map enc1) = l.map enc1 := by
 induction l with
 | nil => rfl
 | cons x l ih => simp only [List.map_cons, sanLL, ih, enc1, sanL, san]
mutual
theorem sanL_encG : ∀ g : GS, sanL (encG g) = encG g
 | .mk op x y p a pr th el => by
  simp only [encG]
  exact sanL_stm ⟨sanLL_1 pr, sanLL_encGs th, sanLL_encGs el⟩
theorem sanLL_encGs : ∀ l : List GS, sanLL (encGs l) = encGs l
 | [] => rfl
 | g :: l => by simp only [encGs, sanLL, sanL_encG g, sanLL_encGs l]
end
def GS.op : GS → Int | .mk op _ _ _ _ _ _ _ => op
def GS.a : GS → List Opd | .mk _ _ _ _ a _ _ _ => a
def GS.pr : GS → List ByteArray | .mk _ _ _ _ _ pr _ _ => pr
def GS.th : GS → List GS | .mk _ _ _ _ _ _ th _ => th
def GS.el : GS → List GS | .mk _ _ _ _ _ _ _ el => el
def GS.stm : GS → Stm
 | .mk op x y p a pr th el => ⟨op, x, y, p, a, pr.map enc1, encGs th, encGs el⟩
theorem encG_stm (g : GS) : encG g = encStm g.stm := by cases g; simp only [encG, GS.stm]
theorem stm_ok (g : GS) : g.stm.ok := by cases g with | mk op x y p a pr th el => exact ⟨sanLL_1 pr, sanLL_encGs th, sanLL_encGs el⟩
theorem encG_len (g : GS) : (encG g).length = 8 := by rw [encG_stm]; rfl
theorem encG_one (g : GS) : (encG g).all AV.one = true := by rw [encG_stm]; rfl
theorem encG_take (g : GS) : (encG g).take 8 = encG g := List.take_of_length_le (by rw [encG_len]; exact Nat.le_refl _)
theorem encG_op (g : GS) : (encG g)[0]? = some (.lit (.int .i64 g.op)) := by cases g; simp only [encG]; rfl
theorem encG_a (g : GS) : (encG g)[4]? = some (.sl .sh (g.a.map encOp)) := by cases g; simp only [encG]; rfl
theorem encG_pr (g : GS) : (encG g)[5]? = some (.sl .sh (g.pr.map enc1)) := by cases g; simp only [encG]; rfl
theorem encG_th (g : GS) : (encG g)[6]? = some (.sl .sh (encGs g.th)) := by cases g; simp only [encG]; rfl
theorem encG_el (g : GS) : (encG g)[7]? = some (.sl .sh (encGs g.el)) := by cases g; simp only [encG]; rfl
mutual
def cntG : GS → Nat
 | .mk _ _ _ _ _ _ th el => 1 + (cntL th + cntL el)
def cntL : List GS → Nat
 | [] => 0
 | g :: l => cntG g + cntL l
end
mutual
def sitG : GS → Nat
 | .mk op _ _ _ _ _ th el => (if op = 4 then 1 else 0) + (sitL th + sitL el)
def sitL : List GS → Nat
 | [] => 0
 | g :: l => sitG g + sitL l
end
theorem cntG_eq (g : GS) : cntG g = 1 + (cntL g.th + cntL g.el) := by cases g; simp only [cntG, GS.th, GS.el]
mutual
theorem sitG_le : ∀ g : GS, sitG g ≤ cntG g
 | .mk op x y p a pr th el => by
  have h1 := sitL_le th
  have h2 := sitL_le el
  simp only [sitG, cntG]
  split <;> omega
theorem sitL_le : ∀ l : List GS, sitL l ≤ cntL l
 | [] => Nat.le_refl _
 | g :: l => by
  have h1 := sitG_le g
  have h2 := sitL_le l
  simp only [sitL, cntL]
  omega
end
theorem cntV_enc : ∀ (k : Nat) (l : List GS), cntL l ≤ k → RF.cntV k (encGs l) = some (cntL l, sitL l)
 | 0, [], _ => rfl
 | 0, .mk op x y p a pr th el :: l, h => by simp only [cntL, cntG] at h; omega
 | k + 1, [], _ => rfl
 | k + 1, .mk op x y p a pr th el :: l, h => by
  simp only [cntL, cntG] at h
  have h1 := cntV_enc k th (by omega)
  have h2 := cntV_enc k el (by omega)
  have h3 := cntV_enc k l (by omega)
  simp only [encGs, encG, encStm, RF.cntV, h1, h2, h3, cntL, cntG, sitL, sitG]
theorem tCnt_enc (sel : Nat × Nat → Nat) (l : List GS) (o : Own) (h : cntL l ≤ 200) : RF.tCnt sel (sanL [.sl o (encGs l)]) = some (.lit (.int .i64 (sel (cntL l, sitL l)))) := by
 simp only [sanL, san, sanLL_encGs, RF.tCnt, cntV_enc 200 l h]
 rw [if_pos (by omega)]
/-- The table for the flow from the Dead state. -/
noncomputable def cfg4 : Cfg := mkC Tryz.prog [7, 25, 58, 28, 26, 27, 55, 34, 61, 106, 152, 201, 36, 63, 64, 145, 147, 185, 187, 184, 186, 146, 29]
 [54, 23, 59, 96, 97, 98, 144, 108, 109, 999999999]
 [54, 23, 59, 96, 97, 98, 144]
 [(21, toldK Tryz.prog cfgK 80 21),
 (99, RF.tCnt Prod.fst),
 (100, RF.tCnt Prod.snd),
 (60, toldBy Tryz.prog cfg1 60),
 (48, toldBy Tryz.prog cfgS 48),
 (45, toldBy Tryz.prog cfgR 45),
 (14, toldBy Tryz.prog cfg3 14),
 (65, toldBy Tryz.prog cfgV 65),
 (10, toldBy Tryz.prog cfgR 10),
 (17, toldBy Tryz.prog cfgR 17)]
 []
theorem cfg4_ok : CfgOk Tryz.prog Cond.none cfg4 := mkC_ok (by kernel_rfl) (by kernel_rfl) (by
 intro p hp
 simp only [List.mem_cons, List.not_mem_nil, or_false] at hp
 rcases hp with rfl | rfl | rfl | rfl | rfl | rfl | rfl | rfl | rfl | rfl
 ·exact toldK_ok cfgK_ok 80 (fn := Tryz.f21) (by kernel_rfl) (by kernel_rfl) rfl
 ·exact RF.told_count
 ·exact RF.told_sites
 ·exact toldBy_ok cfg1_ok (fn := Tryz.f60) (by kernel_rfl) (by kernel_rfl) rfl
 ·exact toldBy_ok cfgS_ok (fn := Tryz.f48) (by kernel_rfl) (by kernel_rfl) rfl
 ·exact toldBy_ok cfgR_ok (fn := Tryz.f45) (by kernel_rfl) (by kernel_rfl) rfl
 ·exact toldBy_ok cfg3_ok (fn := Tryz.f14) (by kernel_rfl) (by kernel_rfl) rfl
 ·exact toldBy_ok cfgV_ok (fn := Tryz.f65) (by kernel_rfl) (by kernel_rfl) rfl
 ·exact toldBy_ok cfgR_ok (fn := Tryz.f10) (by kernel_rfl) (by kernel_rfl) rfl
 ·exact toldBy_ok cfgR_ok (fn := Tryz.f17) (by kernel_rfl) (by kernel_rfl) rfl) (by simp)
section
variable (o : Own) (H : Heap)
theorem f_fixed : calls Tryz.prog cfg4 21 [] H = some (.ret (.lit (.bool true)) H) := by
 refine calls_told (h := toldK Tryz.prog cfgK 80 21) rfl ?_ H
 unfold toldK
 have e : sanL (sanL []) = [] := rfl
 rw [e, fix16]
 rfl
theorem f_count (l : List GS) (h : cntL l ≤ 200) : calls Tryz.prog cfg4 99 [.sl o (encGs l)] H = some (.ret (.lit (.int .i64 (cntL l))) H) := calls_told rfl (tCnt_enc Prod.fst l o h) H
theorem f_sites (l : List GS) (h : cntL l ≤ 200) : calls Tryz.prog cfg4 100 [.sl o (encGs l)] H = some (.ret (.lit (.int .i64 (sitL l))) H) := calls_told rfl (tCnt_enc Prod.snd l o h) H
theorem f_norm (d : List (Int × Int)) (hl : d.length ≤ LA) : calls Tryz.prog cfg4 60 [.sl o (encAs d)] H = some (.ret (.sl .sh (encAs (normA d))) H) :=
 calls_by rfl (fun H => by simp only [sanL, san, sanLL_encAs]; exact c_norm d hl .sh H) (by simp only [san, sanLL_encAs]) H
theorem f_copy (s : Sta) (hs : StOk s) : calls Tryz.prog cfg4 48 [.agg (encSt s)] H = some (.ret (.agg (encSt s)) H) :=
 calls_by rfl (fun H => by simp only [sanL, san, sanL_encSt]; exact c_copyS s hs H) (by simp only [san, sanL_encSt]) H
theorem f_may (s : Sta) (hs : StOk s) : calls Tryz.prog cfg4 45 [.agg (encSt s)] H = some (.ret (.lit (.bool (mayT s))) H) :=
 calls_by rfl (fun H => by simp only [sanL, san, sanL_encSt]; exact c_staMay s hs H) (by simp only [san]) H
theorem f_var (s : Sta) (hs : StOk s) (q : ByteArray) : calls Tryz.prog cfg4 65 [.agg (encSt s), .lit (.string q)] H = some (.ret (.sl .sh (encAs (varA q s.vars))) H) :=
 calls_by rfl (fun H => by simp only [sanL, san, sanL_encSt]; exact c_Var s hs q H) (by simp only [san, sanLL_encAs]) H
theorem f_small (s : Sta) : calls Tryz.prog cfg4 10 [.agg (encSt s)] H = some (.ret (.lit (.bool (smT s))) H) :=
 calls_by rfl (fun H => by simp only [sanL, san, sanL_encSt]; exact c_small s H) (by simp only [san]) H
theorem f_same (s : Sta) (hs : StOk s) : calls Tryz.prog cfg4 17 [.agg (encSt s), .agg (encSt s)] H = some (.ret (.lit (.bool true)) H) :=
 calls_by rfl (fun H => by simp only [sanL, san, sanL_encSt]; exact c_sameSt s hs H) (by simp only [san]) H
theorem f_do (l : List (List AV)) (hl : sanLL l = l) (g : GS) (hp : g.pr.length ≤ LA) (site : Nat) : calls Tryz.prog cfg4 14 [.sl o l, .agg (encSt deadS), .agg (encG g), .lit (.int .i64 site)] H = some (.ret (.tup [.agg (encSt deadS), .sl .sh [], .lit (.int .i64 0)]) H) :=
 calls_by rfl (fun H => by
  simp only [sanL, san, sanL_encSt, hl, sanL_encG]
  rw [encG_stm]
  exact c_DoDead l hl g.stm (stm_ok g) (by cases g; simpa [GS.stm, GS.pr] using hp) site .sh H) (by simp only [san, sanL, sanL_encSt, sanLL]) H
end
end Go.Proofs.YtnoahchdmkpleaaGreat.VA

/-! Fl3 -/
namespace Go.Proofs.YtnoahchdmkpleaaGreat.VA
open Go Go.RowKit
attribute [local go_sem] Nat.add_eq_left Nat.left_eq_add true_and and_true ite_true if_false Int.cast_ofNat_Int eq_self Nat.add_assoc Option.some.injEq decide_true decide_false Bool.not_true Bool.not_false List.size_toArray List.length_cons List.length_nil
set_option linter.unusedSimpArgs false
set_option linter.unusedVariables false
set_option maxRecDepth 100000

structure Sg where
 nm : ByteArray
 n : Int
 w : List ByteArray
def encSg (s : Sg) : List AV := [.lit (.string s.nm), .lit (.int .i64 s.n), .sl .sh (s.w.map enc1)]
theorem sanLL_Sg (l : List Sg) : sanLL (l.map encSg) = l.map encSg := by
 induction l with
 | nil => rfl
 | cons x l ih => simp only [List.map_cons, sanLL, ih, encSg, sanL, san, sanLL_1]
theorem f_find1 (x : Sg) (q : ByteArray) (p : Nat) (H : Heap) (hp : H.get p = some [.lit (.string q)]) (hlt : p < H.next) : ∃ v H', calls Tryz.prog cfg4 109 [.agg (encSg x), .ptr p 0] H = some (.ret v H') ∧
  (v = .lit (.bool (decide (x.nm = q))) ∧ Frm H H') := by
 refine calls_imp (fn := Tryz.f109) rfl rfl rfl rfl rfl ?_
 have rs : Tryz.f109.results.toList = [.tmp 3] := rfl
 obtain ⟨m, hm⟩ : ∃ m, H.next = m := ⟨_, rfl⟩
 have n0 : ∀ j, ¬ m + j = p := fun j => by omega
 unfold encSg
 simp only [go_sem, simprocAttr, rs, hp, hm, n0]
 exact ⟨_, rfl, rfl, by repeat (first | exact Frm.refl _ | refine Frm.up ?_ _ | refine Frm.put ?_ _ (by omega))⟩
theorem f_idxS (vs : List Sg) (q : ByteArray) (p : Nat) (H0 : Heap) (hp : H0.get p = some [.lit (.string q)]) (hlt : p < H0.next) (hvl : vs.length ≤ LA) :
  ∃ v H', calls Tryz.prog cfg4 108 [.sl .sh (vs.map encSg), .fn 109 [.ptr p 0]] H0 = some (.ret v H') ∧ ∃ n : Int, v = .lit (.int .i64 n) := by
 refine calls_imp (fn := Tryz.f108) rfl rfl rfl rfl rfl ?_
 have rs : Tryz.f108.results.toList = [.tmp 4] := rfl
 simp only [go_sem, simprocAttr, rs, List.length_map]
 refine W_loop_ind (fun k e H => ∃ i : Nat, k = vs.length - i ∧ i ≤ vs.length ∧ Frm H0 H ∧ gget .bad e 0 = .sl .sh (vs.map encSg) ∧ gget .bad e 1 = .fn 109 [.ptr p 0] ∧ gget .bad e 7 = .lit (.int .i64 (vs.length : Nat)) ∧ gget .bad e 8 = .lit (.int .i64 (i : Nat)))
  vs.length ⟨0, rfl, by omega, by repeat (first | exact Frm.refl _ | refine Frm.up ?_ _), by simp only [go_sem, simprocAttr], by simp only [go_sem, simprocAttr], by simp only [go_sem, simprocAttr], by simp only [go_sem, simprocAttr]⟩ ?_
 rintro k ih e H ⟨i, rfl, hle, hF, g0, g1, g7, g8⟩
 by_cases hl : i < vs.length
 ·have d1 : decide ((i : Int) < (vs.length : Nat)) = true := by simp; omega
  have ha := iad_map (f := encSg) (t := 74) (n := 3) (b := 48) (o := .sh) hl (fun _ => rfl)
  have hw1 := wrap1 (show i + 1 ≤ 9223372036854775807 by unfold LA at hvl; omega)
  have hgp : H.get p = some [.lit (.string q)] := by rw [hF.get hlt]; exact hp
  have hnx := hF.nx
  have hb2 : (encSg vs[i]).length = 3 := rfl
  have hb3 : (encSg vs[i]).take 3 = encSg vs[i] := rfl
  simp only [go_sem, simprocAttr, g0, g1, g7, g8, d1, ha, hb2, hb3]
  refine goC_ex (f_find1 vs[i] q p _ (by simp only [go_sem, simprocAttr, hgp]) (by simp only [go_sem, simprocAttr]; omega)) ?_
  rintro v H1 ⟨rfl, hF1⟩
  have hF2 : Frm H0 H1 := (by repeat (first | exact hF | refine Frm.up ?_ _) : Frm H0 _).trans hF1
  by_cases hx : vs[i].nm = q
  ·have dx : decide (vs[i].nm = q) = true := by simpa using hx
   simp only [go_sem, simprocAttr, g0, g1, g7, g8, rs, dx]
   exact ⟨_, rfl, _, rfl⟩
  ·have dx : decide (vs[i].nm = q) = false := by simpa using hx
   simp only [go_sem, simprocAttr, g0, g1, g7, g8, hw1, dx]
   exact ih (vs.length - (i + 1)) (by omega) _ _ ⟨i + 1, rfl, by omega, by repeat (first | exact hF2 | refine Frm.up ?_ _), by simp only [go_sem, simprocAttr, g0], by simp only [go_sem, simprocAttr, g1], by simp only [go_sem, simprocAttr, g7], by simp only [go_sem, simprocAttr]⟩
 ·have d1 : decide ((i : Int) < (vs.length : Nat)) = false := by simp; omega
  simp only [go_sem, simprocAttr, g0, g1, g7, g8, d1, rs]
  exact ⟨_, rfl, _, rfl⟩
theorem f_find (sg : List Sg) (hl : sg.length ≤ LA) (q : ByteArray) (o : Own) : ∃ n : Int, ∀ H, calls Tryz.prog cfg4 64 [.sl o (sg.map encSg), .lit (.string q)] H = some (.ret (.lit (.int .i64 n)) H) := by
 have rs : Tryz.f64.results.toList = [.tmp 4] := rfl
 have e0 : sanL [AV.sl o (sg.map encSg), .lit (.string q)] = [.sl .sh (sg.map encSg), .lit (.string q)] := by simp only [sanL, san, sanLL_Sg]
 obtain ⟨v, H', hc, n, rfl⟩ := f_idxS sg q 0 (((Heap.empty.up 2).put 0 [.lit (.string q)]).up 4) (by simp only [go_sem, simprocAttr]) (by simp only [go_sem, simprocAttr] <;> omega) hl
 refine ⟨n, fun H => calls_pure (fn := Tryz.f64) rfl rfl rfl rfl rfl ?_ H⟩
 rw [e0]
 simp only [go_sem, simprocAttr, rs, hc]
theorem f_one (k : Int) (H : Heap) : calls Tryz.prog cfg4 63 [.lit (.int .i64 k)] H = some (.ret (.sl .sh (encAs [(k, 0)])) H) := by
 refine calls_pure (fn := Tryz.f63) rfl rfl rfl rfl rfl ?_ H
 have rs : Tryz.f63.results.toList = [.tmp 2] := rfl
 have hb : aBuildSlice Tryz.prog 50 1 [(0, .agg [.lit (.int .i64 k), .lit (.int .i64 0)])] = some (.sl .ex [avA (k, 0)]) := bs1_atm (k, 0)
 simp only [go_sem, simprocAttr, rs, hb]
 rfl
theorem normA_le (d : List (Int × Int)) : (normA d).length ≤ d.length := by
 have := foldl_len d []
 rw [← normR_eq]
 simpa [normR] using this
/-- An operand's value at the Dead state: one atom at most. -/
theorem f_val (sg : List Sg) (hl : sg.length ≤ LA) (x : Opd) (o : Own) : ∃ d : List (Int × Int), d.length ≤ 1 ∧ ∀ H, calls Tryz.prog cfg4 36 [.sl o (sg.map encSg), .agg (encSt deadS), .agg (encOp x)] H = some (.ret (.sl .sh (encAs d)) H) := by
 have rs : Tryz.f36.results.toList = [.tmp 6] := rfl
 have e0 : sanL [AV.sl o (sg.map encSg), .agg (encSt deadS), .agg (encOp x)] = [.sl .sh (sg.map encSg), .agg (encSt deadS), .agg (encOp x)] := by simp only [sanL, san, sanLL_Sg, sanL_encSt, encOp]
 obtain ⟨n, hf⟩ := f_find sg hl x.nm .sh
 have h1 := encSt_one deadS
 have h2 := encSt_len deadS
 have h3 := encSt_take deadS
 obtain ⟨k, nn, nm⟩ := x
 simp only at hf
 have hv := fun H => f_var H deadS deadS_ok nm
 by_cases e0' : k = 0
 ·subst e0'
  refine ⟨[(0, 0)], Nat.le_refl _, fun H => calls_pure (fn := Tryz.f36) rfl rfl rfl rfl rfl ?_ H⟩
  have d0 : decide ((0 : Int) = 0) = true := rfl
  rw [e0]
  simp only [go_sem, simprocAttr, rs, h1, h2, h3, encOp, d0, f_one]
 have d0 : decide (k = 0) = false := by simpa using e0'
 by_cases e1 : k = 1
 ·subst e1
  refine ⟨[(1, 0)], Nat.le_refl _, fun H => calls_pure (fn := Tryz.f36) rfl rfl rfl rfl rfl ?_ H⟩
  have d1 : decide ((1 : Int) = 1) = true := rfl
  rw [e0]
  simp only [go_sem, simprocAttr, rs, h1, h2, h3, encOp, d0, d1, f_one]
 have d1 : decide (k = 1) = false := by simpa using e1
 by_cases e2 : k = 2
 ·subst e2
  refine ⟨[(2, 0)], Nat.le_refl _, fun H => calls_pure (fn := Tryz.f36) rfl rfl rfl rfl rfl ?_ H⟩
  have d2 : decide ((2 : Int) = 2) = true := rfl
  rw [e0]
  simp only [go_sem, simprocAttr, rs, h1, h2, h3, encOp, d0, d1, d2, f_one]
 have d2 : decide (k = 2) = false := by simpa using e2
 by_cases e3 : k = 3
 ·subst e3
  have d3 : decide ((3 : Int) = 3) = true := rfl
  have d4 : decide ((3 : Int) = 4) = false := rfl
  by_cases hn : 0 ≤ n
  ·refine ⟨[(3, n)], Nat.le_refl _, fun H => calls_pure (fn := Tryz.f36) rfl rfl rfl rfl rfl ?_ H⟩
   have dn : decide (0 ≤ n) = true := by simpa using hn
   have hb : aBuildSlice Tryz.prog 50 1 [(0, .agg [.lit (.int .i64 3), .lit (.int .i64 n)])] = some (.sl .ex [avA (3, n)]) := bs1_atm (3, n)
   rw [e0]
   simp only [go_sem, simprocAttr, rs, h1, h2, h3, encOp, d0, d1, d2, d3, dn, hf, hb]
   rfl
  ·refine ⟨[], Nat.zero_le _, fun H => calls_pure (fn := Tryz.f36) rfl rfl rfl rfl rfl ?_ H⟩
   have dn : decide (0 ≤ n) = false := by simpa using hn
   rw [e0]
   simp only [go_sem, simprocAttr, rs, h1, h2, h3, encOp, d0, d1, d2, d3, dn, hf]
   rfl
 have d3 : decide (k = 3) = false := by simpa using e3
 by_cases e4 : k = 4
 ·subst e4
  refine ⟨varA nm deadS.vars, Nat.le_refl _, fun H => calls_pure (fn := Tryz.f36) rfl rfl rfl rfl rfl ?_ H⟩
  have d4 : decide ((4 : Int) = 4) = true := rfl
  rw [e0]
  simp only [go_sem, simprocAttr, rs, h1, h2, h3, encOp, d0, d1, d2, d3, d4, hv]
 have d4 : decide (k = 4) = false := by simpa using e4
 refine ⟨[], Nat.zero_le _, fun H => calls_pure (fn := Tryz.f36) rfl rfl rfl rfl rfl ?_ H⟩
 rw [e0]
 simp only [go_sem, simprocAttr, rs, h1, h2, h3, encOp, d0, d1, d2, d3, d4]
 rfl
theorem f_condS (d : List (Int × Int)) (hl : d.length ≤ LA) (o : Own) (H : Heap) : calls Tryz.prog cfg4 34 [.agg (encSt deadS), .sl o (encAs d)] H = some (.ret (.tup [.lit (.bool false), .lit (.int .i64 0)]) H) := by
 refine calls_pure (fn := Tryz.f34) rfl rfl rfl rfl rfl ?_ H
 have rs : Tryz.f34.results.toList = [.tmp 4, .tmp 5] := rfl
 have e0 : sanL [AV.agg (encSt deadS), .sl o (encAs d)] = [.agg (encSt deadS), .sl .sh (encAs d)] := by simp only [sanL, san, sanLL_encAs, sanL_encSt]
 have h1 := encSt_one deadS
 have hs0 : (encSt deadS)[0]? = some (.lit (.bool true)) := rfl
 have hn := fun H => f_norm .sh H d hl
 rw [e0]
 simp only [go_sem, simprocAttr, rs, h1, hs0, hn]
theorem f_cond (sg : List Sg) (hl : sg.length ≤ LA) (g : GS) (hga : g.a.length ≤ LA) (n : Int) (o : Own) : ∃ e : Int, ∀ H, calls Tryz.prog cfg4 146 [.agg [.sl o (sg.map encSg)], .agg (encSt deadS), .agg (encG g), .lit (.int .i64 n)] H =
  some (.ret (.tup [.sl .sh [], .lit (.int .i64 e)]) H) := by
 have rs : Tryz.f146.results.toList = [.tmp 8, .tmp 9] := rfl
 have e0 : sanL [AV.agg [.sl o (sg.map encSg)], .agg (encSt deadS), .agg (encG g), .lit (.int .i64 n)] = [.agg [.sl .sh (sg.map encSg)], .agg (encSt deadS), .agg (encG g), .lit (.int .i64 n)] := by simp only [sanL, san, sanLL_Sg, sanL_encSt, sanL_encG]
 have h1 := encSt_one deadS
 have h2 := encSt_len deadS
 have h3 := encSt_take deadS
 have x1 := encG_one g
 have x4 := encG_a g
 cases ha : g.a with
 | nil =>
  rw [ha] at x4
  refine ⟨1, fun H => calls_pure (fn := Tryz.f146) rfl rfl rfl rfl rfl ?_ H⟩
  rw [e0]
  have d0 : decide (((0 : Nat) : Int) = 0) = true := rfl
  simp only [go_sem, simprocAttr, rs, h1, h2, h3, x1, x4, List.map_nil, List.length_nil, d0]
 | cons a xs =>
  rw [ha] at x4 hga
  obtain ⟨d, hd, hv⟩ := f_val sg hl a .sh
  refine ⟨0, fun H => calls_pure (fn := Tryz.f146) rfl rfl rfl rfl rfl ?_ H⟩
  rw [e0]
  have hdl : d.length ≤ LA := Nat.le_trans hd (by decide)
  have hn := fun H => f_norm .sh H d hdl
  have hnl : (normA d).length ≤ LA := Nat.le_trans (normA_le d) hdl
  have hcs := fun H => f_condS (normA d) hnl .sh H
  have d0 : decide (((xs.length + 1 : Nat) : Int) = 0) = false := by simp; omega
  have hi := iad_map (f := encOp) (l := a :: xs) (i := 0) (t := 48) (n := 3) (b := 32) (o := .sh) (by simp) (fun _ => rfl)
  simp only [List.getElem_cons_zero] at hi
  have o1 : (encOp a).length = 3 := rfl
  have o2 : (encOp a).take 3 = encOp a := rfl
  simp only [go_sem, simprocAttr, rs, h1, h2, h3, x1, x4, List.length_map, List.length_cons, d0]
  refine W_drawH [(0, 2), (0, 3), (2, 3), (0, 5), (2, 5), (3, 5), (0, 7), (2, 7), (3, 7), (0, 8), (0, 9)] (by kernel_rfl) _ (by simp only [go_sem, simprocAttr, hoH]; rfl) ?_
  have i1 : cfg4.imp 36 = false := rfl
  have i2 : cfg4.imp 60 = false := rfl
  have i3 : cfg4.imp 34 = false := rfl
  simp only [go_sem, simprocAttr, rs, h1, h2, h3, x1, x4, List.length_map, List.length_cons, d0, hi, o1, o2, hv, hn, hcs, i1, i2, i3]
end Go.Proofs.YtnoahchdmkpleaaGreat.VA

/-! Fl4 -/
namespace Go.Proofs.YtnoahchdmkpleaaGreat.VA
open Go Go.RowKit
attribute [local go_sem] Nat.add_eq_left Nat.left_eq_add true_and and_true ite_true if_false Int.cast_ofNat_Int eq_self Nat.add_assoc Option.some.injEq decide_true decide_false Bool.not_true Bool.not_false List.size_toArray List.length_cons List.length_nil
set_option linter.unusedSimpArgs false
set_option linter.unusedVariables false
set_option maxRecDepth 100000

/-- May one append: to what one owns, to nil, to a literal. -/
def AnyOk (H : Heap) (o : Own) (es : List (List AV)) (e : TypeId) (sz : Nat) : Prop :=
 match o with
 | .ex => firstLen sz es = true
 | o => OwnOk H o e sz
theorem append_lit {P : Program} {t : TypeId} {e : TypeId} {sz bs : Nat} {o o' : Own} {es xs : List (List AV)} {x : List AV} (ht : tElem P t = some (e, sz, bs)) (hz : zeroOk P e sz = true) (hs : 0 < sz)
  (hb : (es.length + (xs.length + 1)) * bs ≤ 140737488355328) (hl : es.length + (xs.length + 1) ≤ 140737488355328) (hx : x.length = sz) (H : Heap) (id : Nat) (ho : AnyOk H o es e sz) (hmu : mutT e = false := by rfl) :
  aAppend P t (.sl o es) (.sl o' (x :: xs)) H id = some (.sl (.own id e sz) (es ++ sanLL (x :: xs)), ownUs o id, ownRs o) := by
 cases o with
 | ex =>
  have h : firstLen sz es = true := ho
  simp only [aAppend, ht]
  rw [if_pos ⟨hx, hs, hz, hb, hl⟩, if_pos h]
  rfl
 | nil => exact append_eq ht hz hs hb hl hx H id ho hmu
 | own k e' z => exact append_eq ht hz hs hb hl hx H id ho hmu
 | sh => exact ho.elim
/-- The cells of a flow without casts and faults. -/
def encFl (o : Own) (l : List Sta) (c f : Own) (s : Sta) : List AV := [.sl o (l.map encSt), .sl c [], .sl f [], .lit (.bool s.dead), .sl .sh (s.vars.map encB), .sl .sh (s.locs.map encL)]
theorem sanLL_St (l : List Sta) : sanLL (l.map encSt) = l.map encSt := by
 induction l with
 | nil => rfl
 | cons x l ih => simp only [List.map_cons, sanLL, ih, sanL_encSt]
/-- What was there stays; so does what may be appended to, but for one. -/
structure Frl (x : Own) (H H' : Heap) : Prop where
 f : Frm H H'
 lv : ∀ k, k < H.next → (∀ e z, x ≠ .own k e z) → H'.isLive k = H.isLive k
theorem Frl.refl (x : Own) (H : Heap) : Frl x H H := ⟨Frm.refl H, fun _ _ _ => rfl⟩
theorem Frl.up {x : Own} {H H1 : Heap} (h : Frl x H H1) (n : Nat) : Frl x H (H1.up n) := ⟨h.f.up n, h.lv⟩
theorem Frl.put {x : Own} {H H1 : Heap} (h : Frl x H H1) {b : Nat} (cs : List AV) (hb : H.next ≤ b) : Frl x H (H1.put b cs) := ⟨h.f.put cs hb, h.lv⟩
theorem Frl.trans {x : Own} {H H1 H2 : Heap} (h : Frl x H H1) (k : Frl .nil H1 H2) : Frl x H H2 :=
 ⟨h.f.trans k.f, fun i hi hx => (k.lv i (Nat.lt_of_lt_of_le hi h.f.nx) (fun _ _ e => by cases e)).trans (h.lv i hi hx)⟩
theorem Frl.owns {x : Own} {H H1 : Heap} (h : Frl x H H1) {o : Own} {b : Nat} (hb : H.next ≤ b) (ho : ∀ k e z, o = .own k e z → H.next ≤ k ∨ x = .own k e z) : Frl x H (appU H1 (ownUs o b)) := by
 have hf : Frm H (appU H1 (ownUs o b)) := ⟨by rw [ownUs_next]; exact h.f.nx, fun k hk => by
  have := h.f.ho k hk
  cases o <;> exact this⟩
 refine ⟨hf, fun k hk hx => ?_⟩
 have h1 := h.lv k hk hx
 rw [← h1]
 cases o with
 | own k' e z =>
  have hne : k' ≠ k := by
   rintro rfl
   rcases ho k' e z rfl with h2 | h2
   ·omega
   ·exact hx e z h2
  simp only [ownUs, appU, U.app, List.foldl_cons, List.foldl_nil]
  rw [Heap.isLive_setLive, if_neg (by omega), Heap.isLive_setLive, if_neg hne]
 | nil => simp only [ownUs, appU, U.app, List.foldl_cons, List.foldl_nil]; rw [Heap.isLive_setLive, if_neg (by omega)]
 | sh => simp only [ownUs, appU, U.app, List.foldl_cons, List.foldl_nil]; rw [Heap.isLive_setLive, if_neg (by omega)]
 | ex => simp only [ownUs, appU, U.app, List.foldl_cons, List.foldl_nil]; rw [Heap.isLive_setLive, if_neg (by omega)]
theorem AnyOk_up (H : Heap) (k : Nat) (o : Own) (es : List (List AV)) (e : TypeId) (sz : Nat) : AnyOk (H.up k) o es e sz = AnyOk H o es e sz := by cases o <;> rfl
theorem AnyOk_put (H : Heap) (r : Nat) (cs : List AV) (o : Own) (es : List (List AV)) (e : TypeId) (sz : Nat) : AnyOk (H.put r cs) o es e sz = AnyOk H o es e sz := by cases o <;> rfl
theorem AnyOk_ownUs (H : Heap) (o : Own) (id : Nat) (es : List (List AV)) (e : TypeId) (sz : Nat) : AnyOk (appU H (ownUs o id)) (.own id e sz) es e sz := by
 have := OwnOk_ownUs (H := H) (id := id) o e sz
 exact this.mpr trivial
theorem bs1_sta (s : Sta) : aBuildSlice Tryz.prog 54 1 [(0, .agg (encSt s))] = some (.sl .ex [encSt s]) := build1 el_sSta (by decide) zr_sta rfl rfl _ rfl rfl
theorem f_then (oa ob ca cb fa fb : Own) (la lb : List Sta) (u0 u1 u2 : AV) (sb : Sta) (hu0 : u0.one = true) (hu1 : u1.one = true) (hu2 : u2.one = true) (hok : ∀ s, s ∈ lb → StOk s) (hlen : la.length + lb.length ≤ LA) (H0 : Heap) (ho : AnyOk H0 oa (la.map encSt) 26 3) (hlt : ∀ k e z, oa = .own k e z → k < H0.next) :
  ∃ v H', calls Tryz.prog cfg4 54 [.agg [.sl oa (la.map encSt), .sl ca [], .sl fa [], u0, u1, u2], .agg (encFl ob lb cb fb sb)] H0 = some (.ret v H') ∧ ∃ o', v = .agg (encFl o' (la ++ lb) ca fa sb) ∧ Frl oa H0 H' ∧
   AnyOk H' o' ((la ++ lb).map encSt) 26 3 ∧ (lb = [] → o' = oa) ∧ (lb ≠ [] → ∃ k e z, o' = .own k e z ∧ H0.next ≤ k ∧ k < H'.next) := by
 refine calls_arr (fn := Tryz.f54) rfl rfl rfl rfl rfl ?_
 have rs : Tryz.f54.results.toList = [.cell 4 57] := rfl
 obtain ⟨m, hm⟩ : ∃ m, H0.next = m := ⟨_, rfl⟩
 unfold encFl
 simp only [go_sem, simprocAttr, rs, hm, List.length_map, hu0, hu1, hu2]
 have hp0 : ∀ H id, aAppend Tryz.prog 38 (.sl ca []) (.sl cb []) H id = some (.sl ca [], [], []) := fun H id => by simp [aAppend, el_sCst]
 have hp1 : ∀ H id, aAppend Tryz.prog 55 (.sl fa []) (.sl fb []) H id = some (.sl fa [], [], []) := fun H id => by simp [aAppend, el_sFau]
 refine W_loop_ind (fun k e H => ∃ (i : Nat) (o : Own), k = lb.length - i ∧ i ≤ lb.length ∧ H.get m = some [.sl o ((la ++ lb.take i).map encSt), .sl ca [], .sl fa [], u0, u1, u2] ∧
   H.get (m + 1) = some [.sl ob (lb.map encSt), .sl cb [], .sl fb [], .lit (.bool sb.dead), .sl .sh (sb.vars.map encB), .sl .sh (sb.locs.map encL)] ∧ H.get (m + 2) = some [.sl .nil [], .sl .nil [], .sl .nil [], .lit (.bool false), .sl .nil [], .sl .nil []] ∧
   Frl oa H0 H ∧ m + 3 ≤ H.next ∧ AnyOk H o ((la ++ lb.take i).map encSt) 26 3 ∧ (i = 0 → o = oa) ∧ (i ≠ 0 → ∃ k e z, o = .own k e z ∧ m ≤ k ∧ k < H.next) ∧
   gget .bad e 2 = .ptr m 0 ∧ gget .bad e 3 = .ptr (m + 1) 0 ∧ gget .bad e 4 = .ptr (m + 2) 0 ∧ gget .bad e 8 = .sl ob (lb.map encSt) ∧ gget .bad e 9 = .lit (.int .i64 (lb.length : Nat)) ∧ gget .bad e 10 = .lit (.int .i64 (i : Nat)))
  lb.length ⟨0, oa, rfl, by omega, by simp only [go_sem, simprocAttr, List.take_zero, List.append_nil], by simp only [go_sem, simprocAttr], by simp only [go_sem, simprocAttr], by repeat (first | exact Frl.refl _ _ | refine Frl.up ?_ _ | refine Frl.put ?_ _ (by omega)), by simp only [go_sem, simprocAttr, hm]; omega, by simpa only [go_sem, simprocAttr, List.take_zero, List.append_nil, AnyOk_up, AnyOk_put] using ho, fun _ => rfl, fun h => absurd rfl h, by simp only [go_sem, simprocAttr, Nat.add_zero], by simp only [go_sem, simprocAttr], by simp only [go_sem, simprocAttr], by simp only [go_sem, simprocAttr], by simp only [go_sem, simprocAttr], by simp only [go_sem, simprocAttr]⟩ ?_
 rintro k ih e H ⟨i, o, rfl, hle, g0, g1, g2, hF, hnx, hA, hz, hnz, e2, e3, e4, e8, e9, e10⟩
 obtain ⟨n, hn⟩ : ∃ n, H.next = n := ⟨_, rfl⟩
 rw [hn] at hnx
 by_cases hl : i < lb.length
 ·have d1 : decide ((i : Int) < (lb.length : Nat)) = true := by simp; omega
  have ha := iad_map (f := encSt) (t := 26) (n := 3) (b := 56) (o := ob) hl (fun _ => rfl)
  have hw1 := wrap1 (show i + 1 ≤ 9223372036854775807 by unfold LA at hlen; omega)
  have h1 := encSt_one lb[i]
  have h2 := encSt_len lb[i]
  have h3 := encSt_take lb[i]
  have hcp := fun H => f_copy H lb[i] (hok _ (List.getElem_mem hl))
  have n0 : ∀ j, ¬ n + j = m := fun j => by omega
  have n1 : ∀ j, ¬ n + j = m + 1 := fun j => by omega
  have n2 : ∀ j, ¬ n + j = m + 2 := fun j => by omega
  have n3 : ∀ j, ¬ m = n + j := fun j => by omega
  simp only [go_sem, simprocAttr, e2, e3, e4, e8, e9, e10, hn, g0, g1, g2, d1, ha, hu0, hu1, hu2, h1, h2, h3, n0, n1, n2]
  refine W_drawH [(1, 2), (1, 3)] (by kernel_rfl) _ (by simp only [go_sem, simprocAttr, hoH]; rfl) ?_
  have i1 : cfg4.imp 48 = false := rfl
  have hb := bs1_sta lb[i]
  have hlen2 : ((la ++ lb.take i).map encSt).length + (0 + 1) ≤ LA := by simp; omega
  have hap : ∀ (H' : Heap) (id : Nat), AnyOk H' o ((la ++ lb.take i).map encSt) 26 3 →
    aAppend Tryz.prog 54 (.sl o ((la ++ lb.take i).map encSt)) (.sl .ex [encSt lb[i]]) H' id = some (.sl (.own id 26 3) ((la ++ lb.take (i + 1)).map encSt), ownUs o id, ownRs o) := fun H' id h => by
   rw [append_lit el_sSta zo_sSta (by decide) (by unfold LA at hlen2; simp only [List.length_nil]; omega) (by unfold LA at hlen2; simp only [List.length_nil]; omega) rfl H' id h]
   rw [List.take_succ_eq_append_getElem hl]
   simp only [sanLL, sanL_encSt, List.map_append, List.map_cons, List.map_nil, List.append_assoc]
  simp only [go_sem, simprocAttr, e2, e3, e4, e8, e9, e10, hn, g0, g1, g2, hu0, hu1, hu2, h1, h2, h3, n0, n1, n2, n3, hcp, i1, hb, hap, AnyOk_up, AnyOk_put, hA]
  have hown : ∀ k e z, o = .own k e z → H0.next ≤ k ∨ oa = .own k e z := by
   intro k e z hk
   by_cases h0 : i = 0
   ·right; rw [← hz h0]; exact hk
   ·obtain ⟨k', e', z', q1, q2, q3⟩ := hnz h0
    rw [q1] at hk
    cases hk
    left; omega
  exact ih (lb.length - (i + 1)) (by omega) _ _ ⟨i + 1, .own (n + 10) 26 3, rfl, by omega, by simp only [go_sem, simprocAttr, n0, n1, n2, n3], by simp only [go_sem, simprocAttr, n0, n1, n2, n3, g1], by simp only [go_sem, simprocAttr, n0, n1, n2, n3, g2],
   by repeat (first | exact hF | refine Frl.up ?_ _ | refine Frl.put ?_ _ (by omega) | refine Frl.owns ?_ (by omega) hown), by simp only [go_sem, simprocAttr, ownUs_next, hn]; omega,
   by simp only [AnyOk_up, AnyOk_put]; exact AnyOk_ownUs _ _ _ _ _ _, fun h => absurd h (by omega), fun _ => ⟨_, _, _, rfl, by omega, by simp only [go_sem, simprocAttr, ownUs_next, hn]; omega⟩,
   by simp only [go_sem, simprocAttr, e2], by simp only [go_sem, simprocAttr, e3], by simp only [go_sem, simprocAttr, e4], by simp only [go_sem, simprocAttr, e8], by simp only [go_sem, simprocAttr, e9], by simp only [go_sem, simprocAttr, hw1]⟩
 ·have d1 : decide ((i : Int) < (lb.length : Nat)) = false := by simp; omega
  have n0 : ¬ m + 1 = m := by omega
  have n1 : ¬ m + 2 = m := by omega
  have n2 : ¬ m + 2 = m + 1 := by omega
  have n3 : ¬ m = m + 1 := by omega
  have n4 : ¬ m = m + 2 := by omega
  have hi : i = lb.length := by omega
  subst hi
  rw [List.take_length] at g0 hA
  simp only [go_sem, simprocAttr, e2, e3, e4, e8, e9, e10, hn, g0, g1, g2, hu0, hu1, hu2, d1, rs, hp0, hp1, n0, n1, n2, n3, n4]
  exact ⟨_, rfl, o, rfl, by repeat (first | exact hF | refine Frl.up ?_ _ | refine Frl.put ?_ _ (by omega)), by first | exact hA | simpa only [AnyOk_up, AnyOk_put] using hA, fun h => hz (by rw [h]; rfl), fun h => by
   obtain ⟨k, e, z, h1, h2, h3⟩ := hnz (fun h0 => h (List.length_eq_zero_iff.1 h0))
   exact ⟨k, e, z, h1, by omega, by first | exact h3 | omega | (simp only [go_sem, simprocAttr]; omega)⟩⟩
end Go.Proofs.YtnoahchdmkpleaaGreat.VA

/-! Fl5 -/
namespace Go.Proofs.YtnoahchdmkpleaaGreat.VA
open Go Go.RowKit
attribute [local go_sem] Nat.add_eq_left Nat.left_eq_add true_and and_true ite_true if_false Int.cast_ofNat_Int eq_self Nat.add_assoc Option.some.injEq decide_true decide_false Bool.not_true Bool.not_false List.size_toArray List.length_cons List.length_nil
set_option linter.unusedSimpArgs false
set_option linter.unusedVariables false
set_option maxRecDepth 100000

theorem f_sJoin (H : Heap) : calls Tryz.prog cfg4 55 [.agg (encSt deadS), .agg (encSt deadS)] H = some (.ret (.agg (encSt deadS)) H) := by
 refine calls_pure (fn := Tryz.f55) rfl rfl rfl rfl rfl ?_ H
 have rs : Tryz.f55.results.toList = [.cell 4 26] := rfl
 have h1 := encSt_one deadS
 have h2 := encSt_len deadS
 have h3 := encSt_take deadS
 have hs0 : (encSt deadS)[0]? = some (.lit (.bool true)) := rfl
 have hm : ∀ H, calls Tryz.prog cfg4 45 [.agg (encSt deadS)] H = some (.ret (.lit (.bool true)) H) := fun H => f_may H deadS deadS_ok
 have hc := fun H => f_copy H deadS deadS_ok
 simp only [go_sem, simprocAttr, rs, sanL_encSt, h1, h2, h3, hs0, hm, hc]
theorem f_dead (H : Heap) : calls Tryz.prog cfg4 145 [] H = some (.ret (.agg (encSt deadS)) H) := calls_iff.2 ⟨10, by kernel_rfl⟩
theorem f_samed (H : Heap) : calls Tryz.prog cfg4 147 [.agg (encSt deadS), .agg (encSt deadS)] H = some (.ret (.lit (.bool true)) H) := calls_iff.2 ⟨30, by kernel_rfl⟩
theorem Frl.trans' {x o : Own} {H H1 H2 : Heap} (h : Frl x H H1) (k : Frl o H1 H2) (ho : ∀ k e z, o = .own k e z → H.next ≤ k) : Frl x H H2 :=
 ⟨h.f.trans k.f, fun i hi hx => (k.lv i (Nat.lt_of_lt_of_le hi h.f.nx) (fun e z he => by have := ho i e z he; omega)).trans (h.lv i hi hx)⟩
theorem Frl.keeps {x : Own} {H H' : Heap} (h : Frl x H H') {r : Nat} (hr : r < H.next) (hx : ∀ e z, x ≠ .own r e z) : Keeps H H' r := ⟨(h.f.ho r hr).symm, (h.lv r hr hx).symm⟩
/-- The Dead states. -/
def dds (n : Nat) : List Sta := List.replicate n deadS
theorem dds_ok {n : Nat} : ∀ s, s ∈ dds n → StOk s := fun s hs => by rw [List.eq_of_mem_replicate hs]; exact deadS_ok
theorem dds_app (a b : Nat) : dds a ++ dds b = dds (a + b) := List.replicate_append_replicate
theorem dds_len (a : Nat) : (dds a).length = a := List.length_replicate
theorem f_Join (oa ob ca cb fa fb : Own) (a b : Nat) (hlen : a + b ≤ LA) (H0 : Heap) :
  ∃ v H', calls Tryz.prog cfg4 23 [.agg (encFl oa (dds a) ca fa deadS), .agg (encFl ob (dds b) cb fb deadS)] H0 = some (.ret v H') ∧ ∃ o', v = .agg (encFl o' (dds (a + b)) .nil .nil deadS) ∧ Frl .nil H0 H' := by
 refine calls_arr (fn := Tryz.f23) rfl rfl rfl rfl rfl ?_
 have rs : Tryz.f23.results.toList = [.cell 4 57] := rfl
 obtain ⟨m, hm⟩ : ∃ m, H0.next = m := ⟨_, rfl⟩
 have t1 := fun H => f_then .nil oa .nil ca .nil fa [] (dds a) (.lit (.bool false)) (.sl .nil []) (.sl .nil []) deadS rfl rfl rfl dds_ok (by rw [dds_len]; simp; omega) H trivial (fun _ _ _ h => by cases h)
 unfold encFl at t1 ⊢
 have z1 : ¬ m + 1 = m := by omega
 have z2 : ¬ m + 2 = m := by omega
 have z3 : ¬ m + 2 = m + 1 := by omega
 simp only [go_sem, simprocAttr, rs, hm, Nat.add_zero]
 refine W_drawH [(1, 3), (2, 3), (1, 5), (2, 5), (3, 5), (4, 5)] (by kernel_rfl) _ (by simp only [go_sem, simprocAttr, hoH]; rfl) ?_
 have i1 : cfg4.imp 54 = true := rfl
 simp only [go_sem, simprocAttr, rs, hm, Nat.add_zero, z1, z2, z3]
 refine dK_ex (t1 _) i1 ?_
 rintro v H1 ⟨o1, rfl, hF1, hA1, hz1, hnz1⟩
 have n1 := hF1.f.nx
 simp only [go_sem, simprocAttr, hm] at n1
 obtain ⟨q, hq⟩ : ∃ q, H1.next = q := ⟨_, rfl⟩
 have z4 : m < q := by omega
 have g1 : H1.get (m + 1) = some [.sl ob ((dds b).map encSt), .sl cb [], .sl fb [], .lit (.bool deadS.dead), .sl .sh (deadS.vars.map encB), .sl .sh (deadS.locs.map encL)] := by
  rw [hF1.f.get (by simp only [go_sem, simprocAttr, hm]; omega)]; simp only [go_sem, simprocAttr, z1, z2, z3]
 have g2 : H1.get (m + 2) = some [.sl .nil [], .sl .nil [], .sl .nil [], .lit (.bool false), .sl .nil [], .sl .nil []] := by
  rw [hF1.f.get (by simp only [go_sem, simprocAttr, hm]; omega)]; simp only [go_sem, simprocAttr, z1, z2, z3]
 have lo1 : ∀ k e z, o1 = .own k e z → m + 10 ≤ k ∧ k < q := by
  intro k e z hk
  by_cases h0 : dds a = []
  ·rw [hz1 h0] at hk; cases hk
  ·obtain ⟨k', e', z', q1, q2, q3⟩ := hnz1 h0
   rw [q1] at hk; cases hk
   simp only [go_sem, simprocAttr, hm] at q2
   omega
 have t2 := f_then o1 ob .nil cb .nil fb (dds a) (dds b) (.lit (.bool deadS.dead)) (.sl .sh (deadS.vars.map encB)) (.sl .sh (deadS.locs.map encL)) deadS rfl rfl rfl dds_ok (by rw [dds_len, dds_len]; exact hlen)
 unfold encFl at t2
 simp only [go_sem, simprocAttr, g1, List.nil_append]
 refine dK_ex (t2 _ (by simpa only [List.nil_append, AnyOk_up, AnyOk_put] using hA1) (fun k e z hk => by have := lo1 k e z hk; simp only [go_sem, simprocAttr, hq]; omega)) i1 ?_
 rintro v H2 ⟨o2, rfl, hF2, hA2, hz2, hnz2⟩
 have n2 := hF2.f.nx
 rw [hq] at n2
 obtain ⟨q2, hq2⟩ : ∃ q2, H2.next = q2 := ⟨_, rfl⟩
 rw [hq2] at n2
 have k2 : ∀ k, k < q → H2.get k = H1.get k := fun k hk => hF2.f.get (by rw [hq]; exact hk)
 have z8 : ¬ m + 8 = m := by omega
 have z9 : ¬ m + 8 = m + 1 := by omega
 have z10 : ¬ m + 8 = m + 2 := by omega
 have z11 : ¬ m = m + 8 := by omega
 have z12 : ¬ m + 1 = m + 8 := by omega
 have z13 : ¬ m + 2 = m + 8 := by omega
 have h0 : H2.get m = some [.sl oa ((dds a).map encSt), .sl ca [], .sl fa [], .lit (.bool deadS.dead), .sl .sh (deadS.vars.map encB), .sl .sh (deadS.locs.map encL)] := by
  rw [k2 m (by omega), hF1.f.get (by simp only [go_sem, simprocAttr, hm]; omega)]; simp only [go_sem, simprocAttr, z1, z2, z3, z8, z9, z10, z11, z12, z13]
 have h1 : H2.get (m + 1) = some [.sl ob ((dds b).map encSt), .sl cb [], .sl fb [], .lit (.bool deadS.dead), .sl .sh (deadS.vars.map encB), .sl .sh (deadS.locs.map encL)] := by rw [k2 (m + 1) (by omega)]; exact g1
 have h8 : H2.get (m + 8) = some [.sl .nil [], .sl .nil [], .sl .nil [], .lit (.bool false), .sl .nil [], .sl .nil []] := by
  rw [k2 (m + 8) (by omega), hF1.f.get (by simp only [go_sem, simprocAttr, hm]; omega)]; simp only [go_sem, simprocAttr]
 have h2 : H2.get (m + 2) = some [.sl .nil [], .sl .nil [], .sl .nil [], .lit (.bool false), .sl .nil [], .sl .nil []] := by rw [k2 (m + 2) (by omega)]; exact g2
 have hj := fun H => f_sJoin H
 unfold encSt at hj
 simp only [go_sem, simprocAttr, rs, hq2, h0, h1, h2, h8, z1, z2, z3, z8, z9, z10, z11, z12, z13, hj]
 refine ⟨⟨hF1.keeps (by simp only [go_sem, simprocAttr, hm]; omega) (fun _ _ h => by cases h), hF1.keeps (by simp only [go_sem, simprocAttr, hm]; omega) (fun _ _ h => by cases h), hF2.keeps (by omega) (fun e z h => by have := lo1 _ _ _ h; omega)⟩, ?_⟩
 have hF : Frl .nil H0 H2 := Frl.trans' (Frl.trans (H1 := _) (by repeat (first | exact Frl.refl _ _ | refine Frl.up ?_ _ | refine Frl.put ?_ _ (by omega))) hF1) hF2 (fun k e z h => by have := lo1 _ _ _ h; omega)
 exact ⟨_, rfl, o2, by rw [dds_app]; rfl, by repeat (first | exact hF | refine Frl.up ?_ _ | refine Frl.put ?_ _ (by omega))⟩
end Go.Proofs.YtnoahchdmkpleaaGreat.VA

/-! Fl6 -/
namespace Go.Proofs.YtnoahchdmkpleaaGreat.VA
open Go Go.RowKit
attribute [local go_sem] Nat.add_eq_left Nat.left_eq_add true_and and_true ite_true if_false Int.cast_ofNat_Int eq_self Nat.add_assoc Option.some.injEq decide_true decide_false Bool.not_true Bool.not_false List.size_toArray List.length_cons List.length_nil
set_option linter.unusedSimpArgs false
set_option linter.unusedVariables false
set_option maxRecDepth 100000

theorem app_dead (o : Own) (n : Nat) (hn : n + 1 ≤ LA) (H : Heap) (id : Nat) (h : AnyOk H o ((dds n).map encSt) 26 3) :
  aAppend Tryz.prog 54 (.sl o ((dds n).map encSt)) (.sl .ex [encSt deadS]) H id = some (.sl (.own id 26 3) ((dds (n + 1)).map encSt), ownUs o id, ownRs o) := by
 have hl : ((dds n).map encSt).length = n := by rw [List.length_map, dds_len]
 unfold LA at hn
 rw [append_lit el_sSta zo_sSta (by decide) (by rw [hl, List.length_nil]; omega) (by rw [hl, List.length_nil]; omega) rfl H id h]
 have e : dds (n + 1) = dds n ++ [deadS] := by rw [← dds_app]; rfl
 rw [e]
 simp only [sanLL, sanL_encSt, List.map_append, List.map_cons, List.map_nil]
/-- A statement that is not too great. -/
def GS.small (g : GS) : Prop := g.pr.length ≤ LA ∧ g.a.length ≤ LA ∧ cntL g.th + cntL g.el ≤ 200
theorem f_simple (sg : List Sg) (g : GS) (hg : g.small) (n site : Nat) (ow : Own) (H0 : Heap) :
  ∃ v H', calls Tryz.prog cfg4 96 [.agg [.sl ow (sg.map encSg)], .agg (encSt deadS), .agg (encG g), .lit (.int .i64 n), .lit (.int .i64 site)] H0 = some (.ret v H') ∧
   ∃ o', v = .agg (encFl o' (dds (1 + (cntL g.th + cntL g.el))) .sh .nil deadS) ∧ Frl .nil H0 H' := by
 refine calls_arr (fn := Tryz.f96) rfl rfl rfl rfl rfl ?_
 have rs : Tryz.f96.results.toList = [.cell 10 57] := rfl
 obtain ⟨m, hm⟩ : ∃ m, H0.next = m := ⟨_, rfl⟩
 obtain ⟨hp, ha, hc⟩ := hg
 have h1 := encSt_one deadS
 have h2 := encSt_len deadS
 have h3 := encSt_take deadS
 have x1 := encG_one g
 have x2 := encG_len g
 have x3 := encG_take g
 have x6 := encG_th g
 have x7 := encG_el g
 have hdo := fun H => f_do ow H (sg.map encSg) (sanLL_Sg sg) g hp site
 have z0_1 : ¬ m = m + 1 := by omega
 have z0_2 : ¬ m = m + 2 := by omega
 have z0_3 : ¬ m = m + 3 := by omega
 have z0_14 : ¬ m = m + 14 := by omega
 have z0_29 : ¬ m = m + 29 := by omega
 have z1_0 : ¬ m + 1 = m := by omega
 have z1_2 : ¬ m + 1 = m + 2 := by omega
 have z1_3 : ¬ m + 1 = m + 3 := by omega
 have z1_14 : ¬ m + 1 = m + 14 := by omega
 have z1_29 : ¬ m + 1 = m + 29 := by omega
 have z2_0 : ¬ m + 2 = m := by omega
 have z2_1 : ¬ m + 2 = m + 1 := by omega
 have z2_3 : ¬ m + 2 = m + 3 := by omega
 have z2_14 : ¬ m + 2 = m + 14 := by omega
 have z2_29 : ¬ m + 2 = m + 29 := by omega
 have z3_0 : ¬ m + 3 = m := by omega
 have z3_1 : ¬ m + 3 = m + 1 := by omega
 have z3_2 : ¬ m + 3 = m + 2 := by omega
 have z3_14 : ¬ m + 3 = m + 14 := by omega
 have z3_29 : ¬ m + 3 = m + 29 := by omega
 have z14_0 : ¬ m + 14 = m := by omega
 have z14_1 : ¬ m + 14 = m + 1 := by omega
 have z14_2 : ¬ m + 14 = m + 2 := by omega
 have z14_3 : ¬ m + 14 = m + 3 := by omega
 have z14_29 : ¬ m + 14 = m + 29 := by omega
 have z29_0 : ¬ m + 29 = m := by omega
 have z29_1 : ¬ m + 29 = m + 1 := by omega
 have z29_2 : ¬ m + 29 = m + 2 := by omega
 have z29_3 : ¬ m + 29 = m + 3 := by omega
 have z29_14 : ¬ m + 29 = m + 14 := by omega
 have d00 : decide ((0 : Int) < 0) = false := rfl
 have hc1 := fun H => f_count .sh H g.th (by omega)
 have hc2 := fun H => f_count .sh H g.el (by omega)
 have hw0 : IntKind.i64.wrap ((cntL g.th : Nat) + (cntL g.el : Nat)) = ((cntL g.th + cntL g.el : Nat) : Int) := by rw [wrapI (by omega)]; simp
 have i1 : cfg4.imp 99 = false := rfl
 have hbs := bs1_sta deadS
 simp only [go_sem, simprocAttr, rs, hm, Nat.add_zero, h1, h2, h3, x1, x2, x3, hdo, z0_1, z0_2, z0_3, z0_14, z0_29, z1_0, z1_2, z1_3, z1_14, z1_29, z2_0, z2_1, z2_3, z2_14, z2_29, z3_0, z3_1, z3_2, z3_14, z3_29, z14_0, z14_1, z14_2, z14_3, z14_29, z29_0, z29_1, z29_2, z29_3, z29_14]
 rw [W_loop]
 simp only [go_sem, simprocAttr, rs, hm, Nat.add_zero, h1, h2, h3, x1, x2, x3, d00, hbs, z0_1, z0_2, z0_3, z0_14, z0_29, z1_0, z1_2, z1_3, z1_14, z1_29, z2_0, z2_1, z2_3, z2_14, z2_29, z3_0, z3_1, z3_2, z3_14, z3_29, z14_0, z14_1, z14_2, z14_3, z14_29, z29_0, z29_1, z29_2, z29_3, z29_14]
 refine W_drawH [(1, 4), (2, 4)] (by kernel_rfl) _ (by simp only [go_sem, simprocAttr, hoH]; rfl) ?_
 simp only [go_sem, simprocAttr, rs, hm, Nat.add_zero, h1, h2, h3, x1, x2, x3, x6, x7, hc1, hc2, hw0, i1, z0_1, z0_2, z0_3, z0_14, z0_29, z1_0, z1_2, z1_3, z1_14, z1_29, z2_0, z2_1, z2_3, z2_14, z2_29, z3_0, z3_1, z3_2, z3_14, z3_29, z14_0, z14_1, z14_2, z14_3, z14_29, z29_0, z29_1, z29_2, z29_3, z29_14]
 generalize hNe : cntL g.th + cntL g.el = N at *
 refine W_loop_ind (fun k e H => ∃ (i : Nat) (o : Own), k = N - i ∧ i ≤ N ∧ H.get (m + 29) = some (.sl o ((dds (1 + i)).map encSt) :: .sl .sh [] :: .sl .nil [] :: encSt deadS) ∧ H.get (m + 3) = some [.sl .nil [], .sl .nil [], .sl .nil [], .lit (.bool false), .sl .nil [], .sl .nil []] ∧
   AnyOk H o ((dds (1 + i)).map encSt) 26 3 ∧ (∀ k e z, o = .own k e z → m ≤ k) ∧ Frl .nil H0 H ∧ m + 30 ≤ H.next ∧
   gget .bad e 15 = .ptr (m + 29) 0 ∧ gget .bad e 10 = .ptr (m + 3) 0 ∧ gget .bad e 56 = .lit (.int .i64 (N : Nat)) ∧ gget .bad e 57 = .lit (.int .i64 (i : Nat)))
  N ⟨0, .ex, rfl, by omega, by simp only [go_sem, simprocAttr, z0_1, z0_2, z0_3, z0_14, z0_29, z1_0, z1_2, z1_3, z1_14, z1_29, z2_0, z2_1, z2_3, z2_14, z2_29, z3_0, z3_1, z3_2, z3_14, z3_29, z14_0, z14_1, z14_2, z14_3, z14_29, z29_0, z29_1, z29_2, z29_3, z29_14] <;> rfl, by simp only [go_sem, simprocAttr, z0_1, z0_2, z0_3, z0_14, z0_29, z1_0, z1_2, z1_3, z1_14, z1_29, z2_0, z2_1, z2_3, z2_14, z2_29, z3_0, z3_1, z3_2, z3_14, z3_29, z14_0, z14_1, z14_2, z14_3, z14_29, z29_0, z29_1, z29_2, z29_3, z29_14], rfl, (fun _ _ _ h => by cases h), by repeat (first | exact Frl.refl _ _ | refine Frl.up ?_ _ | refine Frl.put ?_ _ (by omega)), by simp only [go_sem, simprocAttr, hm]; omega, by simp only [go_sem, simprocAttr], by simp only [go_sem, simprocAttr], by simp only [go_sem, simprocAttr], by simp only [go_sem, simprocAttr] <;> rfl⟩ ?_
 rintro k ih e H ⟨i, o, rfl, hle, g29, g3, hA, ho, hF, hnx, e15, e10, e56, e57⟩
 obtain ⟨q, hq⟩ : ∃ q, H.next = q := ⟨_, rfl⟩
 rw [hq] at hnx
 by_cases hl : i < N
 ·have d1 : decide ((i : Int) < (N : Nat)) = true := by simp; omega
  have hw1 := wrap1 (show i + 1 ≤ 9223372036854775807 by omega)
  have hap := fun H id h => app_dead o (1 + i) (by unfold LA; omega) H id h
  have i2 : cfg4.imp 145 = false := rfl
  simp only [go_sem, simprocAttr, e15, e10, e56, e57, hq, d1]
  refine W_drawH [(1, 2)] (by kernel_rfl) _ (by simp only [go_sem, simprocAttr, hoH]; rfl) ?_
  simp only [go_sem, simprocAttr, e15, e10, e56, e57, hq, g29, f_dead, i2, hbs, hap, AnyOk_up, hA, hw1]
  have q1 : ∀ j, ¬ q + j = m + 29 := fun j => by omega
  have q2 : ∀ j, ¬ q + j = m + 3 := fun j => by omega
  exact ih (N - (i + 1)) (by omega) _ _ ⟨i + 1, .own (q + 5) 26 3, rfl, by omega, by simp only [go_sem, simprocAttr, z0_1, z0_2, z0_3, z0_14, z0_29, z1_0, z1_2, z1_3, z1_14, z1_29, z2_0, z2_1, z2_3, z2_14, z2_29, z3_0, z3_1, z3_2, z3_14, z3_29, z14_0, z14_1, z14_2, z14_3, z14_29, z29_0, z29_1, z29_2, z29_3, z29_14] <;> rfl, by simp only [go_sem, simprocAttr, z0_1, z0_2, z0_3, z0_14, z0_29, z1_0, z1_2, z1_3, z1_14, z1_29, z2_0, z2_1, z2_3, z2_14, z2_29, z3_0, z3_1, z3_2, z3_14, z3_29, z14_0, z14_1, z14_2, z14_3, z14_29, z29_0, z29_1, z29_2, z29_3, z29_14, g3], by simp only [AnyOk_up, AnyOk_put]; exact AnyOk_ownUs _ _ _ _ _ _, fun k e z h => (by cases h; omega),
   by repeat (first | exact hF | refine Frl.up ?_ _ | refine Frl.put ?_ _ (by omega) | refine Frl.owns ?_ (by omega) (fun k e z hk => .inl (by have := ho k e z hk; omega))), by simp only [go_sem, simprocAttr, ownUs_next, hq]; omega,
   by simp only [go_sem, simprocAttr, e15], by simp only [go_sem, simprocAttr, e10], by simp only [go_sem, simprocAttr, e56], by simp only [go_sem, simprocAttr] <;> rfl⟩
 ·have d1 : decide ((i : Int) < (N : Nat)) = false := by simp; omega
  have hi : i = N := by omega
  subst hi
  simp only [go_sem, simprocAttr, e15, e10, e56, e57, hq, d1, rs, g29, g3, h1, h2, h3, z0_1, z0_2, z0_3, z0_14, z0_29, z1_0, z1_2, z1_3, z1_14, z1_29, z2_0, z2_1, z2_3, z2_14, z2_29, z3_0, z3_1, z3_2, z3_14, z3_29, z14_0, z14_1, z14_2, z14_3, z14_29, z29_0, z29_1, z29_2, z29_3, z29_14]
  exact ⟨_, rfl, o, rfl, by repeat (first | exact hF | refine Frl.up ?_ _ | refine Frl.put ?_ _ (by omega))⟩
end Go.Proofs.YtnoahchdmkpleaaGreat.VA

/-! Fl9 -/
namespace Go.Proofs.YtnoahchdmkpleaaGreat.VA
open Go Go.RowKit
attribute [local go_sem] Nat.add_eq_left Nat.left_eq_add true_and and_true ite_true if_false Int.cast_ofNat_Int eq_self Nat.add_assoc Option.some.injEq decide_true decide_false Bool.not_true Bool.not_false List.size_toArray List.length_cons List.length_nil
set_option linter.unusedSimpArgs false
set_option linter.unusedVariables false
set_option maxRecDepth 100000

/-- What a block comes to from the Dead state. -/
def BlockOk (sg : List Sg) (b : List GS) : Prop := ∀ (n site : Nat), n + cntL b ≤ 1000000000 → site + cntL b ≤ 1000000000 → ∀ (ow o : Own) (H0 : Heap),
 ∃ v H', calls Tryz.prog cfg4 59 [.agg [.sl ow (sg.map encSg)], .agg (encSt deadS), .sl o (encGs b), .lit (.int .i64 n), .lit (.int .i64 site)] H0 = some (.ret v H') ∧
  ∃ o' c f, v = .agg (encFl o' (dds (cntL b)) c f deadS) ∧ Frl .nil H0 H'
def StmtOk (sg : List Sg) (fn : FuncId) (g : GS) : Prop := ∀ (n site : Nat), n + cntG g ≤ 1000000000 → site + cntG g ≤ 1000000000 → ∀ (ow : Own) (H0 : Heap),
 ∃ v H', calls Tryz.prog cfg4 fn [.agg [.sl ow (sg.map encSg)], .agg (encSt deadS), .agg (encG g), .lit (.int .i64 n), .lit (.int .i64 site)] H0 = some (.ret v H') ∧
  ∃ o' c f, v = .agg (encFl o' (dds (cntG g)) c f deadS) ∧ Frl .nil H0 H'
theorem s_simple (sg : List Sg) (g : GS) (hg : g.small) : StmtOk sg 96 g := fun n site h1 h2 ow H0 => by
 obtain ⟨v, H', hc, o', hv, hF⟩ := f_simple sg g hg n site ow H0
 exact ⟨v, H', hc, o', _, _, by rw [cntG_eq]; exact hv, hF⟩
theorem s_branch (sg : List Sg) (hsl : sg.length ≤ LA) (g : GS) (hg : g.small) (hth : BlockOk sg g.th) (hel : BlockOk sg g.el) : StmtOk sg 97 g := by
 intro n site hn hsi ow H0
 rw [cntG_eq] at *
 obtain ⟨hp, hga, hc⟩ := hg
 refine calls_arr (fn := Tryz.f97) rfl rfl rfl rfl rfl ?_
 have rs : Tryz.f97.results.toList = [.cell 10 57] := rfl
 obtain ⟨m, hm⟩ : ∃ m, H0.next = m := ⟨_, rfl⟩
 obtain ⟨er, hcd⟩ := f_cond sg hsl g hga n ow
 have h1 := encSt_one deadS
 have h2 := encSt_len deadS
 have h3 := encSt_take deadS
 have hs0 : (encSt deadS)[0]? = some (.lit (.bool true)) := rfl
 have x1 := encG_one g
 have x2 := encG_len g
 have x3 := encG_take g
 have x6 := encG_th g
 have x7 := encG_el g
 have z0_1 : ¬ m = m + 1 := by omega
 have z0_2 : ¬ m = m + 2 := by omega
 have z0_3 : ¬ m = m + 3 := by omega
 have z0_29 : ¬ m = m + 29 := by omega
 have z1_0 : ¬ m + 1 = m := by omega
 have z1_2 : ¬ m + 1 = m + 2 := by omega
 have z1_3 : ¬ m + 1 = m + 3 := by omega
 have z1_29 : ¬ m + 1 = m + 29 := by omega
 have z2_0 : ¬ m + 2 = m := by omega
 have z2_1 : ¬ m + 2 = m + 1 := by omega
 have z2_3 : ¬ m + 2 = m + 3 := by omega
 have z2_29 : ¬ m + 2 = m + 29 := by omega
 have z3_0 : ¬ m + 3 = m := by omega
 have z3_1 : ¬ m + 3 = m + 1 := by omega
 have z3_2 : ¬ m + 3 = m + 2 := by omega
 have z3_29 : ¬ m + 3 = m + 29 := by omega
 have z29_0 : ¬ m + 29 = m := by omega
 have z29_1 : ¬ m + 29 = m + 1 := by omega
 have z29_2 : ¬ m + 29 = m + 2 := by omega
 have z29_3 : ¬ m + 29 = m + 3 := by omega
 have hw1 := wrap1 (show n + 1 ≤ 9223372036854775807 by omega)
 have hw2 : IntKind.i64.wrap (((n + 1 : Nat) : Int) + (cntL g.th : Nat)) = ((n + 1 + cntL g.th : Nat) : Int) := by rw [wrapI (by omega)]; simp
 have hst := sitL_le g.th
 have hw3 : IntKind.i64.wrap ((site : Int) + (sitL g.th : Nat)) = ((site + sitL g.th : Nat) : Int) := by rw [wrapI (by omega)]; simp
 have hct := fun H => f_count .sh H g.th (by omega)
 have hsit := fun H => f_sites .sh H g.th (by omega)
 have i1 : cfg4.imp 99 = false := rfl
 have i2 : cfg4.imp 100 = false := rfl
 have i3 : cfg4.imp 59 = true := rfl
 have i4 : cfg4.imp 23 = true := rfl
 have i5 : cfg4.imp 54 = true := rfl
 have hbs := bs1_sta deadS
 cases hb : decide (er = 0)
 all_goals
  simp only [go_sem, simprocAttr, rs, hm, Nat.add_zero, h1, h2, h3, x1, x2, x3, hcd, hb, hs0, x6, hw1, z0_1, z0_2, z0_3, z0_29, z1_0, z1_2, z1_3, z1_29, z2_0, z2_1, z2_3, z2_29, z3_0, z3_1, z3_2, z3_29, z29_0, z29_1, z29_2, z29_3]
  refine goC_ex (hth (n + 1) site (by omega) (by omega) ow .sh _) ?_
  rintro v H1 ⟨o1, c1, f1, rfl, hF1⟩
  have n1 := hF1.f.nx
  simp only [go_sem, simprocAttr, hm] at n1
  obtain ⟨q, hq⟩ : ∃ q, H1.next = q := ⟨_, rfl⟩
  have a0 : H1.get m = some [.sl ow (sg.map encSg)] := by rw [hF1.f.get (by simp only [go_sem, simprocAttr, hm]; omega)]; simp only [go_sem, simprocAttr, z0_1, z0_2, z0_3, z0_29, z1_0, z1_2, z1_3, z1_29, z2_0, z2_1, z2_3, z2_29, z3_0, z3_1, z3_2, z3_29, z29_0, z29_1, z29_2, z29_3]
  have a1 : H1.get (m + 1) = some (encSt deadS) := by rw [hF1.f.get (by simp only [go_sem, simprocAttr, hm]; omega)]; simp only [go_sem, simprocAttr, z0_1, z0_2, z0_3, z0_29, z1_0, z1_2, z1_3, z1_29, z2_0, z2_1, z2_3, z2_29, z3_0, z3_1, z3_2, z3_29, z29_0, z29_1, z29_2, z29_3]
  have a2 : H1.get (m + 2) = some (encG g) := by rw [hF1.f.get (by simp only [go_sem, simprocAttr, hm]; omega)]; simp only [go_sem, simprocAttr, z0_1, z0_2, z0_3, z0_29, z1_0, z1_2, z1_3, z1_29, z2_0, z2_1, z2_3, z2_29, z3_0, z3_1, z3_2, z3_29, z29_0, z29_1, z29_2, z29_3]
  have a3 : H1.get (m + 3) = some [.sl .nil [], .sl .nil [], .sl .nil [], .lit (.bool false), .sl .nil [], .sl .nil []] := by rw [hF1.f.get (by simp only [go_sem, simprocAttr, hm]; omega)]; simp only [go_sem, simprocAttr, z0_1, z0_2, z0_3, z0_29, z1_0, z1_2, z1_3, z1_29, z2_0, z2_1, z2_3, z2_29, z3_0, z3_1, z3_2, z3_29, z29_0, z29_1, z29_2, z29_3]
  have q0 : ∀ j, ¬ q + j = m := fun j => by omega
  have q1 : ∀ j, ¬ q + j = m + 1 := fun j => by omega
  have q2 : ∀ j, ¬ q + j = m + 2 := fun j => by omega
  have q3 : ∀ j, ¬ q + j = m + 3 := fun j => by omega
  have q4 : ∀ j, ¬ q + j = m + 29 := fun j => by omega
  unfold encFl
  simp only [go_sem, simprocAttr, rs, hq, Nat.add_zero, h1, h2, h3, x1, x2, x3, a0, a1, a2, a3, z0_1, z0_2, z0_3, z0_29, z1_0, z1_2, z1_3, z1_29, z2_0, z2_1, z2_3, z2_29, z3_0, z3_1, z3_2, z3_29, z29_0, z29_1, z29_2, z29_3]
  refine W_drawH [(0, 1), (0, 3), (1, 3), (0, 7), (1, 7), (3, 7), (0, 8), (1, 8), (3, 8), (0, 12), (1, 12), (3, 12), (7, 12), (8, 12), (0, 13), (1, 13), (3, 13), (0, 16), (1, 16), (3, 16), (7, 16), (8, 16), (12, 16), (13, 16), (15, 16)] (by kernel_rfl) _ (by simp only [go_sem, simprocAttr, hoH]; rfl) ?_
  simp only [go_sem, simprocAttr, rs, hq, Nat.add_zero, h1, h2, h3, x1, x2, x3, x6, x7, a0, a1, a2, a3, q0, q1, q2, q3, q4, hct, hsit, i1, i2, hw1, hw2, hw3, z0_1, z0_2, z0_3, z0_29, z1_0, z1_2, z1_3, z1_29, z2_0, z2_1, z2_3, z2_29, z3_0, z3_1, z3_2, z3_29, z29_0, z29_1, z29_2, z29_3]
  refine dK_ex (hel (n + (1 + cntL g.th)) (site + sitL g.th) (by omega) (by omega) ow .sh _) i3 ?_
  rintro v H2 ⟨o2, c2, f2, rfl, hF2⟩
  have n2 := hF2.f.nx
  simp only [go_sem, simprocAttr, hq] at n2
  obtain ⟨p, hp2⟩ : ∃ p, H2.next = p := ⟨_, rfl⟩
  have q5 : ∀ j, ¬ m = q + j := fun j => by omega
  have q6 : ∀ j, ¬ m + 1 = q + j := fun j => by omega
  have q7 : ∀ j, ¬ m + 2 = q + j := fun j => by omega
  have q8 : ∀ j, ¬ m + 3 = q + j := fun j => by omega
  have q9 : ∀ j, ¬ m + 29 = q + j := fun j => by omega
  have b1 : H2.get (m + 1) = some (encSt deadS) := by rw [hF2.f.get (by simp only [go_sem, simprocAttr, hq]; omega)]; simp only [go_sem, simprocAttr, q0, q1, q2, q3, q4, q5, q6, q7, q8, q9, a1, z0_1, z0_2, z0_3, z0_29, z1_0, z1_2, z1_3, z1_29, z2_0, z2_1, z2_3, z2_29, z3_0, z3_1, z3_2, z3_29, z29_0, z29_1, z29_2, z29_3]
  have b3 : H2.get (m + 3) = some [.sl .nil [], .sl .nil [], .sl .nil [], .lit (.bool false), .sl .nil [], .sl .nil []] := by rw [hF2.f.get (by simp only [go_sem, simprocAttr, hq]; omega)]; simp only [go_sem, simprocAttr, q0, q1, q2, q3, q4, q5, q6, q7, q8, q9, a3, z0_1, z0_2, z0_3, z0_29, z1_0, z1_2, z1_3, z1_29, z2_0, z2_1, z2_3, z2_29, z3_0, z3_1, z3_2, z3_29, z29_0, z29_1, z29_2, z29_3]
  have b29 : H2.get (m + 29) = some [.sl o1 ((dds (cntL g.th)).map encSt), .sl c1 [], .sl f1 [], .lit (.bool deadS.dead), .sl .sh (deadS.vars.map encB), .sl .sh (deadS.locs.map encL)] := by rw [hF2.f.get (by simp only [go_sem, simprocAttr, hq]; omega)]; simp only [go_sem, simprocAttr, q0, q1, q2, q3, q4, q5, q6, q7, q8, q9, z0_1, z0_2, z0_3, z0_29, z1_0, z1_2, z1_3, z1_29, z2_0, z2_1, z2_3, z2_29, z3_0, z3_1, z3_2, z3_29, z29_0, z29_1, z29_2, z29_3]
  have b16 : H2.get (q + 16) = some [.sl .nil [], .sl .nil [], .sl .nil [], .lit (.bool false), .sl .nil [], .sl .nil []] := by rw [hF2.f.get (by simp only [go_sem, simprocAttr, hq]; omega)]; simp only [go_sem, simprocAttr, q0, q1, q2, q3, q4, q5, q6, q7, q8, q9, z0_1, z0_2, z0_3, z0_29, z1_0, z1_2, z1_3, z1_29, z2_0, z2_1, z2_3, z2_29, z3_0, z3_1, z3_2, z3_29, z29_0, z29_1, z29_2, z29_3]
  unfold encFl
  simp only [go_sem, simprocAttr, rs, hp2, Nat.add_zero, h1, h2, h3, b1, b3, b29, b16, q0, q1, q2, q3, q4, q5, q6, q7, q8, q9, z0_1, z0_2, z0_3, z0_29, z1_0, z1_2, z1_3, z1_29, z2_0, z2_1, z2_3, z2_29, z3_0, z3_1, z3_2, z3_29, z29_0, z29_1, z29_2, z29_3]
  refine ⟨hF2.keeps (by simp only [go_sem, simprocAttr, hq]; omega) (fun _ _ h => by cases h), ?_⟩
  refine W_drawH [(0, 4), (0, 5), (4, 5), (0, 6)] (by kernel_rfl) _ (by simp only [go_sem, simprocAttr, hoH]; rfl) ?_
  have tJ := fun H => f_Join o1 o2 c1 c2 f1 f2 (cntL g.th) (cntL g.el) (by unfold LA; omega) H
  have tT := fun o3 H => f_then .ex o3 .sh .nil .nil .nil [deadS] (dds (cntL g.th + cntL g.el)) (.lit (.bool false)) (.sl .nil []) (.sl .nil []) deadS rfl rfl rfl dds_ok (by rw [dds_len]; unfold LA; simp; omega) H rfl (fun _ _ _ h => by cases h)
  unfold encFl at tJ tT
  simp only [go_sem, simprocAttr, rs, hp2, Nat.add_zero, h1, h2, h3, b1, b3, b29, b16, hbs, q0, q1, q2, q3, q4, q5, q6, q7, q8, q9, z0_1, z0_2, z0_3, z0_29, z1_0, z1_2, z1_3, z1_29, z2_0, z2_1, z2_3, z2_29, z3_0, z3_1, z3_2, z3_29, z29_0, z29_1, z29_2, z29_3]
  refine dK_ex (tJ _) i4 ?_
  rintro v H3 ⟨o3, rfl, hF3⟩
  have n3 := hF3.f.nx
  simp only [go_sem, simprocAttr, hp2] at n3
  simp only [go_sem, simprocAttr]
  refine dK_ex (tT o3 _) i5 ?_
  rintro v H4 ⟨o4, rfl, hF4, _⟩
  have n4 := hF4.f.nx
  obtain ⟨p4, hp4⟩ : ∃ p, H4.next = p := ⟨_, rfl⟩
  have d3 : H4.get (m + 3) = some [.sl .nil [], .sl .nil [], .sl .nil [], .lit (.bool false), .sl .nil [], .sl .nil []] := by
   rw [hF4.f.get (by omega), hF3.f.get (by simp only [go_sem, simprocAttr, hp2]; omega)]; simp only [go_sem, simprocAttr, q0, q1, q2, q3, q4, q5, q6, q7, q8, q9, b3, z0_1, z0_2, z0_3, z0_29, z1_0, z1_2, z1_3, z1_29, z2_0, z2_1, z2_3, z2_29, z3_0, z3_1, z3_2, z3_29, z29_0, z29_1, z29_2, z29_3]
  simp only [go_sem, simprocAttr, rs, hp4, d3]
  have F1 : Frl .nil H0 H1 := Frl.trans (by repeat (first | exact Frl.refl _ _ | refine Frl.up ?_ _ | refine Frl.put ?_ _ (by omega))) hF1
  have F2 : Frl .nil H0 H2 := Frl.trans (by repeat (first | exact F1 | refine Frl.up ?_ _ | refine Frl.put ?_ _ (by omega))) hF2
  have F3 : Frl .nil H0 H3 := Frl.trans (by repeat (first | exact F2 | refine Frl.up ?_ _ | refine Frl.put ?_ _ (by omega))) hF3
  have F4 : Frl .nil H0 H4 := Frl.trans' F3 hF4 (fun _ _ _ h => by cases h)
  have ed : dds (1 + (cntL g.th + cntL g.el)) = deadS :: dds (cntL g.th + cntL g.el) := by rw [← dds_app]; rfl
  exact ⟨hF3.keeps (by simp only [go_sem, simprocAttr, hp2]; omega) (fun _ _ h => by cases h), _, rfl, o4, _, _, by rw [ed]; rfl, by repeat (first | exact F4 | refine Frl.up ?_ _ | refine Frl.put ?_ _ (by omega))⟩
end Go.Proofs.YtnoahchdmkpleaaGreat.VA

/-! Fla -/
namespace Go.Proofs.YtnoahchdmkpleaaGreat.VA
open Go Go.RowKit
attribute [local go_sem] Nat.add_eq_left Nat.left_eq_add true_and and_true ite_true if_false Int.cast_ofNat_Int eq_self Nat.add_assoc Option.some.injEq decide_true decide_false Bool.not_true Bool.not_false List.size_toArray List.length_cons List.length_nil
set_option linter.unusedSimpArgs false
set_option linter.unusedVariables false
set_option maxRecDepth 100000

theorem s_loop (sg : List Sg) (hsl : sg.length ≤ LA) (g : GS) (hg : g.small) (hth : BlockOk sg g.th) : StmtOk sg 98 g := by
 intro n site hn hsi ow H0
 rw [cntG_eq] at *
 obtain ⟨hp, hga, hc⟩ := hg
 refine calls_arr (fn := Tryz.f98) rfl rfl rfl rfl rfl ?_
 have rs : Tryz.f98.results.toList = [.cell 10 57] := rfl
 obtain ⟨m, hm⟩ : ∃ m, H0.next = m := ⟨_, rfl⟩
 obtain ⟨er, hcd⟩ := f_cond sg hsl g hga n ow
 have h1 := encSt_one deadS
 have h2 := encSt_len deadS
 have h3 := encSt_take deadS
 have hs0 : (encSt deadS)[0]? = some (.lit (.bool true)) := rfl
 have x1 := encG_one g
 have x2 := encG_len g
 have x3 := encG_take g
 have x6 := encG_th g
 have x7 := encG_el g
 have z0_1 : ¬ m = m + 1 := by omega
 have z0_2 : ¬ m = m + 2 := by omega
 have z0_3 : ¬ m = m + 3 := by omega
 have z0_34 : ¬ m = m + 34 := by omega
 have z1_0 : ¬ m + 1 = m := by omega
 have z1_2 : ¬ m + 1 = m + 2 := by omega
 have z1_3 : ¬ m + 1 = m + 3 := by omega
 have z1_34 : ¬ m + 1 = m + 34 := by omega
 have z2_0 : ¬ m + 2 = m := by omega
 have z2_1 : ¬ m + 2 = m + 1 := by omega
 have z2_3 : ¬ m + 2 = m + 3 := by omega
 have z2_34 : ¬ m + 2 = m + 34 := by omega
 have z3_0 : ¬ m + 3 = m := by omega
 have z3_1 : ¬ m + 3 = m + 1 := by omega
 have z3_2 : ¬ m + 3 = m + 2 := by omega
 have z3_34 : ¬ m + 3 = m + 34 := by omega
 have z34_0 : ¬ m + 34 = m := by omega
 have z34_1 : ¬ m + 34 = m + 1 := by omega
 have z34_2 : ¬ m + 34 = m + 2 := by omega
 have z34_3 : ¬ m + 34 = m + 3 := by omega
 have hw1 := wrap1 (show n + 1 ≤ 9223372036854775807 by omega)
 have hct := fun H => f_count .sh H g.el (by omega)
 have i1 : cfg4.imp 99 = false := rfl
 have i3 : cfg4.imp 59 = true := rfl
 have i5 : cfg4.imp 54 = true := rfl
 have hbs := bs1_sta deadS
 have d200 : decide ((200 : Int) ≤ 0) = false := rfl
 cases hb : decide (er = 0)
 all_goals
  simp only [go_sem, simprocAttr, rs, hm, Nat.add_zero, h1, h2, h3, x1, x2, x3, hcd, hb, hs0, x6, hw1, d200, z0_1, z0_2, z0_3, z0_34, z1_0, z1_2, z1_3, z1_34, z2_0, z2_1, z2_3, z2_34, z3_0, z3_1, z3_2, z3_34, z34_0, z34_1, z34_2, z34_3]
  rw [W_loop]
  simp only [go_sem, simprocAttr, rs, hm, Nat.add_zero, h1, h2, h3, x1, x2, x3, hcd, hb, hs0, x6, hw1, d200, z0_1, z0_2, z0_3, z0_34, z1_0, z1_2, z1_3, z1_34, z2_0, z2_1, z2_3, z2_34, z3_0, z3_1, z3_2, z3_34, z34_0, z34_1, z34_2, z34_3]
  refine goC_ex (hth (n + 1) site (by omega) (by omega) ow .sh _) ?_
  rintro v H1 ⟨o1, c1, f1, rfl, hF1⟩
  have n1 := hF1.f.nx
  simp only [go_sem, simprocAttr, hm] at n1
  obtain ⟨q, hq⟩ : ∃ q, H1.next = q := ⟨_, rfl⟩
  have a1 : H1.get (m + 1) = some (encSt deadS) := by rw [hF1.f.get (by simp only [go_sem, simprocAttr, hm]; omega)]; simp only [go_sem, simprocAttr, z0_1, z0_2, z0_3, z0_34, z1_0, z1_2, z1_3, z1_34, z2_0, z2_1, z2_3, z2_34, z3_0, z3_1, z3_2, z3_34, z34_0, z34_1, z34_2, z34_3]
  have a2 : H1.get (m + 2) = some (encG g) := by rw [hF1.f.get (by simp only [go_sem, simprocAttr, hm]; omega)]; simp only [go_sem, simprocAttr, z0_1, z0_2, z0_3, z0_34, z1_0, z1_2, z1_3, z1_34, z2_0, z2_1, z2_3, z2_34, z3_0, z3_1, z3_2, z3_34, z34_0, z34_1, z34_2, z34_3]
  have a3 : H1.get (m + 3) = some [.sl .nil [], .sl .nil [], .sl .nil [], .lit (.bool false), .sl .nil [], .sl .nil []] := by rw [hF1.f.get (by simp only [go_sem, simprocAttr, hm]; omega)]; simp only [go_sem, simprocAttr, z0_1, z0_2, z0_3, z0_34, z1_0, z1_2, z1_3, z1_34, z2_0, z2_1, z2_3, z2_34, z3_0, z3_1, z3_2, z3_34, z34_0, z34_1, z34_2, z34_3]
  have q1 : ∀ j, ¬ q + j = m + 1 := fun j => by omega
  have q2 : ∀ j, ¬ q + j = m + 2 := fun j => by omega
  have q3 : ∀ j, ¬ q + j = m + 3 := fun j => by omega
  have q4 : ∀ j, ¬ q + j = m + 34 := fun j => by omega
  have q6 : ∀ j, ¬ m + 1 = q + j := fun j => by omega
  have q7 : ∀ j, ¬ m + 2 = q + j := fun j => by omega
  have q8 : ∀ j, ¬ m + 3 = q + j := fun j => by omega
  have q9 : ∀ j, ¬ m + 34 = q + j := fun j => by omega
  have hj : ∀ H, calls Tryz.prog cfg4 55 [.agg (encSt deadS), .agg [.lit (.bool deadS.dead), .sl .sh (deadS.vars.map encB), .sl .sh (deadS.locs.map encL)]] H = some (.ret (.agg (encSt deadS)) H) := fun H => f_sJoin H
  have hsm := fun H => f_samed H
  have tT := fun H => f_then .ex o1 .sh c1 .nil f1 [deadS] (dds (cntL g.th)) (.lit (.bool false)) (.sl .nil []) (.sl .nil []) deadS rfl rfl rfl dds_ok (by rw [dds_len]; unfold LA; simp; omega) H rfl (fun _ _ _ h => by cases h)
  unfold encFl at tT ⊢
  simp only [go_sem, simprocAttr, rs, hq, Nat.add_zero, h1, h2, h3, x1, x2, x3, a1, a2, a3, q1, q2, q3, q4, q6, q7, q8, q9, hj, hsm, hbs, z0_1, z0_2, z0_3, z0_34, z1_0, z1_2, z1_3, z1_34, z2_0, z2_1, z2_3, z2_34, z3_0, z3_1, z3_2, z3_34, z34_0, z34_1, z34_2, z34_3]
  refine goC_ex (tT _) ?_
  rintro v H4 ⟨o4, rfl, hF4, hA4, hz4, hn4⟩
  have n4 := hF4.f.nx
  simp only [go_sem, simprocAttr, hq] at n4
  obtain ⟨p, hp4⟩ : ∃ p, H4.next = p := ⟨_, rfl⟩
  have b1 : H4.get (m + 1) = some (encSt deadS) := by rw [hF4.f.get (by simp only [go_sem, simprocAttr, hq]; omega)]; simp only [go_sem, simprocAttr, q1, q2, q3, q4, q6, q7, q8, q9, a1, z0_1, z0_2, z0_3, z0_34, z1_0, z1_2, z1_3, z1_34, z2_0, z2_1, z2_3, z2_34, z3_0, z3_1, z3_2, z3_34, z34_0, z34_1, z34_2, z34_3]
  have b2 : H4.get (m + 2) = some (encG g) := by rw [hF4.f.get (by simp only [go_sem, simprocAttr, hq]; omega)]; simp only [go_sem, simprocAttr, q1, q2, q3, q4, q6, q7, q8, q9, a2, z0_1, z0_2, z0_3, z0_34, z1_0, z1_2, z1_3, z1_34, z2_0, z2_1, z2_3, z2_34, z3_0, z3_1, z3_2, z3_34, z34_0, z34_1, z34_2, z34_3]
  have b3 : H4.get (m + 3) = some [.sl .nil [], .sl .nil [], .sl .nil [], .lit (.bool false), .sl .nil [], .sl .nil []] := by rw [hF4.f.get (by simp only [go_sem, simprocAttr, hq]; omega)]; simp only [go_sem, simprocAttr, q1, q2, q3, q4, q6, q7, q8, q9, a3, z0_1, z0_2, z0_3, z0_34, z1_0, z1_2, z1_3, z1_34, z2_0, z2_1, z2_3, z2_34, z3_0, z3_1, z3_2, z3_34, z34_0, z34_1, z34_2, z34_3]
  simp only [go_sem, simprocAttr, rs, hp4, Nat.add_zero, h1, h2, h3, x1, x2, x3, x7, b1, b2, b3, q1, q2, q3, q4, q6, q7, q8, q9, hct, z0_1, z0_2, z0_3, z0_34, z1_0, z1_2, z1_3, z1_34, z2_0, z2_1, z2_3, z2_34, z3_0, z3_1, z3_2, z3_34, z34_0, z34_1, z34_2, z34_3]
  have F1 : Frl .nil H0 H1 := Frl.trans (by repeat (first | exact Frl.refl _ _ | refine Frl.up ?_ _ | refine Frl.put ?_ _ (by omega))) hF1
  have F4 : Frl .nil H0 H4 := Frl.trans' (by repeat (first | exact F1 | refine Frl.up ?_ _ | refine Frl.put ?_ _ (by omega))) hF4 (fun _ _ _ h => by cases h)
  have ed : ∀ k, dds (1 + k) = deadS :: dds k := fun k => by rw [← dds_app]; rfl
  have ho4 : ∀ k e z, o4 = .own k e z → m ≤ k := by
   intro k e z hk
   by_cases h0 : dds (cntL g.th) = []
   ·rw [hz4 h0] at hk; cases hk
   ·obtain ⟨k', e', z', y1, y2, y3⟩ := hn4 h0
    rw [y1] at hk; cases hk
    simp only [go_sem, simprocAttr, hq] at y2
    omega
  have hA4' : AnyOk H4 o4 ((dds (1 + cntL g.th)).map encSt) 26 3 := by rw [ed]; exact hA4
  have e4 : encSt deadS :: (dds (cntL g.th)).map encSt = (dds (1 + cntL g.th)).map encSt := by rw [ed]; rfl
  rw [e4]
  clear hA4 hn4 hz4 e4
  have hTN : 1 + (cntL g.th + cntL g.el) = (1 + cntL g.th) + cntL g.el := by omega
  rw [hTN]
  generalize hT : 1 + cntL g.th = T at *
  generalize hN : cntL g.el = N at *
  have r1 : ¬ m + 3 = q + 16 := by omega
  have r2 : ¬ q + 16 = m + 3 := by omega
  have r3 : ¬ m + 1 = q + 16 := by omega
  have r4 : ¬ q + 16 = m + 1 := by omega
  refine W_loop_ind (fun k e H => ∃ (i : Nat) (o : Own), k = N - i ∧ i ≤ N ∧ H.get (q + 16) = some [.sl o ((dds (T + i)).map encSt), .sl .sh [], .sl .nil [], .lit (.bool deadS.dead), .sl .sh (deadS.vars.map encB), .sl .sh (deadS.locs.map encL)] ∧ H.get (m + 1) = some (encSt deadS) ∧
    H.get (m + 3) = some [.sl .nil [], .sl .nil [], .sl .nil [], .lit (.bool false), .sl .nil [], .sl .nil []] ∧
    AnyOk H o ((dds (T + i)).map encSt) 26 3 ∧ (∀ k e z, o = .own k e z → m ≤ k) ∧ Frl .nil H0 H ∧ q + 18 ≤ H.next ∧
    gget .bad e 16 = .ptr (q + 16) 0 ∧ gget .bad e 10 = .ptr (m + 3) 0 ∧ gget .bad e 6 = .ptr (m + 1) 0 ∧ gget .bad e 74 = .lit (.int .i64 (N : Nat)) ∧ gget .bad e 75 = .lit (.int .i64 (i : Nat)))
   N ⟨0, o4, rfl, by omega, by simp only [go_sem, simprocAttr, Nat.add_zero, r1, r2, r3, r4] <;> rfl, by simp only [go_sem, simprocAttr, r1, r2, r3, r4, b1], by simp only [go_sem, simprocAttr, r1, r2, r3, r4, b3], by simpa only [AnyOk_up, AnyOk_put, Nat.add_zero] using hA4', ho4, by repeat (first | exact F4 | refine Frl.up ?_ _ | refine Frl.put ?_ _ (by omega)), by simp only [go_sem, simprocAttr, hp4]; omega, by simp only [go_sem, simprocAttr], by simp only [go_sem, simprocAttr], by simp only [go_sem, simprocAttr], by simp only [go_sem, simprocAttr], by simp only [go_sem, simprocAttr] <;> rfl⟩ ?_
  rintro k ih e H ⟨i, o, rfl, hle, g16, g1, g3, hA, ho, hF, hnx, e16, e10, e6, e74, e75⟩
  obtain ⟨y, hy⟩ : ∃ y, H.next = y := ⟨_, rfl⟩
  rw [hy] at hnx
  by_cases hl : i < N
  ·have d1 : decide ((i : Int) < (N : Nat)) = true := by simp; omega
   have hw1 := wrap1 (show i + 1 ≤ 9223372036854775807 by omega)
   have hap := fun H id h => app_dead o (T + i) (by unfold LA; omega) H id h
   have i2 : cfg4.imp 145 = false := rfl
   simp only [go_sem, simprocAttr, e16, e10, e6, e74, e75, hy, d1]
   refine W_drawH [(1, 2)] (by kernel_rfl) _ (by simp only [go_sem, simprocAttr, hoH]; rfl) ?_
   simp only [go_sem, simprocAttr, e16, e10, e6, e74, e75, hy, g16, f_dead, i2, hbs, hap, AnyOk_up, hA, hw1]
   exact ih (N - (i + 1)) (by omega) _ _ ⟨i + 1, .own (y + 5) 26 3, rfl, by omega, by simp only [go_sem, simprocAttr, r1, r2, r3, r4] <;> rfl, by simp only [go_sem, simprocAttr, r1, r2, r3, r4, g1], by simp only [go_sem, simprocAttr, r1, r2, r3, r4, g3],
    by simp only [AnyOk_up, AnyOk_put]; exact AnyOk_ownUs _ _ _ _ _ _, fun k e z h => (by cases h; omega),
    by repeat (first | exact hF | refine Frl.up ?_ _ | refine Frl.put ?_ _ (by omega) | refine Frl.owns ?_ (by omega) (fun k e z hk => .inl (by have := ho k e z hk; omega))), by simp only [go_sem, simprocAttr, ownUs_next, hy]; omega,
    by simp only [go_sem, simprocAttr, e16], by simp only [go_sem, simprocAttr, e10], by simp only [go_sem, simprocAttr, e6], by simp only [go_sem, simprocAttr, e74], by simp only [go_sem, simprocAttr] <;> rfl⟩
  ·have d1 : decide ((i : Int) < (N : Nat)) = false := by simp; omega
   have hi : i = N := by omega
   subst hi
   have hst3 : ∀ (a b c d e f : AV), [a, b, c] ++ encSt deadS = [a, b, c, .lit (.bool deadS.dead), .sl .sh (deadS.vars.map encB), .sl .sh (deadS.locs.map encL)] := fun _ _ _ _ _ _ => rfl
   simp only [go_sem, simprocAttr, e16, e10, e6, e74, e75, hy, d1, rs, g16, g1, g3, h1, h2, h3, r1, r2, r3, r4]
   exact ⟨_, rfl, o, _, _, rfl, by repeat (first | exact hF | refine Frl.up ?_ _ | refine Frl.put ?_ _ (by omega))⟩
end Go.Proofs.YtnoahchdmkpleaaGreat.VA

/-! Fl7 -/
namespace Go.Proofs.YtnoahchdmkpleaaGreat.VA
open Go Go.RowKit
attribute [local go_sem] Nat.add_eq_left Nat.left_eq_add true_and and_true ite_true if_false Int.cast_ofNat_Int eq_self Nat.add_assoc Option.some.injEq decide_true decide_false Bool.not_true Bool.not_false List.size_toArray List.length_cons List.length_nil
set_option linter.unusedSimpArgs false
set_option maxRecDepth 100000

section
variable {P : Program} {c : Cfg}
theorem calls_pureX {f : FuncId} {fn : Func} {code : Code} {args : List AV} {R : AV → Prop} (ht : c.told f = none) (hf : c.fn f = some fn) (hi : c.imp f = false) (hb : fn.body = some code) (hn : Nat.ble args.length fn.ntmps = true)
  (h : W P c code [] (sanL args) Heap.empty (RetHQ P fn.results.toList fun v _ => R v)) (ha : c.arr f = false := by rfl) : ∃ v, R v ∧ ∀ H, calls P c f args H = some (.ret v H) := by
 obtain ⟨x, e1, H1, hx, hq⟩ := h
 rw [Fin_nil] at hq
 have hq' : (x = .nrm ∨ x = .ret) ∧ ∃ vs, aResults P e1 H1 fn.results.toList = some vs ∧ R (san (oneOr vs)) := by
  cases x <;> first | exact ⟨.inl rfl, hq⟩ | exact ⟨.inr rfl, hq⟩ | exact hq.elim
 obtain ⟨hx2, vs, hv, hr⟩ := hq'
 have hth : c.th f = none := by simp only [Cfg.th, hi]
 have hn' : (sanL args).length ≤ fn.ntmps := by rw [length_sanL]; exact Nat.le_of_ble_eq_true hn
 obtain ⟨k, hk⟩ := runFn_of_XS hb hn' hx hx2 hv san
 exact ⟨_, hr, fun H => calls_iff.2 ⟨k + 1, by simp only [call, ht, hth, hf, hi, ha, hk]⟩⟩
end
theorem cnt_get {b : List GS} {i : Nat} (h : i < b.length) : 1 + (cntL b[i].th + cntL b[i].el) ≤ cntL b := by
 rw [← cntG_eq]
 induction b generalizing i with
 | nil => simp at h
 | cons g l ih =>
  cases i with
  | zero => simp only [cntL, List.getElem_cons_zero]; omega
  | succ i => simp only [cntL, List.getElem_cons_succ]; have := ih (i := i) (by simpa using h); omega
theorem len_cnt : ∀ b : List GS, b.length ≤ cntL b
 | [] => Nat.le_refl _
 | g :: l => by
  have := len_cnt l
  have := cntG_eq g
  simp only [cntL, List.length_cons]
  omega
theorem iad_G {b : List GS} {i : Nat} (h : i < b.length) (o : Own) : iad (some (31, 8, 152)) (.sl o (encGs b)) (some i) = some (.ep (encG b[i])) := by
 rw [encGs_map]
 exact iad_map (f := encG) h encG_len
theorem e_Gs (b : List GS) (o : Own) : sanL [AV.sl o (encGs b)] = [.sl .sh (encGs b)] := by simp only [sanL, san, sanLL_encGs]
theorem f_loops : ∀ (N : Nat) (b : List GS), cntL b ≤ N → N ≤ LA → ∀ o : Own, ∃ n : Int, ∀ H, calls Tryz.prog cfg4 26 [.sl o (encGs b)] H = some (.ret (.lit (.int .i64 n)) H) := by
 intro N
 induction N with
 | zero =>
  intro b hb _ o
  have h0 : b = [] := List.eq_nil_of_length_eq_zero (by have := len_cnt b; omega)
  subst h0
  refine ⟨0, fun H => ?_⟩
  exact calls_iff.2 ⟨20, by kernel_rfl⟩
 | succ N ihN =>
  intro b hb hN o
  obtain ⟨v, ⟨n, rfl⟩, hc⟩ := calls_pureX (P := Tryz.prog) (c := cfg4) (f := 26) (fn := Tryz.f26) (args := [.sl o (encGs b)]) (R := fun v => ∃ n : Int, v = .lit (.int .i64 n)) rfl rfl rfl rfl rfl (by
   have rs : Tryz.f26.results.toList = [.tmp 2] := rfl
   rw [e_Gs]
   have hll := len_cnt b
   simp only [go_sem, simprocAttr, rs, encGs_len]
   refine W_loop_ind (fun k e H => ∃ (i : Nat) (n : Int), k = b.length - i ∧ i ≤ b.length ∧ gget .bad e 3 = .lit (.int .i64 n) ∧ gget .bad e 7 = .sl .sh (encGs b) ∧ gget .bad e 8 = .lit (.int .i64 (b.length : Nat)) ∧ gget .bad e 9 = .lit (.int .i64 (i : Nat)))
    b.length ⟨0, 0, rfl, by omega, by simp only [go_sem, simprocAttr], by simp only [go_sem, simprocAttr], by simp only [go_sem, simprocAttr], by simp only [go_sem, simprocAttr]⟩ ?_
   rintro k ih e H ⟨i, n, rfl, hle, e3, e7, e8, e9⟩
   by_cases hl : i < b.length
   ·have d1 : decide ((i : Int) < (b.length : Nat)) = true := by simp; omega
    have ha := iad_G hl .sh
    have hw1 := wrap1 (show i + 1 ≤ 9223372036854775807 by unfold LA at hN; omega)
    have hcg := cnt_get hl
    obtain ⟨n1, hn1⟩ := ihN b[i].th (by omega) (by omega) .sh
    obtain ⟨n2, hn2⟩ := ihN b[i].el (by omega) (by omega) .sh
    have x1 := encG_one b[i]
    have x2 := encG_len b[i]
    have x3 := encG_take b[i]
    have x0 := encG_op b[i]
    have x6 := encG_th b[i]
    have x7 := encG_el b[i]
    have i1 : cfg4.imp 26 = false := rfl
    simp only [go_sem, simprocAttr, e3, e7, e8, e9, d1, ha, x1, x2, x3]
    refine W_drawH [(1, 4), (2, 4)] (by kernel_rfl) _ (by simp only [go_sem, simprocAttr, hoH]; rfl) ?_
    simp only [go_sem, simprocAttr, e3, e7, e8, e9, d1, ha, x1, x2, x3, x6, x7, hn1, hn2, i1]
    cases hop : decide (b[i].op = 10) with
    | true =>
     simp only [go_sem, simprocAttr, e3, e7, e8, e9, x0, hop, hw1]
     exact ih (b.length - (i + 1)) (by omega) _ _ ⟨i + 1, _, rfl, by omega, by simp only [go_sem, simprocAttr] <;> rfl, by simp only [go_sem, simprocAttr, e7], by simp only [go_sem, simprocAttr, e8], by simp only [go_sem, simprocAttr]⟩
    | false =>
     simp only [go_sem, simprocAttr, e3, e7, e8, e9, x0, hop, hw1]
     exact ih (b.length - (i + 1)) (by omega) _ _ ⟨i + 1, _, rfl, by omega, by simp only [go_sem, simprocAttr] <;> rfl, by simp only [go_sem, simprocAttr, e7], by simp only [go_sem, simprocAttr, e8], by simp only [go_sem, simprocAttr]⟩
   ·have d1 : decide ((i : Int) < (b.length : Nat)) = false := by simp; omega
    simp only [go_sem, simprocAttr, e3, e7, e8, e9, d1, rs]
    exact ⟨_, rfl, _, rfl⟩)
  exact ⟨n, hc⟩
end Go.Proofs.YtnoahchdmkpleaaGreat.VA

/-! Fl8 -/
namespace Go.Proofs.YtnoahchdmkpleaaGreat.VA
open Go Go.RowKit
attribute [local go_sem] Nat.add_eq_left Nat.left_eq_add true_and and_true ite_true if_false Int.cast_ofNat_Int eq_self Nat.add_assoc Option.some.injEq decide_true decide_false Bool.not_true Bool.not_false List.size_toArray List.length_cons List.length_nil
set_option linter.unusedSimpArgs false
set_option linter.unusedVariables false
set_option maxRecDepth 100000

mutual
def listG : GS → List GS
 | .mk op x y p a pr th el => .mk op x y p a pr th el :: (listL th ++ listL el)
def listL : List GS → List GS
 | [] => []
 | g :: l => listG g ++ listL l
end
theorem listG_eq (g : GS) : listG g = g :: (listL g.th ++ listL g.el) := by cases g; simp only [listG, GS.th, GS.el]
mutual
theorem listG_len : ∀ g : GS, (listG g).length = cntG g
 | .mk op x y p a pr th el => by
  have h1 := listL_len th
  have h2 := listL_len el
  simp only [listG, cntG, List.length_cons, List.length_append, h1, h2]
  omega
theorem listL_len : ∀ l : List GS, (listL l).length = cntL l
 | [] => rfl
 | g :: l => by
  have h1 := listG_len g
  have h2 := listL_len l
  simp only [listL, cntL, List.length_append, h1, h2]
end
theorem listL_app (a b : List GS) : listL (a ++ b) = listL a ++ listL b := by
 induction a with
 | nil => rfl
 | cons g a ih => simp only [List.cons_append, listL, ih, List.append_assoc]
theorem listL_take {b : List GS} {i : Nat} (h : i < b.length) : listL (b.take (i + 1)) = listL (b.take i) ++ (b[i] :: (listL b[i].th ++ listL b[i].el)) := by
 rw [List.take_succ_eq_append_getElem h, listL_app]
 simp only [listL, List.append_nil, listG_eq]
theorem encGs_app (a b : List GS) : encGs (a ++ b) = encGs a ++ encGs b := by simp only [encGs_map, List.map_append]
/-- What one may append to, behind an append. -/
def newO (o : Own) (xs : List (List AV)) (id : Nat) (e : TypeId) (sz : Nat) : Own := match xs with | [] => o | _ => .own id e sz
def usO (o : Own) (xs : List (List AV)) (id : Nat) : List U := match xs with | [] => [] | _ => ownUs o id
def rsO (o : Own) (xs : List (List AV)) : List Nat := match xs with | [] => [] | _ => ownRs o
theorem usO_next (H : Heap) (o : Own) (xs : List (List AV)) (id : Nat) : (appU H (usO o xs id)).next = H.next := by
 cases xs with
 | nil => rfl
 | cons x xs => exact ownUs_next ..
theorem app_any {P : Program} {t e : TypeId} {sz bs : Nat} {o o' : Own} {es xs : List (List AV)} (ht : tElem P t = some (e, sz, bs)) (hz : zeroOk P e sz = true) (hs : 0 < sz) (hb : (es.length + xs.length) * bs ≤ 140737488355328) (hl : es.length + xs.length ≤ 140737488355328)
  (hx : ∀ x, x ∈ xs → x.length = sz) (hsx : sanLL xs = xs) (H : Heap) (id : Nat) (ho : AnyOk H o es e sz) (hmu : mutT e = false := by rfl) :
  aAppend P t (.sl o es) (.sl o' xs) H id = some (.sl (newO o xs id e sz) (es ++ xs), usO o xs id, rsO o xs) := by
 cases xs with
 | nil => simp [aAppend, ht, newO, usO, rsO]
 | cons x xs =>
  simp only [List.length_cons] at hb hl
  rw [append_lit ht hz hs hb hl (hx x (List.mem_cons_self ..)) H id ho hmu, hsx]
  rfl
theorem AnyOk_new {H : Heap} {o : Own} {es xs : List (List AV)} {id : Nat} {e : TypeId} {sz : Nat} (ho : AnyOk H o es e sz) : AnyOk (appU H (usO o xs id)) (newO o xs id e sz) (es ++ xs) e sz := by
 cases xs with
 | nil => rw [List.append_nil]; exact ho
 | cons x xs => exact AnyOk_ownUs ..
def LB : Nat := 100000000000
theorem f_list : ∀ (N : Nat) (b : List GS), cntL b ≤ N → N ≤ LB → ∀ (o : Own) (H : Heap), calls Tryz.prog cfg4 28 [.sl o (encGs b)] H = some (.ret (.sl .sh (encGs (listL b))) H) := by
 intro N
 induction N with
 | zero =>
  intro b hb _ o H
  have h0 : b = [] := List.eq_nil_of_length_eq_zero (by have := len_cnt b; omega)
  subst h0
  exact calls_iff.2 ⟨20, by kernel_rfl⟩
 | succ N ihN =>
  intro b hb hN o H
  have hLB : LB = 100000000000 := rfl
  refine calls_pure (fn := Tryz.f28) rfl rfl rfl rfl rfl ?_ H
  have rs : Tryz.f28.results.toList = [.tmp 2] := rfl
  rw [e_Gs]
  have hll := len_cnt b
  have b0 : aBuildSlice Tryz.prog 29 0 [] = some (.sl .ex []) := build0 el_sStm zr_stm rfl rfl
  generalize hr : encGs (listL b) = r
  simp only [go_sem, simprocAttr, rs, encGs_len, b0]
  refine W_loop_ind (fun k e H => ∃ (i : Nat) (o : Own), k = b.length - i ∧ i ≤ b.length ∧ AnyOk H o (encGs (listL (b.take i))) 31 8 ∧ gget .bad e 0 = .sl .sh (encGs b) ∧ gget .bad e 3 = .sl o (encGs (listL (b.take i))) ∧ gget .bad e 4 = .lit (.int .i64 (i : Nat)))
   b.length ⟨0, .ex, rfl, by omega, rfl, by simp only [go_sem, simprocAttr], by simp only [go_sem, simprocAttr] <;> rfl, by simp only [go_sem, simprocAttr]⟩ ?_
  rintro k ih e H ⟨i, o, rfl, hle, hA, e0, e3, e4⟩
  by_cases hl : i < b.length
  ·have d1 : decide ((i : Int) < (b.length : Nat)) = true := by simp; omega
   have ha := iad_G hl .sh
   have hw1 := wrap1 (show i + 1 ≤ 9223372036854775807 by omega)
   have hcg := cnt_get hl
   have hn1 := fun H => ihN b[i].th (by omega) (by omega) .sh H
   have hn2 := fun H => ihN b[i].el (by omega) (by omega) .sh H
   have x1 := encG_one b[i]
   have x2 := encG_len b[i]
   have x3 := encG_take b[i]
   have x6 := encG_th b[i]
   have x7 := encG_el b[i]
   have hb1 : aBuildSlice Tryz.prog 29 1 [(0, .agg (encG b[i]))] = some (.sl .ex [encG b[i]]) := build1 el_sStm (by decide) zr_stm rfl rfl _ x2 x1
   have hlen : (listL (b.take (i + 1))).length ≤ N + 1 := by
    rw [listL_len]
    have : cntL (b.take (i + 1)) + cntL (b.drop (i + 1)) = cntL b := by
     rw [← listL_len, ← listL_len, ← listL_len, ← List.length_append, ← listL_app, List.take_append_drop]
    omega
   rw [listL_take hl] at hlen
   simp only [List.length_append, List.length_cons] at hlen
   have hp : ∀ (o : Own) (es xs : List GS) (H : Heap) (id : Nat), AnyOk H o (encGs es) 31 8 → es.length + xs.length ≤ LB → ∀ o', aAppend Tryz.prog 29 (.sl o (encGs es)) (.sl o' (encGs xs)) H id =
     some (.sl (newO o (encGs xs) id 31 8) (encGs (es ++ xs)), usO o (encGs xs) id, rsO o (encGs xs)) := fun o es xs H id h h2 o' => by
    rw [app_any el_sStm zo_sStm (by decide) (by rw [encGs_len, encGs_len]; omega) (by rw [encGs_len, encGs_len]; omega) (fun x hx => by rw [encGs_map] at hx; obtain ⟨g, _, rfl⟩ := List.mem_map.1 hx; exact encG_len g) (sanLL_encGs xs) H id h, encGs_app]
   have hp1 := fun H id (h : AnyOk _ _ _ _ _) => hp o (listL (b.take i)) [b[i]] H id h (by simp only [List.length_cons, List.length_nil]; omega)
   have e1 : encGs [b[i]] = [encG b[i]] := rfl
   rw [e1] at hp1
   have hA1 : ∀ (H : Heap) (id : Nat), AnyOk H o (encGs (listL (b.take i))) 31 8 → AnyOk (appU H (usO o [encG b[i]] id)) (newO o [encG b[i]] id 31 8) (encGs (listL (b.take i) ++ [b[i]])) 31 8 := fun H id h => by
    rw [encGs_app]; exact AnyOk_new h
   have hp2 := fun o H id (h : AnyOk _ _ _ _ _) => hp o (listL (b.take i) ++ [b[i]]) (listL b[i].th) H id h (by simp only [List.length_append, List.length_cons, List.length_nil]; omega)
   have hA2 : ∀ (o : Own) (H : Heap) (id : Nat), AnyOk H o (encGs (listL (b.take i) ++ [b[i]])) 31 8 → AnyOk (appU H (usO o (encGs (listL b[i].th)) id)) (newO o (encGs (listL b[i].th)) id 31 8) (encGs ((listL (b.take i) ++ [b[i]]) ++ listL b[i].th)) 31 8 := fun o H id h => by
    rw [encGs_app (listL (b.take i) ++ [b[i]])]; exact AnyOk_new h
   have hp3 := fun o H id (h : AnyOk _ _ _ _ _) => hp o ((listL (b.take i) ++ [b[i]]) ++ listL b[i].th) (listL b[i].el) H id h (by simp only [List.length_append, List.length_cons, List.length_nil]; omega)
   have hA3 : ∀ (o : Own) (H : Heap) (id : Nat), AnyOk H o (encGs ((listL (b.take i) ++ [b[i]]) ++ listL b[i].th)) 31 8 → AnyOk (appU H (usO o (encGs (listL b[i].el)) id)) (newO o (encGs (listL b[i].el)) id 31 8) (encGs (((listL (b.take i) ++ [b[i]]) ++ listL b[i].th) ++ listL b[i].el)) 31 8 := fun o H id h => by
    rw [encGs_app ((listL (b.take i) ++ [b[i]]) ++ listL b[i].th)]; exact AnyOk_new h
   have er : ((listL (b.take i) ++ [b[i]]) ++ listL b[i].th) ++ listL b[i].el = listL (b.take (i + 1)) := by rw [listL_take hl]; simp only [List.append_assoc, List.cons_append, List.nil_append]
   rw [er] at hA3
   simp only [er] at hp3
   have y6 : (List.drop 6 (encG b[i]))[0]? = some (.sl .sh (encGs b[i].th)) := by rw [List.getElem?_drop]; exact x6
   have y7 : (List.drop 7 (encG b[i]))[0]? = some (.sl .sh (encGs b[i].el)) := by rw [List.getElem?_drop]; exact x7
   generalize hE1 : listL (b.take i) ++ [b[i]] = E1 at *
   generalize hE2 : E1 ++ listL b[i].th = E2 at *
   obtain ⟨n, hnx⟩ : ∃ n, H.next = n := ⟨_, rfl⟩
   have q1 := hA1 ((H.up 4).up 8) (n + 10) (by simpa only [AnyOk_up] using hA)
   have q2 := hA2 _ ((appU ((H.up 4).up 8) (usO o [encG b[i]] (n + 10))).up 9) (n + 19) (by simpa only [AnyOk_up] using q1)
   have q3 := hA3 _ ((appU ((appU ((H.up 4).up 8) (usO o [encG b[i]] (n + 10))).up 9) (usO (newO o [encG b[i]] (n + 10) 31 8) (encGs (listL b[i].th)) (n + 19))).up 9) (n + 28) (by simpa only [AnyOk_up] using q2)
   simp only [go_sem, simprocAttr, hnx, e0, e3, e4, d1, ha, x1, x2, x3, x6, x7, y6, y7, hn1, hn2, hw1, hb1, encGs_len, hp1, hA, AnyOk_up, q1, hp2, q2, hp3, usO_next]
   exact ih (b.length - (i + 1)) (by omega) _ _ ⟨i + 1, _, rfl, by omega, q3, by simp only [go_sem, simprocAttr, e0], by simp only [go_sem, simprocAttr] <;> rfl, by simp only [go_sem, simprocAttr]⟩
  ·have d1 : decide ((i : Int) < (b.length : Nat)) = false := by simp; omega
   rw [List.take_of_length_le (by omega)] at e3
   simp only [go_sem, simprocAttr, e0, e3, e4, d1, rs, sanLL_encGs, encGs_len]
   rw [hr]
end Go.Proofs.YtnoahchdmkpleaaGreat.VA
