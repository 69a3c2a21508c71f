/- What is proved: strings.Join, walked at this program: of at least two texts that lie in a row of cells it makes their join, and what lay there before stands. Conditions: the row lies in the heap, the join has at most 2^47 bytes. -/
import Derived.Test.YtiiaajajhkdemaaSi
import Derived.Lib.Join
import Derived.BigCall
import Derived.BigGuard
namespace Go.Proofs.Ytiiaajajhkdemaa.VA
open Go Go.Shelf Go.RowKit
set_option linter.unusedVariables false
set_option linter.unusedSimpArgs false

theorem hid {p : Prop} (h : p) : Hid p := h
theorem join_nums {n s M : Nat} (hn : 2 ≤ n) (hN : n ≤ 140737488355328) (hM : s * (n - 1) = M) (hb : M ≤ 140737488355328) :
    ¬ (9223372036854775807 / ((n : Int) - 1) ≤ (s : Int)) ∧ Go.RowKit.wrap64 ((s : Int) * ((n : Int) - 1)) = (M : Int) := by
  obtain ⟨k, rfl⟩ : ∃ k, n = k + 2 := ⟨n - 2, by omega⟩
  have e1 : ((k + 2 : Nat) : Int) - 1 = ((k + 1 : Nat) : Int) := by omega
  have hM' : s * (k + 1) = M := hM
  have e2 : (s : Int) * ((k + 1 : Nat) : Int) = (M : Int) := by rw [← hM']; exact (Int.natCast_mul s (k + 1)).symm
  rw [e1]
  constructor
  · intro h
    have h5 : (s : Int) + 1 ≤ 9223372036854775807 / ((k + 1 : Nat) : Int) := Int.le_ediv_of_mul_le (by omega) (by rw [Int.add_mul, e2]; omega)
    omega
  · rw [e2]
    exact IntWalk.wrap64_in _ ⟨by omega, by omega⟩
/-- The texts' lengths, added up; the texts behind the first one, each with what stands ahead of it. -/
theorem join_many (bk off c : Nat) (xs : List ByteArray) (sep : ByteArray) (w : World) (hcells : ∀ (j : Nat) x, xs[j]? = some x → w.cell? ⟨bk, off + j, none⟩ = some (.string x))
    (hbk : bk < w.heap.size) (h2 : 2 ≤ xs.length) (hN : xs.length ≤ 140737488355328) (hcap : xs.length ≤ c)
    (hlen : (Lib.join (xs.map (·.data.toList)) sep.data.toList).length ≤ 140737488355328) :
    Calls Try.prog 27 #[.slice (some ⟨bk, off, none⟩) xs.length c, .string sep] w fun e w' => e = .returned (.string ⟨(Lib.join (xs.map (·.data.toList)) sep.data.toList).toArray⟩) ∧ Below w.heap.size w w' := by
  obtain ⟨x0, r, hxs⟩ : ∃ x0 r, xs = x0 :: r := by
    cases xs with
    | nil => simp at h2
    | cons a t => exact ⟨a, t, rfl⟩
  have hwhole : Lib.join (xs.map (·.data.toList)) sep.data.toList = x0.data.toList ++ Lib.joinTail sep.data.toList (r.map (·.data.toList)) := by
    rw [hxs, List.map_cons, Lib.join_cons]
  have hsum : sep.size * (xs.length - 1) + Lib.lens (xs.map (·.data.toList)) ≤ 140737488355328 := by
    rw [hwhole, List.length_append, Lib.joinTail_length] at hlen
    have e : Lib.lens (xs.map (·.data.toList)) = x0.data.toList.length + Lib.lens (r.map (·.data.toList)) := by rw [hxs]; simp [Lib.lens]
    have e3 : r.length = xs.length - 1 := by rw [hxs]; simp
    rw [e, Lib.size_eq, ← e3]
    rw [List.length_map] at hlen
    omega
  obtain ⟨M, hM⟩ : ∃ M, sep.size * (xs.length - 1) = M := ⟨_, rfl⟩
  rw [hM] at hsum
  have nums := join_nums h2 hN hM (by omega)
  have hdv := nums.1
  have hmu := nums.2
  have hM0 : sep.size = 0 → M = 0 := fun h => by rw [← hM, h, Nat.zero_mul]
  have hne0 : ((xs.length : Int) == 0) = false := beq_eq_false_iff_ne.2 (by omega)
  have hne1 : ((xs.length : Int) == 1) = false := beq_eq_false_iff_ne.2 (by omega)
  have HC := hid hcells
  have HX := hid hxs
  have HL := hid hlen
  have HW := hid hwhole
  clear hcells hxs hlen hwhole nums
  go_enter Try.func27, Try.ntmps27
  go_wp2_with fail
  all_goals (
    go_loop [5, 41] (fun n i => ∃ k : Nat, k ≤ xs.length ∧ i = .int .i64 k ∧ n = .int .i64 ((M + Lib.lens ((xs.map (·.data.toList)).take k) : Nat) : Int)) (fun _ i => xs.length - (intOf i).toNat)
    case atStart => exact ⟨0, Nat.zero_le _, rfl, by first | (simp [Lib.lens]; done) | (have := hM0 (by omega); simp [Lib.lens, this])⟩
    case round =>
      obtain ⟨k, hk, rfl, rfl⟩ := hrel
      by_cases hlt : k < xs.length
      · have hx : xs[k]? = some xs[k] := List.getElem?_eq_getElem hlt
        generalize xs[k] = x at hx
        have hcell := HC.out k x hx
        have hs := Lib.lens_take_succ (xs.map (·.data.toList)) k x.data.toList (by simp [hx])
        have hb := Lib.lens_take_le (xs.map (·.data.toList)) (k + 1)
        rw [← Lib.size_eq] at hs
        generalize hA : Lib.lens ((xs.map (·.data.toList)).take (k + 1)) = A at hs hb
        generalize Lib.lens ((xs.map (·.data.toList)).take k) = A0 at hs
        have HA := hid hA
        clear hA
        go_wp2
        exact ⟨⟨k + 1, by omega, by go_num, by rw [HA.out]; refine congrArg _ ?_; omega⟩, by simp [intOf]; omega⟩
      · have hke : k = xs.length := by omega
        subst hke
        rw [List.take_of_length_le (show (xs.map (·.data.toList)).length ≤ xs.length by simp)]
        generalize hT : Lib.lens (xs.map (·.data.toList)) = T at hsum
        have HT := hid hT
        clear hT
        go_wp2_with fail
        have hMT : ((M : Int) + (T : Int)) = ((M + T : Nat) : Int) := by omega
        rw [hMT]
        refine (Try.Builder_Grow_fresh w.heap.size w.heap.size (M + T) _ (Nat.le_refl _) (heap_alloc_new w _) (by simp) (by omega)).mono ?_
        rintro e w1 ⟨rfl, hb1, hw1⟩
        have hw1' : Below w.heap.size w w1 := ((Below.refl w.heap.size w).alloc (Nat.le_refl _) _).trans hw1
        have hx0 : xs[0]? = some x0 := by rw [HX.out]; rfl
        have hcell : w1.cell? ⟨bk, off, none⟩ = some (.string x0) := by
          rw [hw1'.cell (p := ⟨bk, off, none⟩) hbk]
          exact HC.out 0 x0 hx0
        have B1 := hid (Or.inr hb1 : Lib.IsBuilder 50 5 w.heap.size w.heap.size [] w1)
        have W1 := hid hw1'
        have hsz1 : w.heap.size ≤ w1.heap.size := hw1'.size
        have hfit : ∀ k, (x0.data.toList ++ Lib.joinTail sep.data.toList ((r.map (·.data.toList)).take k)).length ≤ 140737488355328 := fun k => by
          have h1 := HL.out
          rw [HW.out, List.length_append] at h1
          have := Lib.joinTail_take_le sep.data.toList (r.map (·.data.toList)) k
          rw [List.length_append]; omega
        have HF := hid hfit
        clear hb1 hw1 hw1' hMT hfit
        go_wp2_with fail
        refine (Try.Builder_WriteString w.heap.size w.heap.size [] x0 w1 B1.out (by have := HF.out 0; simp [Lib.joinTail] at this ⊢; omega) hsz1).mono ?_
        rintro e w2 ⟨rfl, hb2, hw2⟩
        rw [show ([] : List Value) ++ Lib.strCells x0 = Lib.byteCells (x0.data.toList ++ Lib.joinTail sep.data.toList ((r.map (·.data.toList)).take 0)) by simp [Lib.joinTail, Lib.strCells_eq]] at hb2
        have B2 := hid (Or.inr hb2 : Lib.IsBuilder 50 5 w.heap.size w.heap.size _ w2)
        have W2 := hid (W1.out.trans hw2)
        have hrl : r.length = xs.length - 1 := by rw [HX.out]; simp
        clear hb2 hw2
        go_wp2_with fail
        go_loopw [65] (fun i wr => ∃ k : Nat, k ≤ r.length ∧ i = .int .i64 k ∧ Hid (Lib.IsBuilder 50 5 w.heap.size w.heap.size (Lib.byteCells (x0.data.toList ++ Lib.joinTail sep.data.toList ((r.map (·.data.toList)).take k))) wr) ∧
          Hid (Below w.heap.size w wr)) (fun i _ => r.length - (intOf i).toNat)
        case atStart => exact ⟨0, Nat.zero_le _, rfl, B2, W2⟩
        case round =>
          obtain ⟨k, hk2, rfl, BK, WK⟩ := hrel
          by_cases hlt : k < r.length
          · have hy : r[k]? = some r[k] := List.getElem?_eq_getElem hlt
            generalize r[k] = y at hy
            have hxy : xs[k + 1]? = some y := by rw [HX.out]; simpa using hy
            have hcell : wr.cell? ⟨bk, off + 1 + k, none⟩ = some (.string y) := by
              rw [WK.out.cell (p := ⟨bk, off + 1 + k, none⟩) hbk, show off + 1 + k = off + (k + 1) by omega]
              exact HC.out (k + 1) y hxy
            have hsz : w.heap.size ≤ wr.heap.size := WK.out.size
            have htail := Lib.joinTail_take_succ sep.data.toList (r.map (·.data.toList)) k y.data.toList (by simp [hy])
            have hl := HF.out (k + 1)
            rw [htail] at hl
            simp only [List.length_append, ← Lib.size_eq] at hl
            have hl0 : (Lib.byteCells (x0.data.toList ++ Lib.joinTail sep.data.toList ((r.map (·.data.toList)).take k))).length = x0.size + (Lib.joinTail sep.data.toList ((r.map (·.data.toList)).take k)).length := by
              rw [Lib.byteCells_length, List.length_append, ← Lib.size_eq]
            have hnext := hid (show Lib.byteCells (x0.data.toList ++ Lib.joinTail sep.data.toList ((r.map (·.data.toList)).take k)) ++ Lib.strCells sep ++ Lib.strCells y =
                Lib.byteCells (x0.data.toList ++ Lib.joinTail sep.data.toList ((r.map (·.data.toList)).take (k + 1))) by
              rw [htail, Lib.strCells_eq, Lib.strCells_eq, ← Lib.byteCells_append, ← Lib.byteCells_append]
              simp only [List.append_assoc])
            generalize (Lib.joinTail sep.data.toList ((r.map (·.data.toList)).take k)).length = J at hl0 hl
            clear htail hy hxy
            go_wp2_with fail
            refine (Try.Builder_WriteString w.heap.size w.heap.size _ sep wr BK.out (by rw [hl0]; omega) hsz).mono ?_
            rintro e w3 ⟨rfl, hb3, hw3⟩
            have hsz3 : w.heap.size ≤ w3.heap.size := Nat.le_trans hsz hw3.size
            have B3 := hid hb3
            have W3 := hid hw3
            clear hb3 hw3
            go_wp2_with fail
            refine (Try.Builder_WriteString w.heap.size w.heap.size _ y w3 (Or.inr B3.out) (by rw [List.length_append, hl0, Lib.strCells_length]; omega) hsz3).mono ?_
            rintro e w4 ⟨rfl, hb4, hw4⟩
            rw [hnext.out] at hb4
            have B4 := hid (Or.inr hb4 : Lib.IsBuilder 50 5 w.heap.size w.heap.size _ w4)
            have W4 := hid ((WK.out.trans W3.out).trans hw4)
            clear hb4 hw4
            go_wp2
            exact ⟨⟨k + 1, by omega, by go_num, B4, W4⟩, by simp [intOf]; omega⟩
          · have hke : k = r.length := by omega
            subst hke
            have hb := BK.out
            rw [List.take_of_length_le (show (r.map (·.data.toList)).length ≤ r.length by simp), ← HW.out] at hb
            have hsz : w.heap.size ≤ wr.heap.size := WK.out.size
            go_wp2_with fail
            refine (Try.Builder_String_any w.heap.size w.heap.size _ wr hb hsz).mono ?_
            rintro e w5 ⟨rfl, hw5⟩
            have W5 := hid (WK.out.trans hw5)
            clear hb hw5
            go_wp2
            go_ret
            exact ⟨rfl, W5.out⟩)
end Go.Proofs.Ytiiaajajhkdemaa.VA
