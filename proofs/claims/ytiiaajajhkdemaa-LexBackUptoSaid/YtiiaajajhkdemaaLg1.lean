/- What is proved: the law LexGaps, called with a string and two integers, returns true and leaves what is there alone. No condition. -/
import Derived.Test.YtiiaajajhkdemaaLf2
import Derived.Test.YtiiaajajhkdemaaLp3
namespace Go.Proofs.Ytiiaajajhkdemaa.VA
open Go Go.RowKit
set_option linter.unusedSimpArgs false

@[go_sem] theorem NoConf_still (v v' : AV) (us : List U) (rs : List Nat) : NoConf (.val v [] []) (.val v' us rs) = True := by simp [NoConf]
@[go_sem] theorem bs4_str (a b c d : ByteArray) : aBuildSlice Try.prog 35 4 [(0, .lit (.string a)), (1, .lit (.string b)), (2, .lit (.string c)), (3, .lit (.string d))] =
    some (.sl .ex [[.lit (.string a)], [.lit (.string b)], [.lit (.string c)], [.lit (.string d)]]) := by
  simp [aBuildSlice, el_str, zr_str, aFill, chunk, AV.cells, AV.one, List.replicate_succ, Value.oneCell']
@[go_sem] theorem cfg_imp (f : FuncId) : cfg.imp f = false := rfl
theorem rem4 (n : Int) : ∃ j : Nat, (n.tmod 4 + 4).tmod 4 = (j : Int) ∧ j < 4 ∧ IntKind.wrap .i64 (n.tmod 4 + 4) = n.tmod 4 + 4 := by
  have h1 := Int.tmod_lt_of_pos n (show (0 : Int) < 4 by omega)
  have h2 := Int.lt_tmod_of_pos n (show (0 : Int) < 4 by omega)
  refine ⟨((n.tmod 4 + 4) % 4).toNat, ?_, by omega, wrap64 (by omega) (by omega)⟩
  rw [Int.tmod_eq_emod_of_nonneg (by omega)]
  omega
theorem gapL_len (j : Nat) : (gapL j).length ≤ 14 := by
  match j with
  | 0 => decide
  | 1 => decide
  | 2 => decide
  | (k + 3) => exact (by decide : ([13, 10, 35, 32, 49, 97, 10, 32] : List UInt8).length ≤ 14)
theorem gap_iad {t : TypeId} {b : Nat} {o : Own} {j : Nat} (hj : j < 4) :
    iad (some (t, 1, b)) (.sl o [[.lit (.string (ba [32]))], [.lit (.string (ba [10, 9]))], [.lit (.string (ba [35, 32, 97, 32, 123, 114, 101, 109, 97, 114, 107, 32, 63, 10]))], [.lit (.string (ba [13, 10, 35, 32, 49, 97, 10, 32]))]]) (some j) =
      some (.ep [.lit (.string (ba (gapL j)))]) := by
  match j, hj with
  | 0, _ => rfl
  | 1, _ => rfl
  | 2, _ => rfl
  | 3, _ => rfl
set_option maxRecDepth 20000 in
theorem lex_gaps (s : List UInt8) (at_ what : Int) (H : Heap) : calls Try.prog cfg 5 [.lit (.string (ba s)), .lit (.int .i64 at_), .lit (.int .i64 what)] H = some (.ret (.lit (.bool true)) H) := by
  refine calls_pure (fn := Try.f5) rfl rfl rfl rfl rfl ?_ H
  have rs : Try.f5.results.toList = [.tmp 6] := rfl
  have hans : ∀ A, lexAns s = A → A.2.1 = 0 ∨ decide (((A.2.1 : Nat) : Int) = 0) = false := by
    intro A _
    by_cases h : A.2.1 = 0
    · exact .inl h
    · exact .inr (by simp; omega)
  obtain ⟨⟨ts, cd, p⟩, hA⟩ : ∃ A, lexAns s = A := ⟨_, rfl⟩
  rcases hans _ hA with h0 | h0
  · simp only at h0
    subst h0
    by_cases h1 : at_ < 0
    · have d1 : decide (at_ < 0) = true := by simp [h1]
      simp only [go_sem, Nat.reduceBEq, Nat.reduceLeDiff, Nat.reduceEqDiff, true_and, and_true, ite_true, if_false, Int.cast_ofNat_Int, eq_self, Nat.add_assoc, Option.some.injEq, Int.reduceEq, Int.reduceLT, Int.reduceLE, Int.reduceAdd, Nat.reduceSub, Nat.reduceAdd, decide_true, decide_false, Bool.not_true, Bool.not_false, List.size_toArray, List.length_cons, List.length_nil, rs, c_fixed, c_lex, hA, encLex, encFault, d1]
    have d1 : decide (at_ < 0) = false := by simp [h1]
    obtain ⟨i, rfl⟩ : ∃ i : Nat, at_ = (i : Int) := ⟨at_.toNat, by omega⟩
    by_cases h2 : ts.length ≤ i
    · have d2 : decide (((ts.length : Nat) : Int) ≤ (i : Nat)) = true := by simp; omega
      simp only [go_sem, Nat.reduceBEq, Nat.reduceLeDiff, Nat.reduceEqDiff, true_and, and_true, ite_true, if_false, Int.cast_ofNat_Int, eq_self, Nat.add_assoc, Option.some.injEq, Int.reduceEq, Int.reduceLT, Int.reduceLE, Int.reduceAdd, Nat.reduceSub, Nat.reduceAdd, decide_true, decide_false, Bool.not_true, Bool.not_false, List.size_toArray, List.length_cons, List.length_nil, rs, c_fixed, c_lex, hA, encLex, encFault, d1, d2, List.length_map]
    have d2 : decide (((ts.length : Nat) : Int) ≤ (i : Nat)) = false := by simp; omega
    by_cases h3 : 60000 < s.length
    · have d3 : decide ((60000 : Int) < (s.length : Nat)) = true := by simp; omega
      simp only [go_sem, Nat.reduceBEq, Nat.reduceLeDiff, Nat.reduceEqDiff, true_and, and_true, ite_true, if_false, Int.cast_ofNat_Int, eq_self, Nat.add_assoc, Option.some.injEq, Int.reduceEq, Int.reduceLT, Int.reduceLE, Int.reduceAdd, Nat.reduceSub, Nat.reduceAdd, decide_true, decide_false, Bool.not_true, Bool.not_false, List.size_toArray, List.length_cons, List.length_nil, rs, c_fixed, c_lex, hA, encLex, encFault, d1, d2, d3, List.length_map, ba_size]
    have d3 : decide ((60000 : Int) < (s.length : Nat)) = false := by simp; omega
    have hok : lexL s 0 = .ok ts := by
      unfold lexAns at hA
      rw [if_neg (by omega)] at hA
      cases hl : lexL s 0 with
      | ok l => rw [hl] at hA; simp at hA; rw [hA.1]
      | err a => rw [hl] at hA; simp at hA
    have hx : ts[i]? = some ts[i] := List.getElem?_eq_getElem (by omega)
    generalize ts[i] = x at hx
    obtain ⟨j, hj, hj4, hwr⟩ := rem4 what
    obtain ⟨hple, hg⟩ := gaps_lex hok hx j
    have hgl := gapL_len j
    have hrem1 : aInt .rem .i64 what 4 = some (.lit (.int .i64 (what.tmod 4))) := int_rem _ _ _ (by decide)
    have hrem2 : aInt .rem .i64 (what.tmod 4 + 4) 4 = some (.lit (.int .i64 (j : Nat))) := by rw [int_rem _ _ _ (by decide), hj]
    have hiad : ∀ o, iad (some (37, 3, 32)) (.sl o (ts.map encTok)) (some i) = some (.ep (encTok x)) := fun o => iad_some (by simp [hx]) rfl
    have hs1 : aSlice Try.prog 9 (.lit (.string (ba s))) none (some (.lit (.int .i64 (x.at_ : Nat)))) = some (.lit (.string (ba (s.take x.at_)))) := by
      rw [slice_str und_string (h := x.at_) (l := 0) (by simp only [optNat, aNat_cast]) rfl (by omega) (by simpa using hple), ba_extract]
      simp
    have hs2 : aSlice Try.prog 9 (.lit (.string (ba s))) (some (.lit (.int .i64 (x.at_ : Nat)))) none = some (.lit (.string (ba (s.drop x.at_)))) := by
      rw [slice_str und_string (h := s.length) (l := x.at_) (by simp only [optNat, ba_size]) (by simp only [optNat, aNat_cast]) (by omega) (by simp), ba_extract, List.take_of_length_le (by simp)]
    have ha1 := add_ba (s.take x.at_) (gapL j) (by simp; omega)
    have ha2 := add_ba (s.take x.at_ ++ gapL j) (s.drop x.at_) (by simp; omega)
    have e3 := lexAns_ok (by simp; omega) hg
    have hlen := lexL_len hok
    have hpc := fun H => c_plainT (ts.take i ++ (ts.drop i).map (Tok.up (gapL j).length)) (by simp; omega) .sh H
    have hpa := fun H => c_plainT ts (by omega) .sh H
    rw [plain_up, List.take_append_drop] at hpc
    have hsm := fun o o' H => c_same ((ts.map Tok.g).map plainG) ((ts.map Tok.g).map plainG) (by simp; omega) o o' H
    simp only [go_sem, Nat.reduceBEq, Nat.reduceLeDiff, Nat.reduceEqDiff, true_and, and_true, ite_true, if_false, Int.cast_ofNat_Int, eq_self, Nat.add_assoc, Option.some.injEq, Int.reduceEq, Int.reduceLT, Int.reduceLE, Int.reduceAdd, Nat.reduceSub, Nat.reduceAdd, decide_true, decide_false, Bool.not_true, Bool.not_false, List.size_toArray, List.length_cons, List.length_nil, rs, c_fixed, c_lex, hA, encLex, encFault, d1, d2, d3, List.length_map, ba_size]
    refine W_draw [(5, 13), (5, 20), (13, 20), (5, 27), (13, 27), (20, 27), (23, 27)] (by kernel_rfl) ?_
    simp only [go_sem, Nat.reduceBEq, Nat.reduceLeDiff, Nat.reduceEqDiff, true_and, and_true, ite_true, if_false, Int.cast_ofNat_Int, eq_self, Nat.add_assoc, Option.some.injEq, Int.reduceEq, Int.reduceLT, Int.reduceLE, Int.reduceAdd, Nat.reduceSub, Nat.reduceAdd, decide_true, decide_false, Bool.not_true, Bool.not_false, List.size_toArray, List.length_cons, List.length_nil, rs, hiad, encTok, Option.map_none, hs1, hs2, hrem1, hrem2, hwr, gap_iad hj4, ha1, ha2, c_lex, e3, encLex, encFault, hpc, hpa, hsm]
  · simp only at h0
    simp only [go_sem, Nat.reduceBEq, Nat.reduceLeDiff, Nat.reduceEqDiff, true_and, and_true, ite_true, if_false, Int.cast_ofNat_Int, eq_self, Nat.add_assoc, Option.some.injEq, Int.reduceEq, Int.reduceLT, Int.reduceLE, Int.reduceAdd, Nat.reduceSub, Nat.reduceAdd, decide_true, decide_false, Bool.not_true, Bool.not_false, List.size_toArray, List.length_cons, List.length_nil, rs, c_fixed, c_lex, hA, encLex, encFault, h0]
theorem LexGaps_walk (a0 : ByteArray) (a1 a2 : Int) (w : World) (_ : a0.size ≤ maxLen) (_ : (Lit.int .i64 a1).wf = true) (_ : (Lit.int .i64 a2).wf = true) :
    Calls Try.prog 5 #[.string a0, .int .i64 a1, .int .i64 a2] w fun e w' => e = .returned (.bool true) ∧ Below w.heap.size w w' := by
  refine law_calls cfg_ok (args := [.lit (.string a0), .lit (.int .i64 a1), .lit (.int .i64 a2)]) ?_ (RelL.cons (.lit _) (RelL.cons (.lit _) (RelL.cons (.lit _) (RelL.nil _ _))))
  rw [ba_eta a0]
  exact lex_gaps _ _ _ _
end Go.Proofs.Ytiiaajajhkdemaa.VA
