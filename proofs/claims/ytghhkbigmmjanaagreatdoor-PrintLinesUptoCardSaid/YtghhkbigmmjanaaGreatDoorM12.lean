/- What is proved: the law PrintLines returns true, in the abstract interpreter (VA). Condition: numbers and lengths are a machine's. -/
import Derived.Test.YtghhkbigmmjanaaGreatDoorM10
/-! Qd5 -/
namespace Go.Proofs.YtghhkbigmmjanaaGreatDoor.VA
open Go Go.RowKit
attribute [local go_sem] Nat.add_eq_left Nat.left_eq_add true_and and_true ite_true if_false Int.cast_ofNat_Int eq_self Nat.add_assoc Option.some.injEq decide_true decide_false Bool.not_true Bool.not_false List.size_toArray List.length_cons List.length_nil
set_option linter.unusedSimpArgs false
set_option maxRecDepth 100000

theorem nls_le (s : Wd) : nls s ≤ s.length := List.length_filter_le _ _
theorem nls_one (b : UInt8) : nls [b] = if b = 10 then 1 else 0 := by
 by_cases hb : b = 10
 ·rw [if_pos hb, hb]; rfl
 ·rw [if_neg hb]; simp [nls, hb]
theorem byteEq (b : UInt8) (n : Nat) (hn : n < 256) : decide (((b.toNat : Nat) : Int) = ((n : Nat) : Int)) = decide (b = UInt8.ofNat n) := by
 rw [Bool.eq_iff_iff, decide_eq_true_eq, decide_eq_true_eq]
 constructor
 ·intro h
  apply UInt8.toNat_inj.1
  rw [UInt8.toNat_ofNat']
  omega
 ·rintro rfl
  rw [UInt8.toNat_ofNat']
  omega
set_option maxRecDepth 20000 in
theorem print_lines (fs : List GFunc) (hF : Fine fs) (o : Own) (H : Heap) : calls Tryz.prog cfg2 10 [.agg [.sl o (fs.map encFunc)]] H = some (.ret (.lit (.bool true)) H) := by
 refine calls_pure (fn := Tryz.f10) rfl rfl rfl rfl rfl ?_ H
 have rs : Tryz.f10.results.toList = [.tmp 2] := rfl
 have h0 := c_fixed3
 have h1 := fun o H => up (c_rBig fs hF.fit hF.sum o H)
 cases hB : bigI fs with
 | true =>
  rw [hB] at h1
  simp only [go_sem, simprocAttr, rs, h0, h1]
 | false =>
 rw [hB] at h1
 have h2 := fun o H => c_pMay fs hF.ok hF.fit hF.len o H
 rw [may_eq hF.fit] at h2
 cases hM : mayR fs with
 | false =>
  rw [hM] at h2
  simp only [go_sem, simprocAttr, rs, h0, h1, h2]
 | true =>
 rw [hM] at h2
 have h3 := fun o H => c_pProgram fs hF.ok hF.fit hF.len o H
 rw [prog_eq hF.fit, progR_may hM] at h3
 have hr : rightP fs = true := by rw [mayR, Bool.and_eq_true] at hM; exact hM.1
 have hlen : (spelt fs).length ≤ 65536 := by simp only [mayR, Bool.and_eq_true, decide_eq_true_eq] at hM; exact hM.2.2
 obtain ⟨hni, hnl⟩ := spelt_nice hr
 have hend : fs.length = 0 ∧ spelt fs = [] ∨ 0 < fs.length ∧ ∃ T, spelt fs = T ++ [10] := by
  cases fs with
  | nil => exact .inl ⟨rfl, rfl⟩
  | cons f fs => exact .inr ⟨by simp, spelt_last (by simp)⟩
 generalize hS : spelt fs = S at *
 simp only [go_sem, simprocAttr, rs, h0, h1, h2, h3]
 refine W_loop_ind (fun k e H => ∃ i : Nat, k = S.length - i ∧ i ≤ S.length ∧ gget .bad e 1 = .ptr 0 0 ∧ gget .bad e 3 = .lit (.string (ba S)) ∧ gget .bad e 4 = .lit (.int .i64 (nls (S.take i) : Nat)) ∧ gget .bad e 5 = .lit (.int .i64 (i : Nat)) ∧ H.get 0 = some [.sl .sh (fs.map encFunc)])
  S.length ⟨0, rfl, by omega, by simp only [go_sem, simprocAttr], by simp only [go_sem, simprocAttr], by simp only [go_sem, simprocAttr] <;> rfl, by simp only [go_sem, simprocAttr] <;> rfl, by simp only [go_sem, simprocAttr] <;> rfl⟩ ?_
 rintro k ihk e H ⟨i, rfl, hle, g1, g3, g4, g5, g⟩
 by_cases hlt : i < S.length
 ·have hlt' : decide ((i : Int) < (S.length : Nat)) = true := by rw [decide_eq_true_eq]; omega
  have hix := ixs_ba hlt
  have htk := take_succ' (0 : UInt8) hlt
  have hge : S[i]? = some (S.getD i 0) := by rw [List.getD_eq_getElem?_getD, List.getElem?_eq_getElem hlt]; rfl
  have hw1 := wrap1 (show i + 1 ≤ 9223372036854775807 by omega)
  have hnn := nls_le (S.take i)
  rw [List.length_take] at hnn
  have hw2 := wrap1 (show nls (S.take i) + 1 ≤ 9223372036854775807 by omega)
  have hna : nls (S.take (i + 1)) = nls (S.take i) + (if S.getD i 0 = 10 then 1 else 0) := by
   rw [htk, nls_app, nls_one]
  generalize S.getD i 0 = b at *
  have e10 := byteEq b 10 (by omega)
  have e32 := byteEq b 32 (by omega)
  simp only [Int.cast_ofNat_Int] at e10 e32
  by_cases hb : b = 10
  ·have d10 : decide (((b.toNat : Nat) : Int) = 10) = true := by rw [e10, hb]; rfl
   have d32 : decide (((b.toNat : Nat) : Int) = 32) = false := by rw [e32, hb]; rfl
   rw [if_pos hb] at hna
   simp only [go_sem, simprocAttr, g1, g3, g4, g5, g, ba_size, hlt', hix, d10, d32, hw1, hw2]
   exact ihk _ (by omega) _ _ ⟨i + 1, rfl, by omega, by simp only [go_sem, simprocAttr, g1], by simp only [go_sem, simprocAttr, g3], by simp only [go_sem, simprocAttr, hna], by simp only [go_sem, simprocAttr], g⟩
  ·have d10 : decide (((b.toNat : Nat) : Int) = 10) = false := by rw [e10]; simpa using hb
   simp only [if_neg hb, Nat.add_zero] at hna
   by_cases hb2 : b = 32
   ·have d32 : decide (((b.toNat : Nat) : Int) = 32) = true := by rw [e32, hb2]; rfl
    rw [hb2] at hge
    have hn2 := nice_get hni hge
    by_cases hi1 : i + 1 < S.length
    ·have dl : decide (((i + 1 : Nat) : Int) < (S.length : Nat)) = true := by rw [decide_eq_true_eq]; omega
     have hiy := ixs_ba hi1
     have hgy : S[i + 1]? = some (S.getD (i + 1) 0) := by rw [List.getD_eq_getElem?_getD, List.getElem?_eq_getElem hi1]; rfl
     rw [hgy] at hn2
     generalize S.getD (i + 1) 0 = c at *
     have c10 := byteEq c 10 (by omega)
     have c32 := byteEq c 32 (by omega)
     simp only [Int.cast_ofNat_Int] at c10 c32
     have k10 : decide (((c.toNat : Nat) : Int) = 10) = false := by rw [c10]; simpa using hn2.2
     have k32 : decide (((c.toNat : Nat) : Int) = 32) = false := by rw [c32]; simpa using hn2.1
     simp only [go_sem, simprocAttr, g1, g3, g4, g5, g, ba_size, hlt', hix, hiy, d10, d32, dl, k10, k32, hw1]
     exact ihk _ (by omega) _ _ ⟨i + 1, rfl, by omega, by simp only [go_sem, simprocAttr, g1], by simp only [go_sem, simprocAttr, g3], by simp only [go_sem, simprocAttr, g4, hna], by simp only [go_sem, simprocAttr], g⟩
    ·have dl : decide (((i + 1 : Nat) : Int) < (S.length : Nat)) = false := by rw [decide_eq_false_iff_not]; omega
     simp only [go_sem, simprocAttr, g1, g3, g4, g5, g, ba_size, hlt', hix, d10, d32, dl, hw1]
     exact ihk _ (by omega) _ _ ⟨i + 1, rfl, by omega, by simp only [go_sem, simprocAttr, g1], by simp only [go_sem, simprocAttr, g3], by simp only [go_sem, simprocAttr, g4, hna], by simp only [go_sem, simprocAttr], g⟩
   ·have d32 : decide (((b.toNat : Nat) : Int) = 32) = false := by rw [e32]; simpa using hb2
    simp only [go_sem, simprocAttr, g1, g3, g4, g5, g, ba_size, hlt', hix, d10, d32, hw1]
    exact ihk _ (by omega) _ _ ⟨i + 1, rfl, by omega, by simp only [go_sem, simprocAttr, g1], by simp only [go_sem, simprocAttr, g3], by simp only [go_sem, simprocAttr, g4, hna], by simp only [go_sem, simprocAttr], g⟩
 ·obtain rfl : i = S.length := by omega
  have hlt' : decide (((S.length : Nat) : Int) < (S.length : Nat)) = false := by simp
  rw [List.take_length, hnl] at g4
  have q0 : decide (((fs.length : Nat) : Int) = ((fs.length : Nat) : Int)) = true := by simp
  rcases hend with ⟨hz, hSe⟩ | ⟨hp, T, hT⟩
  ·have q1 : decide (((fs.length : Nat) : Int) = 0) = true := by rw [decide_eq_true_eq]; omega
   have q2 : decide (ba S = ba []) = true := by rw [strEq_nil, hSe]; rfl
   simp only [go_sem, simprocAttr, g1, g3, g4, g5, g, h0, ba_size, List.length_map, hlt', q0, q1, q2, rs, bb_t, bb_f]
  ·have q1 : decide (((fs.length : Nat) : Int) = 0) = false := by rw [decide_eq_false_iff_not]; omega
   have hS1 : S.length = T.length + 1 := by rw [hT]; simp
   have q2 : decide (ba S = ba []) = false := by rw [strEq_nil, hT]; simp
   have w1 : IntKind.wrap .i64 (((S.length : Nat) : Int) - 1) = ((T.length : Nat) : Int) := by rw [wrap64 (by omega) (by omega)]; omega
   have hix := ixs_ba (show T.length < S.length by omega)
   have hlb : S.getD T.length 0 = 10 := by rw [hT, List.getD_eq_getElem?_getD]; simp
   rw [hlb] at hix
   have d10 : decide ((((10 : UInt8).toNat : Nat) : Int) = 10) = true := rfl
   simp only [go_sem, simprocAttr, g1, g3, g4, g5, g, h0, ba_size, List.length_map, hlt', q0, q1, q2, w1, hix, d10, rs, bb_t, bb_f]
end Go.Proofs.YtghhkbigmmjanaaGreatDoor.VA
