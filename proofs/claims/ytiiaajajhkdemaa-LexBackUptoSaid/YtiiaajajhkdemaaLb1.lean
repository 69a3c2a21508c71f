/- What is proved: what the law's fixed calls answer, in the abstract interpreter (VA), and that the law LexReads answers true there. No condition. -/
import Derived.Test.YtiiaajajhkdemaaLa9
namespace Go.Proofs.Ytiiaajajhkdemaa.VA
open Go Go.RowKit
set_option linter.unusedSimpArgs false

@[go_sem] theorem aNat_2 (k : IntKind) : aNat (.lit (.int k 2)) = some 2 := by simp [aNat]
@[go_sem] theorem aNat_3 (k : IntKind) : aNat (.lit (.int k 3)) = some 3 := by simp [aNat]
@[go_sem] theorem aNat_4 (k : IntKind) : aNat (.lit (.int k 4)) = some 4 := by simp [aNat]
@[go_sem] theorem aNat_5 (k : IntKind) : aNat (.lit (.int k 5)) = some 5 := by simp [aNat]
def fixT : List Tok := [⟨0, [120], 0⟩, ⟨2, [61], 1⟩, ⟨0, [121], 2⟩, ⟨2, [46], 3⟩, ⟨0, [112], 4⟩, ⟨2, [59], 5⟩]
theorem fix1 : lexAns [120, 61, 121, 46, 112, 59, 32, 35, 32, 105, 116] = (fixT, 0, 0) := by kernel_rfl
theorem fix2 : lexAns [49, 50, 97] = ([], 10, 0) := by kernel_rfl
theorem fix3 : lexAns [97, 32, 63] = ([], 10, 2) := by kernel_rfl
theorem fix4 : printB (fixT.map Tok.g) = [120, 32, 61, 32, 121, 32, 46, 32, 112, 32, 59] := by kernel_rfl
theorem fix5 : rightB 0 [97, 95, 49] = true := by kernel_rfl
theorem fix6 : rightB 0 [49] = false := by kernel_rfl
set_option maxRecDepth 20000 in
theorem c_fixed (H : Heap) : calls Try.prog cfg 10 [] H = some (.ret (.lit (.bool true)) H) := by
  refine calls_pure (fn := Try.f10) rfl rfl rfl rfl rfl ?_ H
  have rs : Try.f10.results.toList = [.tmp 0] := rfl
  have hpr := fun H => c_print (fixT.map Tok.g) (by decide) (by decide) .sh H
  rw [fix4] at hpr
  simp only [go_sem, Nat.reduceBEq, Nat.reduceLeDiff, Nat.reduceEqDiff, true_and, and_true, ite_true, if_false, Int.cast_ofNat_Int, eq_self, Nat.add_assoc, Option.some.injEq, Int.reduceEq, Int.reduceLT, Int.reduceLE, Int.reduceAdd, Nat.reduceSub, Nat.reduceAdd, decide_true, decide_false, Bool.not_true, Bool.not_false, List.size_toArray, List.length_cons, List.length_nil, fixT, Tok.g, encG] at hpr
  simp only [go_sem, Nat.reduceBEq, Nat.reduceLeDiff, Nat.reduceEqDiff, true_and, and_true, ite_true, if_false, Int.cast_ofNat_Int, eq_self, Nat.add_assoc, Option.some.injEq, Int.reduceEq, Int.reduceLT, Int.reduceLE, Int.reduceAdd, Nat.reduceSub, Nat.reduceAdd, decide_true, decide_false, Bool.not_true, Bool.not_false, List.size_toArray, List.length_cons, List.length_nil, rs, c_lex, fix1, fix2, fix3, encLex, encFault, fixT, encTok, hpr, c_word, fix5, fix6]
theorem lexF_len : ∀ (n : Nat) (l : List UInt8) (a : Nat) (ts : List Tok), lexF n l a = .ok ts → ts.length ≤ l.length := by
  intro n
  induction n with
  | zero => intro l a ts h; simp [lexF] at h
  | succ n ih =>
    intro l a ts h
    cases l with
    | nil => simp [lexF] at h; subst h; simp
    | cons b l =>
      have pre : ∀ (x : Tok) (r : LexR) (ts : List Tok), LexR.pre [x] r = .ok ts → ∃ ts', r = .ok ts' ∧ ts.length = ts'.length + 1 := by
        intro x r ts h
        cases r with
        | ok l => simp [LexR.pre] at h; subst h; exact ⟨l, rfl, by simp⟩
        | err a => simp [LexR.pre] at h
      simp only [lexF] at h
      split at h
      · have := ih _ _ _ h; simp; omega
      · have := ih _ _ _ h; simp at this ⊢; omega
      · rename_i hc
        obtain ⟨ts', h1, h2⟩ := pre _ _ _ h
        have := ih _ _ _ h1
        rw [span_pos (cls3 hc)] at this
        simp at this ⊢; omega
      · rename_i hc
        split at h
        · obtain ⟨ts', h1, h2⟩ := pre _ _ _ h
          have := ih _ _ _ h1
          rw [span_pos (cls4 hc)] at this
          simp at this ⊢; omega
        · cases h
      · obtain ⟨ts', h1, h2⟩ := pre _ _ _ h
        have := ih _ _ _ h1
        simp; omega
      · cases h
theorem lexAns_len (l : List UInt8) : (lexAns l).1.length ≤ 65536 := by
  unfold lexAns
  split
  · simp
  · split
    · rename_i h1 ts h
      have := lexF_len _ _ _ _ h
      simp; omega
    · simp
theorem c_sameT (a b : List Tok) (hlen : a.length ≤ 9223372036854775806) (o o' : Own) (H : Heap) :
    calls Try.prog cfg 11 [.sl o (a.map encTok), .sl o' (b.map encTok)] H = some (.ret (.lit (.bool (decide (a.map Tok.g = b.map Tok.g)))) H) := by
  rw [enc_g, enc_g]; exact c_same _ _ (by simpa using hlen) o o' H
set_option maxRecDepth 20000 in
theorem lex_reads (l : List UInt8) (H : Heap) : calls Try.prog cfg 3 [.lit (.string (ba l))] H = some (.ret (.lit (.bool true)) H) := by
  refine calls_pure (fn := Try.f3) rfl rfl rfl rfl rfl ?_ H
  have rs : Try.f3.results.toList = [.tmp 2] := rfl
  have hlen := lexAns_len l
  have hl := c_lex l
  have hr := c_rLex l
  generalize lexAns l = A at hlen hl hr
  have hs := c_sameT A.1 A.1 (by omega)
  simp only [go_sem, Nat.reduceBEq, Nat.reduceLeDiff, Nat.reduceEqDiff, true_and, and_true, ite_true, if_false, Int.cast_ofNat_Int, eq_self, Nat.add_assoc, Option.some.injEq, Int.reduceEq, Int.reduceLT, Int.reduceLE, Int.reduceAdd, Nat.reduceSub, Nat.reduceAdd, decide_true, decide_false, Bool.not_true, Bool.not_false, List.size_toArray, List.length_cons, List.length_nil, rs, hl, hr, c_fixed, encLex, encFault, hs]
end Go.Proofs.Ytiiaajajhkdemaa.VA
