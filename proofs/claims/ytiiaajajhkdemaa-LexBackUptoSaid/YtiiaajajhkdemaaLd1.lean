/- What is proved: the table that the abstract interpreter (VA) runs here is the program's; the law LexReads, called with a string, returns true and leaves what is there alone. No condition. -/
import Derived.Test.YtiiaajajhkdemaaLb2
import Derived.Test.YtiiaajajhkdemaaVd1
namespace Go.Proofs.Ytiiaajajhkdemaa.VA
open Go Go.RowKit
set_option linter.unusedSimpArgs false

theorem cfg_ok : CfgOk Try.prog cfg := by
  refine ⟨by kernel_rfl, ?_, ?_⟩
  · intro f fn h
    have h' : (if runs.contains f = true then Try.prog.funcs[f]? else none) = some fn := h
    split at h'
    · rename_i hm
      have hok := List.all_eq_true.1 runs_ok f (by simpa using hm)
      unfold fnOk at hok
      rw [h'] at hok
      simp only [Bool.and_eq_true, Bool.not_eq_true'] at hok
      refine ⟨h', hok.1, fun code hb => ?_⟩
      have := hok.2
      rw [hb] at this
      exact this
    · cases h'
  · intro f h hh
    have h' : (if f = 29 then some tIndexByte else if f = 27 then some tJoin else none) = some h := hh
    split at h'
    · rename_i hf
      simp only [Option.some.injEq] at h'
      subst hf; subst h'
      exact told_index
    · split at h'
      · rename_i hf
        simp only [Option.some.injEq] at h'
        subst hf; subst h'
        exact told_join
      · cases h'
theorem LexReads_walk (a0 : ByteArray) (w : World) : Calls Try.prog 3 #[.string a0] w fun e w' => e = .returned (.bool true) ∧ Below w.heap.size w w' := by
  refine law_calls cfg_ok (args := [.lit (.string a0)]) ?_ (RelL.cons (.lit _) (RelL.nil _ _))
  rw [ba_eta a0]
  exact lex_reads _ _
end Go.Proofs.Ytiiaajajhkdemaa.VA
