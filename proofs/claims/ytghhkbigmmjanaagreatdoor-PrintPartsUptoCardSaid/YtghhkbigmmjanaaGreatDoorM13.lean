/- What is proved: the law PrintParts returns true at what stands in memory. Condition: what comes in is of bulk at most 1048576. -/
import Derived.Test.YtghhkbigmmjanaaGreatDoorM12
import Derived.Test.YtghhkbigmmjanaaGreatDoorM11
/-! QwParts -/
namespace Go.Proofs.YtghhkbigmmjanaaGreatDoor.VA
open Go Go.RowKit
theorem PrintParts_walk (fs gs : List GFunc) (v u : Value) (w : World) (hC : CC.holds w.heap.size w) (hv : Rel (ghost w) w (.sl .sh (fs.map encFunc)) v) (hk : okP fs = true) (hu : Rel (ghost w) w (.sl .sh (gs.map encFunc)) u) (hk' : okP gs = true)
  (hb : (fs.map bF).sum + (gs.map bF).sum ≤ 1048576) :
  Calls Tryz.prog 9 #[.agg #[v], .agg #[u]] w fun e w' => e = .returned (.bool true) ∧ Below w.heap.size w w' := by
 refine law_calls cfg2_ok hC (args := [.agg [.sl .sh (fs.map encFunc)], .agg [.sl .sh (gs.map encFunc)]]) ?_ (RelL.cons (rel_prg hv) (RelL.cons (rel_prg hu) (RelL.nil _ _)))
 have h4 : ∀ l : List GFunc, 4 * l.length ≤ (l.map bF).sum := by
  intro l
  induction l with
  | nil => exact Nat.le_refl _
  | cons f l ih => simp only [List.length_cons, List.map_cons, List.sum_cons, bF]; omega
 have h1 := h4 fs
 have h2 := h4 gs
 refine print_parts fs gs (fine_bulk ?_ ?_) ?_ _
 ·rw [okP, List.all_append, Bool.and_eq_true]; exact ⟨hk, hk'⟩
 ·rw [List.map_append, List.sum_append]; omega
 ·rw [List.length_append]; omega
end Go.Proofs.YtghhkbigmmjanaaGreatDoor.VA
