/- What is proved: the law PrintLines returns true at what stands in memory. Condition: what comes in is of bulk at most 1048576. -/
import Derived.Test.YtghhkbigmmjanaaGreatDoorM12
import Derived.Test.YtghhkbigmmjanaaGreatDoorM11
/-! QwLines -/
namespace Go.Proofs.YtghhkbigmmjanaaGreatDoor.VA
open Go Go.RowKit
theorem PrintLines_walk (fs : List GFunc) (v : Value) (w : World) (hC : CC.holds w.heap.size w) (hv : Rel (ghost w) w (.sl .sh (fs.map encFunc)) v) (hk : okP fs = true) (hb : (fs.map bF).sum ≤ 1048576) :
  Calls Tryz.prog 10 #[.agg #[v]] w fun e w' => e = .returned (.bool true) ∧ Below w.heap.size w w' := by
 refine law_calls cfg2_ok hC (args := [.agg [.sl .sh (fs.map encFunc)]]) ?_ (RelL.cons (rel_prg hv) (RelL.nil _ _))
 exact print_lines fs (fine_bulk hk (by omega)) _ _
end Go.Proofs.YtghhkbigmmjanaaGreatDoor.VA
