/- What is proved: there is a world whose listed package variables hold what the rows list. No condition. -/
import Derived.Test.YtghhkbigmmjanaaGreatDoorCards
import Derived.Test.YtghhkbigmmjanaaGreatDoorTie
import Derived.WalkKit
import Derived.ProofKit
import Derived.OpenShut
import Derived.ShutString
import Derived.ChangeOld
import Derived.Deep.DeepHandedRow
import Derived.Deep.DeepWitnessRowRef
/-! Wk -/
namespace Go.Proofs.YtghhkbigmmjanaaGreatDoor.VA
open Go Go.RowKit
set_option maxRecDepth 100000

theorem own : ownKnob Tryz.prog.godebug = none := by kernel_rfl
noncomputable def low : Nat := (World.holding Tryz.prog default ⟨#[], #[], []⟩).heap.size
/-- The cells that a datum's literals tell. -/
def litCells {H : Type} : List (DataW H) → List Value
  | .lit (.int k n) :: r => .int k n :: litCells r
  | _ :: r => litCells r
  | [] => []
def tabCells : DataW Unit → Array Value
  | .agg l => (litCells l).toArray
  | _ => #[]
def errText : DataW Unit → Value
  | .iface _ (.ptr (.agg [.lit (.string s)])) => .string ⟨s.toArray⟩
  | _ => .nilIface
noncomputable def laidWorld (os : Os) : World :=
  let w0 := World.holding Tryz.prog os ⟨#[.cells #[errText Rows.laid_strconv_ErrSyntax] 173, .cells #[errText Rows.laid_strconv_ErrRange] 173], #[], []⟩
  let put (h : Array Obj) (g : Nat) (cs : Array Value) : Array Obj := h.modify g fun
    | .cells _ t frozen => .cells cs t frozen
    | o => o
  let h1 := put w0.heap 2 #[.iface 171 (.pointer (some ⟨low, 0, none⟩))]
  let h2 := put h1 3 #[.iface 171 (.pointer (some ⟨low + 1, 0, none⟩))]
  let h3 := put h2 1 (tabCells Rows.laid_internal_strconv_uint64pow10)
  let h4 := put h3 4 (tabCells Rows.laid_math_bits_deBruijn32tab)
  let h5 := put h4 5 (tabCells Rows.laid_math_bits_deBruijn64tab)
  { w0 with heap := h5 }
theorem laid_met (os : Os) (args : Array Value) : laidMet Tryz.prog Rows.parseTextsRow.laid ((laidWorld os).forCall (fun _ _ => 0) ⟨#[], args, []⟩).memory :=
  laidMet_of_run' 8 (by kernel_rfl) (by kernel_rfl)
end Go.Proofs.YtghhkbigmmjanaaGreatDoor.VA
