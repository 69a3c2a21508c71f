/- What is proved: the law PrintParsed returns true at what stands in memory. No condition.
What is proved: there is a world whose listed package variables hold what the rows list. No condition.
What is proved: where the rows' listed tables are laid, the table of powers of ten is what the told functions ask for. No condition. -/
import Derived.Test.YtghhkbigmmjanaaGreatDoorM10
import Derived.Test.YtghhkbigmmjanaaGreatDoorM3
import Derived.Test.YtghhkbigmmjanaaGreatDoorCards
import Derived.Test.YtghhkbigmmjanaaGreatDoorTie
import Derived.WalkKit
import Derived.ProofKit
import Derived.OpenShut
import Derived.ShutString
import Derived.ChangeOld
import Derived.Deep.DeepHandedRow
import Derived.Deep.DeepWitnessRowRef
import Derived.Test.YtghhkbigmmjanaaGreatDoorM5
import Derived.Lib.LaidTab
/-! QwParsed -/
namespace Go.Proofs.YtghhkbigmmjanaaGreatDoor.VA
open Go Go.RowKit
theorem PrintParsed_walk (a0 : ByteArray) (w : World) (hC : CC.holds w.heap.size w) (h0 : a0.size ≤ maxLen) : Calls Tryz.prog 8 #[.string a0] w fun e w' => e = .returned (.bool true) ∧ Below w.heap.size w w' := by
 refine law_calls cfg2_ok hC (args := [.lit (.string a0)]) ?_ (RelL.cons (.lit _) (RelL.nil _ _))
 have hm : maxLen ≤ 9223372036854775807 := by decide
 rw [ba_eta a0] at h0 ⊢
 exact print_parsed _ (by simp only [ba_size] at h0; omega) _
end Go.Proofs.YtghhkbigmmjanaaGreatDoor.VA

/-! Wk -/
namespace Go.Proofs.YtghhkbigmmjanaaGreatDoor.VA
open Go Go.RowKit
set_option maxRecDepth 100000

theorem own : ownKnob Tryz.prog.godebug = none := by kernel_rfl
noncomputable def low : Nat := (World.holding Tryz.prog default ⟨#[], #[], []⟩).heap.size
/-- The cells that a datum's literals tell. -/
def litCells {H : Type} : List (DataW H) → List Value
 | .lit (.int k n) :: r => .int k n :: litCells r
 | _ :: r => litCells r
 | [] => []
def tabCells : DataW Unit → Array Value
 | .agg l => (litCells l).toArray
 | _ => #[]
def errText : DataW Unit → Value
 | .iface _ (.ptr (.agg [.lit (.string s)])) => .string ⟨s.toArray⟩
 | _ => .nilIface
noncomputable def laidWorld (os : Os) : World :=
 let w0 := World.holding Tryz.prog os ⟨#[.cells #[errText Rows.laid_strconv_ErrSyntax] 173, .cells #[errText Rows.laid_strconv_ErrRange] 173], #[], []⟩
 let put (h : Array Obj) (g : Nat) (cs : Array Value) : Array Obj := h.modify g fun
  | .cells _ t frozen => .cells cs t frozen
  | o => o
 let h1 := put w0.heap 2 #[.iface 171 (.pointer (some ⟨low, 0, none⟩))]
 let h2 := put h1 3 #[.iface 171 (.pointer (some ⟨low + 1, 0, none⟩))]
 let h3 := put h2 1 (tabCells Rows.laid_internal_strconv_uint64pow10)
 let h4 := put h3 4 (tabCells Rows.laid_math_bits_deBruijn32tab)
 let h5 := put h4 5 (tabCells Rows.laid_math_bits_deBruijn64tab)
 { w0 with heap := h5 }
theorem laid_met (os : Os) (args : Array Value) : laidMet Tryz.prog Rows.parseTextsRow.laid ((laidWorld os).forCall (fun _ _ => 0) ⟨#[], args, []⟩).memory :=
 laidMet_of_run' 8 (by kernel_rfl) (by kernel_rfl)
end Go.Proofs.YtghhkbigmmjanaaGreatDoor.VA

/-! Wl -/
namespace Go.Proofs.YtghhkbigmmjanaaGreatDoor.VA
open Go Go.RowKit
set_option maxRecDepth 100000
def laid5 : List (String × DataW Unit) := [("math/bits.deBruijn32tab", Rows.laid_math_bits_deBruijn32tab), ("math/bits.deBruijn64tab", Rows.laid_math_bits_deBruijn64tab), ("internal/strconv.uint64pow10", Rows.laid_internal_strconv_uint64pow10), ("strconv.ErrRange", Rows.laid_strconv_ErrRange), ("strconv.ErrSyntax", Rows.laid_strconv_ErrSyntax)]
theorem tab_data : (Rows.laid_internal_strconv_uint64pow10 : DataW Unit) = Lib.tabData .u64 Lib.pow10Tab := by kernel_rfl
theorem tab_glob : Tryz.prog.globalNamed "internal/strconv.uint64pow10" = some 1 := by kernel_rfl
theorem tab_type : (Tryz.prog.globals[1]?).map (·.type) = some 157 := by kernel_rfl
theorem tab_und : Tryz.prog.underlying 157 = some (.array 20 133) := by kernel_rfl
theorem tab_elem : Tryz.prog.underlying 133 = some (.int .u64) := by kernel_rfl
theorem tab_one : Tryz.prog.cellsOf 133 = 1 := by kernel_rfl
theorem tab_all : Tryz.prog.cellsOf 157 = 20 := by kernel_rfl
theorem laid_met5 {W : World} (h : laidMetH Tryz.prog laid5 W) : laidMet Tryz.prog laid5 W := h
theorem cc_of {W : World} (h : laidMetH Tryz.prog laid5 W) : CC.holds W.heap.size W := by
 obtain ⟨ps, hv, _⟩ := laid_met5 h
 simp only [laid5, DataW.LaidVars] at hv
 obtain ⟨_, _, _, _, _, _, _, _, _, _, ⟨_, _, _, _, _, _, _, _, _, _, ⟨g', t', cs, fuel, p, q, hg', ht', hvar, hd, _⟩, _⟩, _⟩ := hv
 obtain rfl := Option.some.inj (tab_glob.symm.trans hg')
 obtain rfl := Option.some.inj (tab_type.symm.trans ht')
 rw [tab_data] at hd
 have hc := Lib.cells_of_tab tab_und tab_elem tab_one tab_all hd
 refine ⟨?_, fun g hg => ?_⟩
 ·unfold Lib.TabIs
  rw [hvar, ← hc]
 ·obtain rfl := Option.some.inj (tab_glob.symm.trans hg)
  simp only [World.var?, tab_glob, Option.bind_some] at hvar
  split at hvar
  ·rename_i h1
   exact (Array.getElem?_eq_some_iff.1 h1).1
  ·cases hvar
end Go.Proofs.YtghhkbigmmjanaaGreatDoor.VA
