/- What is proved: from an answer of the abstract interpreter (VA) to the call itself, in a world of which what is there is left alone. No condition. -/
import Derived.Test.YtiiaajajhkdemaaVc4
namespace Go.Proofs.Ytiiaajajhkdemaa.VA
open Go Go.RowKit
set_option linter.unusedSimpArgs false

/-- All that lies in a world may be read. -/
def cellsIn (w : World) (b : Nat) : Nat :=
  match w.heap[b]? with
  | some (.cells vs _ _) => vs.size
  | _ => 0
def ghost (w : World) : Gh := { lo := w.heap.size, vis := cellsIn w, box := fun _ => none, own := fun _ => none }
theorem ghost_inv (w : World) : Inv (ghost w) Heap.empty w := by
  constructor
  · exact Nat.le_refl _
  · intro b hb
    show cellsIn w b = 0
    unfold cellsIn
    rw [Array.getElem?_eq_none hb]
  · intro r b h; cases h
  · intro r r' b h; cases h
  · intro r cs h; simp at h
  · intro s h; simp at h
  · intro s s' b x y h; simp at h
theorem law_calls {P : Program} {c : Cfg} (hc : CfgOk P c) {f : FuncId} {args : List AV} {v : Value} {vs : Array Value} {w : World} (h : calls P c f args Heap.empty = some (.ret (.lit v) Heap.empty)) (hr : RelL (ghost w) w args vs.toList) :
    Calls P f vs w fun e w' => e = .returned v ∧ Below w.heap.size w w' := by
  obtain ⟨k, hk⟩ := calls_iff.1 h
  refine ((call_ok hc k).calls f args Heap.empty _ hk (ghost w) w vs (ghost_inv w) (fun r _ => ⟨rfl, rfl⟩) hr).2.mono ?_
  rintro e w' ⟨u, g', rfl, hp, hrel⟩
  have := hrel.lit_inv
  subst this
  exact ⟨rfl, hp.ext.os, hp.ext.tape, hp.ext.output, hp.ext.size, fun b hb => hp.ext.low b hb⟩
end Go.Proofs.Ytiiaajajhkdemaa.VA
