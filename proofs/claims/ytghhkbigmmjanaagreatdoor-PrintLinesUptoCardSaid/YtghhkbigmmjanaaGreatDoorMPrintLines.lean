/- What is proved: the statement PrintLinesUptoCardSaid: for every input the law PrintLines returns true, where all that comes in is of bulk at most 1048576. Condition: the listed package variables hold what the program's text lays (the card ties that), and that bulk. -/
import Derived.Test.YtghhkbigmmjanaaGreatDoorM13
import Derived.Test.YtghhkbigmmjanaaGreatDoorM11
/-! PrintLines -/
namespace Go.Proofs.YtghhkbigmmjanaaGreatDoor.PrintLines
open Go.ChangeShapes Go.WideShapes Go.ChangeAt Go.RowKit
open Go.ChangeMaps (open_string shut_string)
set_option linter.unusedVariables false

theorem laidOut : laidOutB Tryz.prog = true := by kernel_rfl
theorem reads (os : Os) {H : Type} (enc : TypeId × Value → H) : ∃ places, DataW.whole enc Tryz.prog ((VA.laidWorld os).forCall (fun _ _ => 0) ⟨#[], #[.agg #[.slice none 0 0]], []⟩).memory Tryz.f10.params.toList Rows.printLinesSpec.vars false #[.agg #[.slice none 0 0]].toList 8 = some ([.agg [.nil]], [], places) :=
 ⟨[], by kernel_rfl⟩
set_option maxRecDepth 100000 in
theorem lifted (os : Os) (started : os.Started) (H : Type) (enc : TypeId × Value → H) (F : Stop.Interp) :
  ReturnsInHanded {} Tryz.checked os 10 .any ((Rows.OpenSpec.upto Rows.printLinesSpec).preRow enc Tryz.prog Tryz.f10 Rows.printLinesUptoRow.domain false Rows.printLinesUptoRow.laid) (((Rows.OpenSpec.upto Rows.printLinesSpec).at F).post enc Tryz.prog Tryz.f10 false true false false) := by
 obtain ⟨places, hx⟩ := reads os enc
 refine returnsInHanded_of_row (C := Tryz.checked) (s := (Rows.OpenSpec.upto Rows.printLinesSpec)) VA.own started (by kernel_rfl) Tryz.func10
  (witness_row_atRef (enc := enc) (C := Tryz.checked) false (VA.laidWorld os) #[.agg #[.slice none 0 0]] rfl (by kernel_rfl) (by kernel_rfl) (by kernel_rfl)
   (OpenSpec.preRow_of_cond 8 hx (by kernel_rfl) (fun k hk => by cases hk; kernel_rfl) (by kernel_rfl) (VA.laid_met os _))) ?_
 intro W base args ds gs before hval0 hW _ hcond hreach hL _ _
 have hval : ∀ (j : Nat) t v, Tryz.f10.params[j]? = some t → args[j]? = some v → Value.okWide Tryz.prog W .any base t v := hval0
 have hW' := hW
 obtain ⟨p, q, hA0, hV, rfl, hfz, hnd⟩ := hW
 have hA : DataW.TrodAll enc Tryz.prog W 0 (fun _ => true) true Tryz.f10.params.toList args.toList ds p := hA0
 rw [Tryz.params10] at hA hval
 obtain ⟨v0, vs0, d0, ds0, p0, q0, hargs, rfl, rfl, h0, r0⟩ := trodAll_cons hA
 obtain ⟨rfl, rfl, rfl⟩ := trodAll_nil r0
 obtain rfl : args = #[v0] := by cases args; simp_all
 obtain ⟨rfl, rfl⟩ := trodVars_none hV
 obtain ⟨vs0, rfl, _⟩ := okWide_struct Tryz.underlying24 (hval 0 24 v0 rfl rfl)
 have k0 := h0
 have lt0 : ∀ x ∈ p0, x.block < W.heap.size := by obtain ⟨m, hm⟩ := k0; exact DataW.trod_lt m _ _ _ hm
 obtain ⟨l0, u0, rfl, hl0, hk0, hd0⟩ : ∃ (l : List VA.GFunc) (u : Value), vs0 = #[u] ∧ VA.Rel (VA.ghost W) W (.sl .sh (l.map VA.encFunc)) u ∧ VA.okP l = true ∧ (l.map VA.bF).sum + 2 ≤ Rows.uptoBulk d0 := by
  obtain ⟨fuel, hf⟩ := h0
  obtain ⟨u, l, e, r, q1, q2⟩ := VA.open_prg hf
  exact ⟨l, u, by cases vs0; simpa [Value.cells] using e, r, q1, q2⟩
 have hbulk : Rows.uptoBulk d0 ≤ 1048576 := by
  have hk' : Rows.uptoSmall H ([d0] ++ []) = true := hcond _ rfl
  simp only [Rows.uptoSmall, List.append_nil, Rows.uptoBulkAll, decide_eq_true_eq] at hk'
  omega
 clear hA0 hval0
 refine (VA.PrintLines_walk l0 u0 W (VA.cc_of hL) hl0 hk0 (by omega)).mono fun e W' ⟨he, bel⟩ => ?_
 subst he
 exact ⟨_, rfl, _, _, _, [], _, [], hW', trodAll_mk1 (shut_bool Tryz.underlying4 _), (trodAll_cons_mk (Below.trod laidOut (by kernel_rfl) (of_decide_eq_true (by kernel_rfl)) k0 bel lt0) trodAll_mk0), rfl, bel.frame _, fun h => by cases h⟩
theorem said : Rows.PrintLinesUptoSaid :=
 OpenClaim.holds_of_cond 10 Tryz.f10 rfl rfl rfl rfl rfl rfl rfl ⟨rfl, rfl, rfl, rfl, rfl⟩ rfl rfl rfl rfl rfl (by kernel_rfl) Tryz.func10 (by kernel_rfl)
  (of_decide_eq_true (by kernel_rfl)) (by unfold Func.isWrapper; first | (rw [if_pos (by decide +kernel)]; kernel_rfl) | (rw [if_neg (by decide +kernel)]; exact ⟨rfl, rfl⟩))
  (fun os started H enc _ F => by rw [OpenClaim.pre_eq_preRow]; exact lifted os started H enc F)
theorem plain (f : FuncId) (fn : Func) (hf : Tryz.pinned.checked.prog.funcNamed "protean/proteanlaw03.PrintLines" = some f) (hfn : Tryz.pinned.checked.prog.funcs[f]? = some fn) :
  true = Tryz.pinned.checked.prog.looks [] ∧ ∀ (j : Nat) t, fn.params[j]? = some t → Tryz.pinned.checked.prog.wantsStandIn t = false := by
 obtain rfl : f = 10 := Option.some.inj ((show Tryz.prog.funcNamed "protean/proteanlaw03.PrintLines" = some 10 by kernel_rfl).symm.trans hf) |>.symm
 obtain rfl : fn = Tryz.f10 := (Option.some.inj (Tryz.func10.symm.trans hfn)).symm
 refine ⟨by kernel_rfl, fun j t ht => ?_⟩
 rw [Tryz.params10] at ht
 have ht' : t ∈ [24] := by simpa using Array.mem_of_getElem? ht
 have hall : [24].all (fun t => !Tryz.prog.wantsStandIn t) = true := by kernel_rfl
 have := List.all_eq_true.1 hall t ht'
 exact (by simpa using this : Tryz.prog.wantsStandIn t = false)
theorem card : Rows.PrintLinesUptoCardSaid :=
 Claim7.holds_tied_plain_at .later [] _ _ _ _ said (fun _ h => by cases h) (by kernel_rfl) (fun _ h => by cases h) printLinesUpto_row_tie rfl ⟨rfl, rfl⟩ (by kernel_rfl) rfl plain (by kernel_rfl)
end Go.Proofs.YtghhkbigmmjanaaGreatDoor.PrintLines
namespace Go.Proofs.YtghhkbigmmjanaaGreatDoor
theorem printLines_proved : Rows.PrintLinesUptoCardSaid := PrintLines.card
end Go.Proofs.YtghhkbigmmjanaaGreatDoor
