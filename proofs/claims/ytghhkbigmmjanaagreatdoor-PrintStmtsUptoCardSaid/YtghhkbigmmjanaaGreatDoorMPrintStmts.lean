/- What is proved: the statement PrintStmtsUptoCardSaid: for every input the law PrintStmts returns true, where all that comes in is of bulk at most 1048576. Condition: the listed package variables hold what the program's text lays (the card ties that), and that bulk. -/
import Derived.Test.YtghhkbigmmjanaaGreatDoorM12
/-! PrintStmts -/
namespace Go.Proofs.YtghhkbigmmjanaaGreatDoor.PrintStmts
open Go.ChangeShapes Go.WideShapes Go.ChangeAt Go.RowKit
open Go.ChangeMaps (open_string shut_string)
set_option linter.unusedVariables false

theorem laidOut : laidOutB Tryz.prog = true := by kernel_rfl
theorem reads (os : Os) {H : Type} (enc : TypeId × Value → H) : ∃ places, DataW.whole enc Tryz.prog ((VA.laidWorld os).forCall (fun _ _ => 0) ⟨#[], #[.agg #[.int .i64 0, .string ByteArray.empty, .string ByteArray.empty, .string ByteArray.empty, .slice none 0 0, .slice none 0 0, .slice none 0 0, .slice none 0 0]], []⟩).memory Tryz.f6.params.toList Rows.printStmtsSpec.vars false #[.agg #[.int .i64 0, .string ByteArray.empty, .string ByteArray.empty, .string ByteArray.empty, .slice none 0 0, .slice none 0 0, .slice none 0 0, .slice none 0 0]].toList 8 = some ([.agg [.lit (.int .i64 0), .lit (.string []), .lit (.string []), .lit (.string []), .nil, .nil, .nil, .nil]], [], places) :=
 ⟨[], by kernel_rfl⟩
set_option maxRecDepth 100000 in
theorem lifted (os : Os) (started : os.Started) (H : Type) (enc : TypeId × Value → H) (F : Stop.Interp) :
  ReturnsInHanded {} Tryz.checked os 6 .any ((Rows.OpenSpec.upto Rows.printStmtsSpec).preRow enc Tryz.prog Tryz.f6 Rows.printStmtsUptoRow.domain false Rows.printStmtsUptoRow.laid) (((Rows.OpenSpec.upto Rows.printStmtsSpec).at F).post enc Tryz.prog Tryz.f6 false true false false) := by
 obtain ⟨places, hx⟩ := reads os enc
 refine returnsInHanded_of_row (C := Tryz.checked) (s := (Rows.OpenSpec.upto Rows.printStmtsSpec)) VA.own started (by kernel_rfl) Tryz.func6
  (witness_row_atRef (enc := enc) (C := Tryz.checked) false (VA.laidWorld os) #[.agg #[.int .i64 0, .string ByteArray.empty, .string ByteArray.empty, .string ByteArray.empty, .slice none 0 0, .slice none 0 0, .slice none 0 0, .slice none 0 0]] rfl (by kernel_rfl) (by kernel_rfl) (by kernel_rfl)
   (OpenSpec.preRow_of_cond 8 hx (by kernel_rfl) (fun k hk => by cases hk; kernel_rfl) (by kernel_rfl) (VA.laid_met os _))) ?_
 intro W base args ds gs before hval0 hW _ hcond hreach hL _ _
 have hval : ∀ (j : Nat) t v, Tryz.f6.params[j]? = some t → args[j]? = some v → Value.okWide Tryz.prog W .any base t v := hval0
 have hW' := hW
 obtain ⟨p, q, hA0, hV, rfl, hfz, hnd⟩ := hW
 have hA : DataW.TrodAll enc Tryz.prog W 0 (fun _ => true) true Tryz.f6.params.toList args.toList ds p := hA0
 rw [Tryz.params6] at hA hval
 obtain ⟨v0, vs0, d0, ds0, p0, q0, hargs, rfl, rfl, h0, r0⟩ := trodAll_cons hA
 obtain ⟨rfl, rfl, rfl⟩ := trodAll_nil r0
 obtain rfl : args = #[v0] := by cases args; simp_all
 obtain ⟨rfl, rfl⟩ := trodVars_none hV
 obtain ⟨vs0, rfl, _⟩ := okWide_struct Tryz.underlying40 (hval 0 40 v0 rfl rfl)
 have k0 := h0
 have lt0 : ∀ x ∈ p0, x.block < W.heap.size := by obtain ⟨m, hm⟩ := k0; exact DataW.trod_lt m _ _ _ hm
 obtain ⟨l0, hl0, hk0, hd0⟩ : ∃ (l : VA.GStmt), VA.RelL (VA.ghost W) W (VA.encStmt l) vs0.toList ∧ VA.okS l = true ∧ VA.bS l ≤ Rows.uptoBulk d0 := by
  obtain ⟨fuel, hf⟩ := h0
  obtain ⟨l, r, _, _, q1, q2⟩ := VA.open_stm fuel _ _ hf
  exact ⟨l, r, q1, q2⟩
 have hbulk : Rows.uptoBulk d0 ≤ 1048576 := by
  have hk' : Rows.uptoSmall H ([d0] ++ []) = true := hcond _ rfl
  simp only [Rows.uptoSmall, List.append_nil, Rows.uptoBulkAll, decide_eq_true_eq] at hk'
  omega
 clear hA0 hval0
 refine (VA.PrintStmts_walk l0 _ W (VA.cc_of hL) hl0 hk0 (by omega)).mono fun e W' ⟨he, bel⟩ => ?_
 subst he
 exact ⟨_, rfl, _, _, _, [], _, [], hW', trodAll_mk1 (shut_bool Tryz.underlying4 _), (trodAll_cons_mk (Below.trod laidOut (by kernel_rfl) (of_decide_eq_true (by kernel_rfl)) k0 bel lt0) trodAll_mk0), rfl, bel.frame _, fun h => by cases h⟩
theorem said : Rows.PrintStmtsUptoSaid :=
 OpenClaim.holds_of_cond 6 Tryz.f6 rfl rfl rfl rfl rfl rfl rfl ⟨rfl, rfl, rfl, rfl, rfl⟩ rfl rfl rfl rfl rfl (by kernel_rfl) Tryz.func6 (by kernel_rfl)
  (of_decide_eq_true (by kernel_rfl)) (by unfold Func.isWrapper; first | (rw [if_pos (by decide +kernel)]; kernel_rfl) | (rw [if_neg (by decide +kernel)]; exact ⟨rfl, rfl⟩))
  (fun os started H enc _ F => by rw [OpenClaim.pre_eq_preRow]; exact lifted os started H enc F)
theorem plain (f : FuncId) (fn : Func) (hf : Tryz.pinned.checked.prog.funcNamed "protean/proteanlaw03.PrintStmts" = some f) (hfn : Tryz.pinned.checked.prog.funcs[f]? = some fn) :
  true = Tryz.pinned.checked.prog.looks [] ∧ ∀ (j : Nat) t, fn.params[j]? = some t → Tryz.pinned.checked.prog.wantsStandIn t = false := by
 obtain rfl : f = 6 := Option.some.inj ((show Tryz.prog.funcNamed "protean/proteanlaw03.PrintStmts" = some 6 by kernel_rfl).symm.trans hf) |>.symm
 obtain rfl : fn = Tryz.f6 := (Option.some.inj (Tryz.func6.symm.trans hfn)).symm
 refine ⟨by kernel_rfl, fun j t ht => ?_⟩
 rw [Tryz.params6] at ht
 have ht' : t ∈ [40] := by simpa using Array.mem_of_getElem? ht
 have hall : [40].all (fun t => !Tryz.prog.wantsStandIn t) = true := by kernel_rfl
 have := List.all_eq_true.1 hall t ht'
 exact (by simpa using this : Tryz.prog.wantsStandIn t = false)
theorem card : Rows.PrintStmtsUptoCardSaid :=
 Claim7.holds_tied_plain_at .later [] _ _ _ _ said (fun _ h => by cases h) (by kernel_rfl) (fun _ h => by cases h) printStmtsUpto_row_tie rfl ⟨rfl, rfl⟩ (by kernel_rfl) rfl plain (by kernel_rfl)
end Go.Proofs.YtghhkbigmmjanaaGreatDoor.PrintStmts
namespace Go.Proofs.YtghhkbigmmjanaaGreatDoor
theorem printStmts_proved : Rows.PrintStmtsUptoCardSaid := PrintStmts.card
end Go.Proofs.YtghhkbigmmjanaaGreatDoor
