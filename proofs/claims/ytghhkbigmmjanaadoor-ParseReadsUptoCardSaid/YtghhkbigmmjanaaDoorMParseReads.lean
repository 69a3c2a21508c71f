/- What is proved: the statement ParseReadsUptoCardSaid: for every input the law ParseReads returns true, where all that comes in is of bulk at most 1048576. Condition: the listed package variables hold what the program's text lays (the card ties that), and that bulk. -/
import Derived.Test.YtghhkbigmmjanaaDoorM12
import Derived.Test.YtghhkbigmmjanaaDoorM10
/-! ParseReads -/
namespace Go.Proofs.YtghhkbigmmjanaaDoor.ParseReads
open Go.ChangeShapes Go.WideShapes Go.ChangeAt Go.RowKit
open Go.ChangeMaps (open_string shut_string)
set_option linter.unusedVariables false

theorem bulk_toks {H : Type} : ∀ l : List VA.GTok, l.length ≤ Rows.uptoBulkAll (l.map (VA.encD (H := H)))
  | [] => Nat.zero_le _
  | g :: l => by
    have ih := bulk_toks (H := H) l
    rw [List.map_cons]
    simp only [Rows.uptoBulkAll, VA.encD, Rows.uptoBulk, List.length_cons]
    omega
theorem laidOut : laidOutB Tryd.prog = true := by kernel_rfl
theorem reads (os : Os) {H : Type} (enc : TypeId × Value → H) : ∃ places, DataW.whole enc Tryd.prog ((VA.laidWorld os).forCall (fun _ _ => 0) ⟨#[], #[.slice none 0 0, .int .i64 0], []⟩).memory Tryd.f3.params.toList Rows.parseReadsSpec.vars false #[.slice none 0 0, .int .i64 0].toList 8 = some ([.nil, .lit (.int .i64 0)], [], places) :=
  ⟨[], by kernel_rfl⟩
set_option maxRecDepth 100000 in
theorem lifted (os : Os) (started : os.Started) (H : Type) (enc : TypeId × Value → H) (F : Stop.Interp) :
    ReturnsInHanded {} Tryd.checked os 3 .any ((Rows.OpenSpec.upto Rows.parseReadsSpec).preRow enc Tryd.prog Tryd.f3 Rows.parseReadsUptoRow.domain false Rows.parseReadsUptoRow.laid) (((Rows.OpenSpec.upto Rows.parseReadsSpec).at F).post enc Tryd.prog Tryd.f3 false true false false) := by
  obtain ⟨places, hx⟩ := reads os enc
  refine returnsInHanded_of_row (C := Tryd.checked) (s := (Rows.OpenSpec.upto Rows.parseReadsSpec)) VA.own started (by kernel_rfl) Tryd.func3
    (witness_row_atRef (enc := enc) (C := Tryd.checked) false (VA.laidWorld os) #[.slice none 0 0, .int .i64 0] rfl (by kernel_rfl) (by kernel_rfl) (by kernel_rfl)
      (OpenSpec.preRow_of_cond 8 hx (by kernel_rfl) (fun k hk => by cases hk; kernel_rfl) (by kernel_rfl) (VA.laid_met os _))) ?_
  intro W base args ds gs before hval0 hW _ hcond hreach hL _ _
  have hval : ∀ (j : Nat) t v, Tryd.f3.params[j]? = some t → args[j]? = some v → Value.okWide Tryd.prog W .any base t v := hval0
  have hW' := hW
  obtain ⟨p, q, hA0, hV, rfl, hfz, hnd⟩ := hW
  have hA : DataW.TrodAll enc Tryd.prog W 0 (fun _ => true) true Tryd.f3.params.toList args.toList ds p := hA0
  rw [Tryd.params3] at hA hval
  obtain ⟨v0, vs0, d0, ds0, p0, q0, hargs, rfl, rfl, h0, r0⟩ := trodAll_cons hA
  obtain ⟨v1, vs1, d1, ds1, p1, q1, rfl, rfl, rfl, h1, r1⟩ := trodAll_cons r0
  obtain ⟨rfl, rfl, rfl⟩ := trodAll_nil r1
  obtain rfl : args = #[v0, v1] := by cases args; simp_all
  obtain ⟨rfl, rfl⟩ := trodVars_none hV
  obtain ⟨a0, len0, cap0, rfl⟩ := okWide_slice Tryd.underlying22 (hval 0 22 v0 rfl rfl)
  have k0 := h0
  have lt0 : ∀ x ∈ p0, x.block < W.heap.size := by obtain ⟨m, hm⟩ := k0; exact DataW.trod_lt m _ _ _ hm
  obtain ⟨l0, hl0, hd0⟩ : ∃ l : List VA.GTok, VA.Rel (VA.ghost W) W (.sl .sh (l.map VA.encG)) (.slice a0 len0 cap0) ∧ l.length ≤ Rows.uptoBulk d0 := by
    obtain ⟨fuel, hf⟩ := h0
    obtain ⟨l, q1, q2⟩ := VA.open_toks ⟨_, _, _, rfl⟩ hf
    refine ⟨l, q1, ?_⟩
    rcases q2 with ⟨_, rfl⟩ | ⟨rest, hx⟩
    · exact Nat.zero_le _
    · have hx' : d0 = .slice (l.map VA.encD) rest := hx
      rw [hx']
      have := bulk_toks (H := H) l
      simp only [Rows.uptoBulk]
      omega
  obtain ⟨a1, rfl, rfl, rfl, w1⟩ := open_int Tryd.underlying3 (hval 1 3 v1 rfl rfl) h1
  have hbulk : Rows.uptoBulk d0 + Rows.uptoBulk (H := H) (.lit (.int .i64 a1)) ≤ 1048576 := by
    have hk' : Rows.uptoSmall H ([d0, .lit (.int .i64 a1)] ++ []) = true := hcond _ rfl
    simp only [Rows.uptoSmall, List.append_nil, Rows.uptoBulkAll, decide_eq_true_eq] at hk'
    omega
  clear hA0 hval0
  refine (VA.ParseReads_walk l0 _ a1 W hl0 (by omega) ).mono fun e W' ⟨he, bel⟩ => ?_
  subst he
  exact ⟨_, rfl, _, _, _, [], _, [], hW', trodAll_mk1 (shut_bool Tryd.underlying4 _), (trodAll_cons_mk (Below.trod laidOut (by kernel_rfl) (of_decide_eq_true (by kernel_rfl)) k0 bel lt0) (trodAll_cons_mk (shut_int Tryd.underlying3 w1) trodAll_mk0)), rfl, bel.frame _, fun h => by cases h⟩
theorem said : Rows.ParseReadsUptoSaid :=
  OpenClaim.holds_of_cond 3 Tryd.f3 rfl rfl rfl rfl rfl rfl rfl ⟨rfl, rfl, rfl, rfl, rfl⟩ rfl rfl rfl rfl rfl (by kernel_rfl) Tryd.func3 (by kernel_rfl)
    (of_decide_eq_true (by kernel_rfl)) (by unfold Func.isWrapper; first | (rw [if_pos (by decide +kernel)]; kernel_rfl) | (rw [if_neg (by decide +kernel)]; exact ⟨rfl, rfl⟩))
    (fun os started H enc _ F => by rw [OpenClaim.pre_eq_preRow]; exact lifted os started H enc F)
theorem plain (f : FuncId) (fn : Func) (hf : Tryd.pinned.checked.prog.funcNamed "protean/proteanlaw02.ParseReads" = some f) (hfn : Tryd.pinned.checked.prog.funcs[f]? = some fn) :
    true = Tryd.pinned.checked.prog.looks [] ∧ ∀ (j : Nat) t, fn.params[j]? = some t → Tryd.pinned.checked.prog.wantsStandIn t = false := by
  obtain rfl : f = 3 := Option.some.inj ((show Tryd.prog.funcNamed "protean/proteanlaw02.ParseReads" = some 3 by kernel_rfl).symm.trans hf) |>.symm
  obtain rfl : fn = Tryd.f3 := (Option.some.inj (Tryd.func3.symm.trans hfn)).symm
  refine ⟨by kernel_rfl, fun j t ht => ?_⟩
  rw [Tryd.params3] at ht
  have ht' : t ∈ [22, 3] := by simpa using Array.mem_of_getElem? ht
  have hall : [22, 3].all (fun t => !Tryd.prog.wantsStandIn t) = true := by kernel_rfl
  have := List.all_eq_true.1 hall t ht'
  exact (by simpa using this : Tryd.prog.wantsStandIn t = false)
theorem card : Rows.ParseReadsUptoCardSaid :=
  Claim7.holds_tied_plain_at .later [] _ _ _ _ said (fun _ h => by cases h) (by kernel_rfl) (fun _ h => by cases h) parseReadsUpto_row_tie rfl ⟨rfl, rfl⟩ (by kernel_rfl) rfl plain (by kernel_rfl)
end Go.Proofs.YtghhkbigmmjanaaDoor.ParseReads
namespace Go.Proofs.YtghhkbigmmjanaaDoor
theorem parseReads_proved : Rows.ParseReadsUptoCardSaid := ParseReads.card
end Go.Proofs.YtghhkbigmmjanaaDoor
