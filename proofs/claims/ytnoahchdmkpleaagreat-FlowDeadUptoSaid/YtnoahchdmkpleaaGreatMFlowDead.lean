/- What is proved: the statement FlowDeadUptoSaid: for all signatures and statements the law FlowDead returns true, where all that comes in is of bulk at most 1048576. Condition: that bulk. -/
import Derived.Test.YtnoahchdmkpleaaGreatM8
import Derived.WalkKit
import Derived.ProofKit
import Derived.OpenShut
import Derived.ShutString
import Derived.ChangeOld
import Derived.JoinedCond
/-! FlowDead -/
namespace Go.Proofs.YtnoahchdmkpleaaGreat.FlowDead
open Go.ChangeShapes Go.WideShapes Go.ChangeAt Go.RowKit
set_option linter.unusedVariables false

theorem own : ownKnob Tryz.prog.godebug = none := by kernel_rfl
theorem laidOut : laidOutB Tryz.prog = true := by kernel_rfl
theorem walk (sg : List VA.Sg) (b : List VA.GS) (v0 v1 : Value) (w : World) (hsl : sg.length ≤ VA.LA) (hb : VA.bGs b ≤ VA.LB) (h0 : VA.Rel (VA.ghost w) w (.sl .sh (sg.map VA.encSg)) v0) (h1 : VA.Rel (VA.ghost w) w (.sl .sh (VA.encGs b)) v1) :
  Calls Tryz.prog 7 #[v0, v1] w fun e w' => e = .returned (.bool true) ∧ Below w.heap.size w w' := by
 have hLA : VA.LA = 1000000000000 := rfl
 have hLB : VA.LB = 100000000000 := rfl
 refine VA.law_calls VA.cfg4_ok (args := [.sl .sh (sg.map VA.encSg), .sl .sh (VA.encGs b)]) trivial ?_ ?_
 ·exact VA.c_FlowDead sg hsl b (Nat.le_trans (VA.cnt_bGs b) hb) (fun g hg => by have := VA.mem_bGs b g hg; omega) .sh .sh _
 ·exact VA.RelL.cons h0 (VA.RelL.cons h1 (VA.RelL.nil _ _))
set_option maxRecDepth 100000 in
theorem lifted (os : Os) (started : os.Started) (H : Type) (enc : TypeId × Value → H) (F : Stop.Interp) :
  ReturnsInHanded {} Tryz.checked os 7 .any ((Rows.OpenSpec.upto Rows.flowDeadSpec).pre6 enc Tryz.prog Tryz.f7 Rows.flowDeadUptoRow.domain false)
   (((Rows.OpenSpec.upto Rows.flowDeadSpec).at F).post enc Tryz.prog Tryz.f7 false true false false) := by
 refine returnsInHanded_of_cond (C := Tryz.checked) (s := Rows.OpenSpec.upto Rows.flowDeadSpec) (k := Rows.uptoSmall) rfl own started (by kernel_rfl) Tryz.func7
  (OpenSpec.witness (enc := enc) (C := Tryz.checked) (s := Rows.OpenSpec.upto Rows.flowDeadSpec) (k := Rows.uptoSmall) rfl false ⟨#[], #[.slice none 0 0, .slice none 0 0], []⟩ 8 (by kernel_rfl) (by kernel_rfl) (by kernel_rfl)
   (x := ([.nil, .nil], [], [])) (by kernel_rfl) rfl rfl) ?_
 intro W base args ds gs before hval0 hW hcnd hk _
 have hval : ∀ (j : Nat) t v, Tryz.f7.params[j]? = some t → args[j]? = some v → Value.okWide Tryz.prog W .any base t v := hval0
 have hW' := hW
 obtain ⟨p, q, hA0, hV, rfl, hfz, hnd⟩ := hW
 have hA : DataW.TrodAll enc Tryz.prog W 0 (fun _ => true) true Tryz.f7.params.toList args.toList ds p := hA0
 rw [Tryz.params7] at hA hval
 obtain ⟨v0, vs0, d0, ds0, p0, q0, hargs, rfl, rfl, h0, r0⟩ := trodAll_cons hA
 obtain ⟨v1, vs1, d1, ds1, p1, q1, rfl, rfl, rfl, h1, r1⟩ := trodAll_cons r0
 obtain ⟨rfl, rfl, rfl⟩ := trodAll_nil r1
 obtain rfl : args = #[v0, v1] := by cases args; simp_all
 obtain ⟨rfl, rfl⟩ := trodVars_none hV
 obtain ⟨a0, len0, cap0, rfl⟩ := okWide_slice Tryz.underlying22 (hval 0 22 v0 rfl rfl)
 obtain ⟨a1, len1, cap1, rfl⟩ := okWide_slice Tryz.underlying29 (hval 1 29 v1 rfl rfl)
 have k0 := h0
 have lt0 : ∀ x ∈ p0, x.block < W.heap.size := by obtain ⟨m, hm⟩ := k0; exact DataW.trod_lt m _ _ _ hm
 have k1 := h1
 have lt1 : ∀ x ∈ p1, x.block < W.heap.size := by obtain ⟨m, hm⟩ := k1; exact DataW.trod_lt m _ _ _ hm
 obtain ⟨sg, hs0, hb0⟩ : ∃ l : List VA.Sg, VA.Rel (VA.ghost W) W (.sl .sh (l.map VA.encSg)) (.slice a0 len0 cap0) ∧ l.length ≤ Rows.uptoBulk d0 := by
  obtain ⟨fuel, hf⟩ := h0
  obtain ⟨v, l, e, q1, q2⟩ := VA.open_sigs hf
  obtain rfl := (List.cons.inj e).1
  exact ⟨l, q1, q2⟩
 obtain ⟨b, hs1, hb1⟩ : ∃ l : List VA.GS, VA.Rel (VA.ghost W) W (.sl .sh (VA.encGs l)) (.slice a1 len1 cap1) ∧ VA.bGs l ≤ Rows.uptoBulk d1 := by
  obtain ⟨fuel, hf⟩ := h1
  obtain ⟨v, l, e, q1, q2⟩ := VA.open_stms hf
  obtain rfl := (List.cons.inj e).1
  exact ⟨l, q1, q2⟩
 have hbulk : Rows.uptoBulk d0 + Rows.uptoBulk d1 ≤ 1048576 := by
  have hk' : Rows.uptoSmall H ([d0, d1] ++ []) = true := hk
  simp only [Rows.uptoSmall, List.append_nil, Rows.uptoBulkAll, decide_eq_true_eq] at hk'
  omega
 clear hA0 hval0
 have hLA : VA.LA = 1000000000000 := rfl
 have hLB : VA.LB = 100000000000 := rfl
 refine (walk sg b _ _ W (by omega) (by omega) hs0 hs1).mono fun e W' ⟨he, bel⟩ => ?_
 subst he
 exact ⟨_, rfl, _, _, _, [], _, [], hW', trodAll_mk1 (shut_bool Tryz.underlying4 _), (trodAll_cons_mk (Below.trod laidOut (by kernel_rfl) (of_decide_eq_true (by kernel_rfl)) k0 bel lt0) (trodAll_cons_mk (Below.trod laidOut (by kernel_rfl) (of_decide_eq_true (by kernel_rfl)) k1 bel lt1) trodAll_mk0)), rfl, bel.frame _, fun h => by cases h⟩
theorem over : Rows.flowDeadUptoRow.holds Tryz.pinned (Rows.OpenSpec.upto Rows.flowDeadSpec) :=
 OpenClaim.holds_of_cond 7 Tryz.f7 rfl rfl rfl rfl rfl rfl rfl ⟨rfl, rfl, rfl, rfl, rfl⟩ rfl rfl rfl rfl rfl (by kernel_rfl) Tryz.func7 (by kernel_rfl)
  (of_decide_eq_true (by kernel_rfl)) (by unfold Func.isWrapper; first | (rw [if_pos (by decide +kernel)]; kernel_rfl) | (rw [if_neg (by decide +kernel)]; exact ⟨rfl, rfl⟩))
  (fun os started H enc _ F => lifted os started H enc F)
end Go.Proofs.YtnoahchdmkpleaaGreat.FlowDead
namespace Go.Proofs.YtnoahchdmkpleaaGreat
theorem flowDead_proved : Rows.FlowDeadUptoSaid := FlowDead.over
end Go.Proofs.YtnoahchdmkpleaaGreat
