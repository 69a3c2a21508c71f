/- What is proved: the statement FlowJoinsUptoSaid: for all flows the law FlowJoins returns true, where all that comes in is of bulk at most 1048576. Condition: that bulk. -/
import Derived.Test.YtnoahchdmkpleaaGreatM9
import Derived.WalkKit
import Derived.ProofKit
import Derived.OpenShut
import Derived.ShutString
import Derived.ChangeOld
import Derived.JoinedCond
/-! FlowJoins -/
namespace Go.Proofs.YtnoahchdmkpleaaGreat.FlowJoins
open Go.ChangeShapes Go.WideShapes Go.ChangeAt Go.RowKit
set_option linter.unusedVariables false

theorem own : ownKnob Tryz.prog.godebug = none := by kernel_rfl
theorem laidOut : laidOutB Tryz.prog = true := by kernel_rfl
theorem mW_ok {w : VA.Flw} (h : VA.mW w ≤ VA.LB) : VA.FlwOk w := by
 unfold VA.mW at h
 refine ⟨fun s hs => VA.mT_ok ?_, by omega, by omega⟩
 have := VA.sum_mem VA.mT hs
 omega
theorem walk (a b : VA.Flw) (u0 u1 : Array Value) (w : World) (ha : VA.mW a ≤ VA.LB) (hb : VA.mW b ≤ VA.LB) (h0 : VA.RelL (VA.ghost w) w (VA.encW a) u0.toList) (h1 : VA.RelL (VA.ghost w) w (VA.encW b) u1.toList) :
  Calls Tryz.prog 6 #[.agg u0, .agg u1] w fun e w' => e = .returned (.bool true) ∧ Below w.heap.size w w' := by
 refine VA.law_calls VA.cfgF_ok (args := [.agg (VA.encW a), .agg (VA.encW b)]) trivial ?_ ?_
 ·exact VA.c_FlowJoins a b (mW_ok ha) (mW_ok hb) _
 ·exact VA.RelL.cons (VA.Rel.mk_agg h0) (VA.RelL.cons (VA.Rel.mk_agg h1) (VA.RelL.nil _ _))
set_option maxRecDepth 100000 in
theorem lifted (os : Os) (started : os.Started) (H : Type) (enc : TypeId × Value → H) (F : Stop.Interp) :
  ReturnsInHanded {} Tryz.checked os 6 .any ((Rows.OpenSpec.upto Rows.flowJoinsSpec).pre6 enc Tryz.prog Tryz.f6 Rows.flowJoinsUptoRow.domain false)
   (((Rows.OpenSpec.upto Rows.flowJoinsSpec).at F).post enc Tryz.prog Tryz.f6 false true false false) := by
 refine returnsInHanded_of_cond (C := Tryz.checked) (s := Rows.OpenSpec.upto Rows.flowJoinsSpec) (k := Rows.uptoSmall) rfl own started (by kernel_rfl) Tryz.func6
  (OpenSpec.witness (enc := enc) (C := Tryz.checked) (s := Rows.OpenSpec.upto Rows.flowJoinsSpec) (k := Rows.uptoSmall) rfl false ⟨#[], #[.agg #[.slice none 0 0, .slice none 0 0, .slice none 0 0, .bool false, .slice none 0 0, .slice none 0 0], .agg #[.slice none 0 0, .slice none 0 0, .slice none 0 0, .bool false, .slice none 0 0, .slice none 0 0]], []⟩ 8 (by kernel_rfl) (by kernel_rfl) (by kernel_rfl)
   (x := ([.agg [.nil, .nil, .nil, .agg [.lit (.bool false), .nil, .nil]], .agg [.nil, .nil, .nil, .agg [.lit (.bool false), .nil, .nil]]], [], [])) (by kernel_rfl) rfl rfl) ?_
 intro W base args ds gs before hval0 hW hcnd hk _
 have hval : ∀ (j : Nat) t v, Tryz.f6.params[j]? = some t → args[j]? = some v → Value.okWide Tryz.prog W .any base t v := hval0
 have hW' := hW
 obtain ⟨p, q, hA0, hV, rfl, hfz, hnd⟩ := hW
 have hA : DataW.TrodAll enc Tryz.prog W 0 (fun _ => true) true Tryz.f6.params.toList args.toList ds p := hA0
 rw [Tryz.params6] at hA hval
 obtain ⟨v0, vs0, d0, ds0, p0, q0, hargs, rfl, rfl, h0, r0⟩ := trodAll_cons hA
 obtain ⟨v1, vs1, d1, ds1, p1, q1, rfl, rfl, rfl, h1, r1⟩ := trodAll_cons r0
 obtain ⟨rfl, rfl, rfl⟩ := trodAll_nil r1
 obtain rfl : args = #[v0, v1] := by cases args; simp_all
 obtain ⟨rfl, rfl⟩ := trodVars_none hV
 obtain ⟨u0, rfl, _⟩ := okWide_struct Tryz.underlying57 (hval 0 57 v0 rfl rfl)
 obtain ⟨u1, rfl, _⟩ := okWide_struct Tryz.underlying57 (hval 1 57 v1 rfl rfl)
 have k0 := h0
 have lt0 : ∀ x ∈ p0, x.block < W.heap.size := by obtain ⟨m, hm⟩ := k0; exact DataW.trod_lt m _ _ _ hm
 have k1 := h1
 have lt1 : ∀ x ∈ p1, x.block < W.heap.size := by obtain ⟨m, hm⟩ := k1; exact DataW.trod_lt m _ _ _ hm
 obtain ⟨a, hs0, hb0⟩ : ∃ a : VA.Flw, VA.RelL (VA.ghost W) W (VA.encW a) u0.toList ∧ VA.mW a ≤ Rows.uptoBulk d0 := by
  obtain ⟨fuel, hf⟩ := h0
  obtain ⟨a, r, _, _, _, m⟩ := VA.open_flw hf
  exact ⟨a, r, m⟩
 obtain ⟨b, hs1, hb1⟩ : ∃ a : VA.Flw, VA.RelL (VA.ghost W) W (VA.encW a) u1.toList ∧ VA.mW a ≤ Rows.uptoBulk d1 := by
  obtain ⟨fuel, hf⟩ := h1
  obtain ⟨a, r, _, _, _, m⟩ := VA.open_flw hf
  exact ⟨a, r, m⟩
 have hbulk : Rows.uptoBulk d0 + Rows.uptoBulk d1 ≤ 1048576 := by
  have hk' : Rows.uptoSmall H ([d0, d1] ++ []) = true := hk
  simp only [Rows.uptoSmall, List.append_nil, Rows.uptoBulkAll, decide_eq_true_eq] at hk'
  omega
 clear hA0 hval0
 have hLB : VA.LB = 100000000000 := rfl
 refine (walk a b _ _ W (by omega) (by omega) hs0 hs1).mono fun e W' ⟨he, bel⟩ => ?_
 subst he
 exact ⟨_, rfl, _, _, _, [], _, [], hW', trodAll_mk1 (shut_bool Tryz.underlying4 _), (trodAll_cons_mk (Below.trod laidOut (by kernel_rfl) (of_decide_eq_true (by kernel_rfl)) k0 bel lt0) (trodAll_cons_mk (Below.trod laidOut (by kernel_rfl) (of_decide_eq_true (by kernel_rfl)) k1 bel lt1) trodAll_mk0)), rfl, bel.frame _, fun h => by cases h⟩
theorem over : Rows.flowJoinsUptoRow.holds Tryz.pinned (Rows.OpenSpec.upto Rows.flowJoinsSpec) :=
 OpenClaim.holds_of_cond 6 Tryz.f6 rfl rfl rfl rfl rfl rfl rfl ⟨rfl, rfl, rfl, rfl, rfl⟩ rfl rfl rfl rfl rfl (by kernel_rfl) Tryz.func6 (by kernel_rfl)
  (of_decide_eq_true (by kernel_rfl)) (by unfold Func.isWrapper; first | (rw [if_pos (by decide +kernel)]; kernel_rfl) | (rw [if_neg (by decide +kernel)]; exact ⟨rfl, rfl⟩))
  (fun os started H enc _ F => lifted os started H enc F)
end Go.Proofs.YtnoahchdmkpleaaGreat.FlowJoins
namespace Go.Proofs.YtnoahchdmkpleaaGreat
theorem flowJoins_proved : Rows.FlowJoinsUptoSaid := FlowJoins.over
end Go.Proofs.YtnoahchdmkpleaaGreat
