/- What is proved: the statement LexBackUptoSaid: for all tokens and every string, together of bulk at most 1048576, the law LexBack returns true. Condition: that bulk. -/
import Derived.Test.YtiiaajajhkdemaaLh2
import Derived.WalkKit
import Derived.ProofKit
import Derived.OpenShut
import Derived.ShutString
import Derived.ChangeOld
import Derived.JoinedCond
namespace Go.Proofs.Ytiiaajajhkdemaa.LexBack
open Go.ChangeShapes Go.WideShapes Go.ChangeAt Go.RowKit
open Go.ChangeMaps (open_string shut_string)
set_option linter.unusedVariables false

theorem own : ownKnob Try.prog.godebug = none := by kernel_rfl
theorem laidOut : laidOutB Try.prog = true := by kernel_rfl
theorem bulk_toks {H : Type} : ∀ l : List VA.GTok, l.length + VA.textSum l ≤ Rows.uptoBulkAll (l.map (VA.encD (H := H)))
  | [] => by simp [VA.textSum]
  | g :: l => by
    have ih := bulk_toks (H := H) l
    have e1 : VA.textSum (g :: l) = g.text.length + VA.textSum l := by simp [VA.textSum]
    rw [List.map_cons, e1]
    simp only [Rows.uptoBulkAll, VA.encD, Rows.uptoBulk, List.length_cons]
    omega
theorem LexBack_walk (l : List VA.GTok) (v0 : Value) (a1 : ByteArray) (w : World) (hv : VA.Rel (VA.ghost w) w (.sl .sh (l.map VA.encG)) v0) (h1 : l.length ≤ 1048576) (h2 : VA.textSum l ≤ 1048576) :
    Calls Try.prog 4 #[v0, .string a1] w fun e w' => e = .returned (.bool true) ∧ Below w.heap.size w w' := by
  refine VA.law_calls VA.cfg_ok (args := [.sl .sh (l.map VA.encG), .lit (.string a1)]) ?_ (VA.RelL.cons hv (VA.RelL.cons (.lit _) (VA.RelL.nil _ _)))
  rw [VA.ba_eta a1]
  exact VA.lex_backs l _ h1 h2 _
set_option maxRecDepth 100000 in
theorem lifted (os : Os) (started : os.Started) (H : Type) (enc : TypeId × Value → H) (F : Stop.Interp) :
    ReturnsInHanded {} Try.checked os 4 .any ((Rows.OpenSpec.upto Rows.lexBackSpec).pre6 enc Try.prog Try.f4 Rows.lexBackUptoRow.domain false)
      (((Rows.OpenSpec.upto Rows.lexBackSpec).at F).post enc Try.prog Try.f4 false true false false) := by
  refine returnsInHanded_of_cond (C := Try.checked) (s := Rows.OpenSpec.upto Rows.lexBackSpec) (k := Rows.uptoSmall) rfl own started (by kernel_rfl) Try.func4
    (OpenSpec.witness (enc := enc) (C := Try.checked) (s := Rows.OpenSpec.upto Rows.lexBackSpec) (k := Rows.uptoSmall) rfl false ⟨#[], #[.slice none 0 0, .string ByteArray.empty], []⟩ 8 (by kernel_rfl) (by kernel_rfl) (by kernel_rfl)
      (x := ([.nil, .lit (.string [])], [], [])) (by kernel_rfl) rfl rfl) ?_
  intro W base args ds gs before hval0 hW hcnd hk _
  have hval : ∀ (j : Nat) t v, Try.f4.params[j]? = some t → args[j]? = some v → Value.okWide Try.prog W .any base t v := hval0
  have hW' := hW
  obtain ⟨p, q, hA0, hV, rfl, hfz, hnd⟩ := hW
  have hA : DataW.TrodAll enc Try.prog W 0 (fun _ => true) true Try.f4.params.toList args.toList ds p := hA0
  rw [Try.params4] at hA hval
  obtain ⟨v0, vs0, d0, ds0, p0, q0, hargs, rfl, rfl, h0, r0⟩ := trodAll_cons hA
  obtain ⟨v1, vs1, d1, ds1, p1, q1, rfl, rfl, rfl, h1, r1⟩ := trodAll_cons r0
  obtain ⟨rfl, rfl, rfl⟩ := trodAll_nil r1
  obtain rfl : args = #[v0, v1] := by cases args; simp_all
  obtain ⟨rfl, rfl⟩ := trodVars_none hV
  obtain ⟨a0, len0, cap0, rfl⟩ := okWide_slice Try.underlying22 (hval 0 22 v0 rfl rfl)
  have k0 := h0
  have lt0 : ∀ x ∈ p0, x.block < W.heap.size := by obtain ⟨m, hm⟩ := k0; exact DataW.trod_lt m _ _ _ hm
  obtain ⟨l, hl, hd⟩ : ∃ l : List VA.GTok, VA.Rel (VA.ghost W) W (.sl .sh (l.map VA.encG)) (.slice a0 len0 cap0) ∧ l.length + VA.textSum l ≤ Rows.uptoBulk d0 := by
    obtain ⟨fuel, hf⟩ := h0
    obtain ⟨l, q1, q2⟩ := VA.open_toks ⟨_, _, _, rfl⟩ hf
    refine ⟨l, q1, ?_⟩
    rcases q2 with ⟨_, rfl⟩ | ⟨rest, hx⟩
    · simp [VA.textSum]
    · have hx' : d0 = .slice (l.map VA.encD) rest := hx
      rw [hx']
      have := bulk_toks (H := H) l
      simp only [Rows.uptoBulk]
      omega
  obtain ⟨a1, rfl, rfl, rfl, w1⟩ := open_string Try.underlying9 (hval 1 9 v1 rfl rfl) h1
  have hbulk : Rows.uptoBulk d0 ≤ 1048576 := by
    have hk' : Rows.uptoSmall H ([d0, .lit (.string a1.data.toList)] ++ []) = true := hk
    simp only [Rows.uptoSmall, List.append_nil, Rows.uptoBulkAll, decide_eq_true_eq] at hk'
    omega
  clear hA0 hval0
  refine (LexBack_walk l _ a1 W hl (by omega) (by omega)).mono fun e W' ⟨he, bel⟩ => ?_
  subst he
  exact ⟨_, rfl, _, _, _, [], _, [], hW', trodAll_mk1 (shut_bool Try.underlying4 _), (trodAll_cons_mk (Below.trod laidOut (by kernel_rfl) (of_decide_eq_true (by kernel_rfl)) k0 bel lt0) (trodAll_cons_mk (shut_string Try.underlying9 w1) trodAll_mk0)), rfl, bel.frame _, fun h => by cases h⟩
theorem over : Rows.lexBackUptoRow.holds Try.pinned (Rows.OpenSpec.upto Rows.lexBackSpec) :=
  OpenClaim.holds_of_cond 4 Try.f4 rfl rfl rfl rfl rfl rfl rfl ⟨rfl, rfl, rfl, rfl, rfl⟩ rfl rfl rfl rfl rfl (by kernel_rfl) Try.func4 (by kernel_rfl)
    (of_decide_eq_true (by kernel_rfl)) (by unfold Func.isWrapper; first | (rw [if_pos (by decide +kernel)]; kernel_rfl) | (rw [if_neg (by decide +kernel)]; exact ⟨rfl, rfl⟩))
    (fun os started H enc _ F => lifted os started H enc F)
end Go.Proofs.Ytiiaajajhkdemaa.LexBack
namespace Go.Proofs.Ytiiaajajhkdemaa
theorem lexBack_proved : Rows.LexBackUptoSaid := LexBack.over
end Go.Proofs.Ytiiaajajhkdemaa
