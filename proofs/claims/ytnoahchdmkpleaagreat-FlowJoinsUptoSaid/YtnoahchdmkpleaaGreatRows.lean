/-
  NARROWER THAN 'FOR EVERY INPUT', by the rows' own cells (each row's printed sentence says how): StepRises: loops · StepPlain: loops · FlowDead: loops.
  DERIVED. THE GIVEN ROWS OF THIS SEAT. 5 by the template 'for every input the law returns true; each argument reads behind the call as it read before'; 0 by the template 'total and deterministic' (their statements: YtnoahchdmkpleaaGreatTotals.lean).
  GIVEN WITH THE SEED: the statements are not yours to turn. If you find one false, say at which input.
  Laid BY PROGRAM, IN A SANDBOX (cutbox-rows.mjs): the forced cells as the released guide's own fill.sh prints them over the translation f4ce23f85dc73283… (all of the seat's roots in one cut). By AI agents, Wed Nov 11 2026. No macro, syntax, notation, axiom, sorry.
-/
import Derived.Test.YtnoahchdmkpleaaGreatChecked
import GoSem.Claim
import GoSem.ClaimJoined
import GoSem.ClaimMapViews
import Derived.JoinedTies
import Derived.KernelRfl
namespace Go.Proofs.YtnoahchdmkpleaaGreat
/- THE CELL 'sum', in the pinned program and in every row, IS THE sha256 OF THE DUMP (.gsa) THAT YtnoahchdmkpleaaGreatProg.lean LOADS. Nothing in Lean hashes anything: it is a label: what it is worth is what the hold of that sum in a sandbox is worth. -/
noncomputable def Tryz.pinned : Pinned := { name := "ytnoahchdmkpleaagreat", sum := "f4ce23f85dc732834f6aab426fd9dc289964efda4a85c2473e47e265cedd0f1e", checked := Tryz.checked }
namespace Rows
def none {H : Type} : Left H := { results := [], args := [] }

/-- 'proteanlaw15.StepRises': WHATEVER THE INPUT: true; the input reads as it did. -/
def stepRisesSpec : ChangeSpec := { name := "stepRises", fn := fun _ => fun
  | [d1, d2] => { results := [.lit (.bool true)], args := [d1, d2] }
  | _ => none }
def stepRisesRow : OpenClaim := { program := "ytnoahchdmkpleaagreat", sum := "f4ce23f85dc732834f6aab426fd9dc289964efda4a85c2473e47e265cedd0f1e", func := "protean/proteanlaw15.StepRises", spec := "stepRises", inPlace := ["slices.overlaps[protean/api.Bind]", "internal/bytealg.abigen_runtime_cmpstring", "slices.overlaps[protean/api.Field]", "slices.overlaps[protean/api.Loc]"], unfollowed := true, recurses := true, loops := true, plainKeys := false, apart := false }
def StepRisesSaid : Prop := stepRisesRow.holds Tryz.pinned (OpenSpec.ofChange stepRisesSpec)

/-- ITS FALSE NEIGHBOUR: 'it returns false'. Refute it at one input. -/
def stepRisesWrong : ChangeSpec := { name := "stepRises", fn := fun _ => fun
  | [d1, d2] => { results := [.lit (.bool false)], args := [d1, d2] }
  | _ => none }
def StepRisesWrongFalsely : Prop := stepRisesRow.holds Tryz.pinned (OpenSpec.ofChange stepRisesWrong)

/-- 'proteanlaw15.StepPlain': WHATEVER THE INPUT: true; the input reads as it did. -/
def stepPlainSpec : ChangeSpec := { name := "stepPlain", fn := fun _ => fun
  | [d1, d2, d3] => { results := [.lit (.bool true)], args := [d1, d2, d3] }
  | _ => none }
def stepPlainRow : OpenClaim := { program := "ytnoahchdmkpleaagreat", sum := "f4ce23f85dc732834f6aab426fd9dc289964efda4a85c2473e47e265cedd0f1e", func := "protean/proteanlaw15.StepPlain", spec := "stepPlain", inPlace := ["slices.overlaps[protean/api.Bind]", "internal/bytealg.abigen_runtime_cmpstring", "slices.overlaps[protean/api.Field]", "slices.overlaps[protean/api.Loc]"], unfollowed := true, recurses := true, loops := true, plainKeys := false, apart := false }
def StepPlainSaid : Prop := stepPlainRow.holds Tryz.pinned (OpenSpec.ofChange stepPlainSpec)

/-- ITS FALSE NEIGHBOUR: 'it returns false'. Refute it at one input. -/
def stepPlainWrong : ChangeSpec := { name := "stepPlain", fn := fun _ => fun
  | [d1, d2, d3] => { results := [.lit (.bool false)], args := [d1, d2, d3] }
  | _ => none }
def StepPlainWrongFalsely : Prop := stepPlainRow.holds Tryz.pinned (OpenSpec.ofChange stepPlainWrong)

/-- 'proteanlaw15.StepPlainly': WHATEVER THE INPUT: true; the input reads as it did. -/
def stepPlainlySpec : ChangeSpec := { name := "stepPlainly", fn := fun _ => fun
  | [d1, d2, d3] => { results := [.lit (.bool true)], args := [d1, d2, d3] }
  | _ => none }
def stepPlainlyRow : OpenClaim := { program := "ytnoahchdmkpleaagreat", sum := "f4ce23f85dc732834f6aab426fd9dc289964efda4a85c2473e47e265cedd0f1e", func := "protean/proteanlaw15.StepPlainly", spec := "stepPlainly", inPlace := ["slices.overlaps[protean/api.Bind]", "internal/bytealg.abigen_runtime_cmpstring", "slices.overlaps[protean/api.Field]", "slices.overlaps[protean/api.Loc]"], unfollowed := true, recurses := true, plainKeys := false, apart := false }
def StepPlainlySaid : Prop := stepPlainlyRow.holds Tryz.pinned (OpenSpec.ofChange stepPlainlySpec)

/-- ITS FALSE NEIGHBOUR: 'it returns false'. Refute it at one input. -/
def stepPlainlyWrong : ChangeSpec := { name := "stepPlainly", fn := fun _ => fun
  | [d1, d2, d3] => { results := [.lit (.bool false)], args := [d1, d2, d3] }
  | _ => none }
def StepPlainlyWrongFalsely : Prop := stepPlainlyRow.holds Tryz.pinned (OpenSpec.ofChange stepPlainlyWrong)

/-- 'proteanlaw16.FlowJoins': WHATEVER THE INPUT: true; the input reads as it did. -/
def flowJoinsSpec : ChangeSpec := { name := "flowJoins", fn := fun _ => fun
  | [d1, d2] => { results := [.lit (.bool true)], args := [d1, d2] }
  | _ => none }
def flowJoinsRow : OpenClaim := { program := "ytnoahchdmkpleaagreat", sum := "f4ce23f85dc732834f6aab426fd9dc289964efda4a85c2473e47e265cedd0f1e", func := "protean/proteanlaw16.FlowJoins", spec := "flowJoins", inPlace := ["slices.overlaps[protean/api.Bind]", "internal/bytealg.abigen_runtime_cmpstring", "slices.overlaps[protean/api.Field]", "slices.overlaps[protean/api.Loc]"], unfollowed := true, recurses := true, plainKeys := false, apart := false }
def FlowJoinsSaid : Prop := flowJoinsRow.holds Tryz.pinned (OpenSpec.ofChange flowJoinsSpec)

/-- ITS FALSE NEIGHBOUR: 'it returns false'. Refute it at one input. -/
def flowJoinsWrong : ChangeSpec := { name := "flowJoins", fn := fun _ => fun
  | [d1, d2] => { results := [.lit (.bool false)], args := [d1, d2] }
  | _ => none }
def FlowJoinsWrongFalsely : Prop := flowJoinsRow.holds Tryz.pinned (OpenSpec.ofChange flowJoinsWrong)

/-- 'proteanlaw16.FlowDead': WHATEVER THE INPUT: true; the input reads as it did. -/
def flowDeadSpec : ChangeSpec := { name := "flowDead", fn := fun _ => fun
  | [d1, d2] => { results := [.lit (.bool true)], args := [d1, d2] }
  | _ => none }
def flowDeadRow : OpenClaim := { program := "ytnoahchdmkpleaagreat", sum := "f4ce23f85dc732834f6aab426fd9dc289964efda4a85c2473e47e265cedd0f1e", func := "protean/proteanlaw16.FlowDead", spec := "flowDead", inPlace := ["slices.overlaps[protean/api.Bind]", "internal/bytealg.abigen_runtime_cmpstring", "slices.overlaps[protean/api.Field]", "slices.overlaps[protean/api.Loc]"], unfollowed := true, recurses := true, loops := true, plainKeys := false, apart := false }
def FlowDeadSaid : Prop := flowDeadRow.holds Tryz.pinned (OpenSpec.ofChange flowDeadSpec)

/-- ITS FALSE NEIGHBOUR: 'it returns false'. Refute it at one input. -/
def flowDeadWrong : ChangeSpec := { name := "flowDead", fn := fun _ => fun
  | [d1, d2] => { results := [.lit (.bool false)], args := [d1, d2] }
  | _ => none }
def FlowDeadWrongFalsely : Prop := flowDeadRow.holds Tryz.pinned (OpenSpec.ofChange flowDeadWrong)

/- THE SECOND FORM. 'bulk': how many values and letters a reading holds, each counted each time it is reached (what is shared counts as often as it is met; a slice's spare places count too). A statement '..UptoSaid' is the law's where the arguments, and the package variables that the reading takes, are together of bulk at most 1048576: NARROWER than '..Said'. Prove '..Said' where nothing that the law and all that it calls make is longer than what came in: it says more and counts as full. Else prove '..UptoSaid'. A law counts once. -/
mutual
def uptoBulk {H : Type} : DataW H → Nat
  | .lit (.string bytes) => bytes.length + 1
  | .lit _ => 1
  | .nil => 1
  | .ptr d => uptoBulk d + 1
  | .slice elems spare => uptoBulkAll elems + uptoBulkAll spare + 1
  | .agg parts => uptoBulkAll parts + 1
  | .iface _ d => uptoBulk d + 1
  | .map entries => uptoBulkEntries entries + 1
  | .held _ => 1
def uptoBulkAll {H : Type} : List (DataW H) → Nat
  | [] => 0
  | d :: r => uptoBulk d + uptoBulkAll r
def uptoBulkEntries {H : Type} : List (Lit × DataW H) → Nat
  | [] => 0
  | x :: r => uptoBulkEntry x + uptoBulkEntries r
def uptoBulkEntry {H : Type} : Lit × DataW H → Nat
  | (.string bytes, d) => bytes.length + uptoBulk d + 1
  | (_, d) => uptoBulk d + 1
 end
def uptoSmall : (H : Type) → List (DataW H) → Bool := fun _ ds => decide (uptoBulkAll ds ≤ 1048576)
def OpenSpec.upto (s : _root_.Go.ChangeSpec) : _root_.Go.OpenSpec := { _root_.Go.OpenSpec.ofChange s with cond := some uptoSmall }

/-- 'proteanlaw15.StepRises', WHERE WHAT IT READS IS OF BULK AT MOST 1048576: true; the input reads as it did. -/
def stepRisesUptoRow : OpenClaim := { program := "ytnoahchdmkpleaagreat", sum := "f4ce23f85dc732834f6aab426fd9dc289964efda4a85c2473e47e265cedd0f1e", func := "protean/proteanlaw15.StepRises", spec := "stepRises", inPlace := ["slices.overlaps[protean/api.Bind]", "internal/bytealg.abigen_runtime_cmpstring", "slices.overlaps[protean/api.Field]", "slices.overlaps[protean/api.Loc]"], unfollowed := true, recurses := true, loops := true, plainKeys := false, apart := false, narrowed := true }
def StepRisesUptoSaid : Prop := stepRisesUptoRow.holds Tryz.pinned (OpenSpec.upto stepRisesSpec)

/-- 'proteanlaw15.StepPlain', WHERE WHAT IT READS IS OF BULK AT MOST 1048576: true; the input reads as it did. -/
def stepPlainUptoRow : OpenClaim := { program := "ytnoahchdmkpleaagreat", sum := "f4ce23f85dc732834f6aab426fd9dc289964efda4a85c2473e47e265cedd0f1e", func := "protean/proteanlaw15.StepPlain", spec := "stepPlain", inPlace := ["slices.overlaps[protean/api.Bind]", "internal/bytealg.abigen_runtime_cmpstring", "slices.overlaps[protean/api.Field]", "slices.overlaps[protean/api.Loc]"], unfollowed := true, recurses := true, loops := true, plainKeys := false, apart := false, narrowed := true }
def StepPlainUptoSaid : Prop := stepPlainUptoRow.holds Tryz.pinned (OpenSpec.upto stepPlainSpec)

/-- 'proteanlaw15.StepPlainly', WHERE WHAT IT READS IS OF BULK AT MOST 1048576: true; the input reads as it did. -/
def stepPlainlyUptoRow : OpenClaim := { program := "ytnoahchdmkpleaagreat", sum := "f4ce23f85dc732834f6aab426fd9dc289964efda4a85c2473e47e265cedd0f1e", func := "protean/proteanlaw15.StepPlainly", spec := "stepPlainly", inPlace := ["slices.overlaps[protean/api.Bind]", "internal/bytealg.abigen_runtime_cmpstring", "slices.overlaps[protean/api.Field]", "slices.overlaps[protean/api.Loc]"], unfollowed := true, recurses := true, plainKeys := false, apart := false, narrowed := true }
def StepPlainlyUptoSaid : Prop := stepPlainlyUptoRow.holds Tryz.pinned (OpenSpec.upto stepPlainlySpec)

/-- 'proteanlaw16.FlowJoins', WHERE WHAT IT READS IS OF BULK AT MOST 1048576: true; the input reads as it did. -/
def flowJoinsUptoRow : OpenClaim := { program := "ytnoahchdmkpleaagreat", sum := "f4ce23f85dc732834f6aab426fd9dc289964efda4a85c2473e47e265cedd0f1e", func := "protean/proteanlaw16.FlowJoins", spec := "flowJoins", inPlace := ["slices.overlaps[protean/api.Bind]", "internal/bytealg.abigen_runtime_cmpstring", "slices.overlaps[protean/api.Field]", "slices.overlaps[protean/api.Loc]"], unfollowed := true, recurses := true, plainKeys := false, apart := false, narrowed := true }
def FlowJoinsUptoSaid : Prop := flowJoinsUptoRow.holds Tryz.pinned (OpenSpec.upto flowJoinsSpec)

/-- 'proteanlaw16.FlowDead', WHERE WHAT IT READS IS OF BULK AT MOST 1048576: true; the input reads as it did. -/
def flowDeadUptoRow : OpenClaim := { program := "ytnoahchdmkpleaagreat", sum := "f4ce23f85dc732834f6aab426fd9dc289964efda4a85c2473e47e265cedd0f1e", func := "protean/proteanlaw16.FlowDead", spec := "flowDead", inPlace := ["slices.overlaps[protean/api.Bind]", "internal/bytealg.abigen_runtime_cmpstring", "slices.overlaps[protean/api.Field]", "slices.overlaps[protean/api.Loc]"], unfollowed := true, recurses := true, loops := true, plainKeys := false, apart := false, narrowed := true }
def FlowDeadUptoSaid : Prop := flowDeadUptoRow.holds Tryz.pinned (OpenSpec.upto flowDeadSpec)

end Rows
end Go.Proofs.YtnoahchdmkpleaaGreat
