/- What is proved: what the abstract interpreter (VA) answers for a call is what the call comes to, for every world that its arguments mean something in. No condition but that its table is the program's. -/
import Derived.Test.YtiiaajajhkdemaaVb7
namespace Go.Proofs.Ytiiaajajhkdemaa.VA
open Go Go.RowKit
set_option linter.unusedSimpArgs false

/-- What is asked of a function that is told outright. -/
def ToldOk (P : Program) (f : FuncId) (h : List AV → Option AV) : Prop :=
  (∀ vs w, (callFunc f vs).run P w = .ok (.enter f vs) w) ∧
  ∀ args v, h args = some v → ∀ g H w (vs : Array Value), Inv g H w → RelL g w args vs.toList →
    Calls P f vs w fun en w' => ∃ u g', en = .returned u ∧ Ext g w g' w' ∧ Inv g' H w' ∧ g'.box = g.box ∧ g'.own = g.own ∧ Rel g' w' v u
structure CfgOk (P : Program) (c : Cfg) : Prop where
  mixed : P.follows .mixedOrders = true
  fn : ∀ f fn, c.fn f = some fn → P.funcs[f]? = some fn ∧ (fn.name == "runtime.NumGoroutine") = false ∧ ∀ code, fn.body = some code → codeOk fn.ntmps code = true
  told : ∀ f h, c.told f = some h → ToldOk P f h
theorem callFunc_enter {P : Program} {f : FuncId} {fn : Func} {code : Code} (hf : P.funcs[f]? = some fn) (hn : (fn.name == "runtime.NumGoroutine") = false) (hb : fn.body = some code) (vs : Array Value) (w : World) :
    (callFunc f vs).run P w = .ok (.enter f vs) w := by
  have hn' : ¬ fn.name = "runtime.NumGoroutine" := by simpa using hn
  simp [callFunc, hf, hn', hb]
theorem env_init {g : Gh} {w : World} {args : List AV} {vs : Array Value} (h : RelL g w args vs.toList) (m : Nat) : EnvRel g w args (vs ++ Array.replicate m undef) := by
  have hget : ∀ (l : List AV) (i : Nat), gget .bad l i = (l[i]?).getD .bad := by
    intro l
    induction l with
    | nil => intro i; simp [gget]
    | cons x l ih => intro i; cases i with | zero => rfl | succ i => simpa [gget] using ih i
  intro i
  rw [hget]
  by_cases hi : i < args.length
  · have hlen : args.length = vs.size := by simpa using h.1
    have hx : args[i]? = some args[i] := by simp [hi]
    rw [hx]
    refine h.2 i _ _ hx ?_
    simp only [Array.getD_eq_getD_getElem?]
    rw [Array.getElem?_append_left (by omega)]
    simp [show i < vs.size by omega]
  · rw [List.getElem?_eq_none (by omega)]
    exact .bad _
theorem runFn_sound {P : Program} {K : Calling} {imp : FuncId → Bool} (hK : KOk P K imp) (hm : P.follows .mixedOrders = true) {f : FuncId} {fn : Func} (hf : P.funcs[f]? = some fn) (hc : ∀ code, fn.body = some code → codeOk fn.ntmps code = true)
    {k : Nat} {args : List AV} {H : Heap} {r : CR} (h : runFn P K imp k fn args H = some r) {g : Gh} {w : World} {vs : Array Value} (hi : Inv g H w) (ht : Top g H.next) (hr : RelL g w args vs.toList) :
    (∃ code, fn.body = some code) ∧ Calls P f vs w (CPost g H.next w r) := by
  unfold runFn at h
  split at h
  · cases h
  · rename_i code hb
    refine ⟨⟨code, hb⟩, ?_⟩
    split at h
    · rename_i hlen
      have hsz : (vs ++ Array.replicate (fn.ntmps - vs.size) undef).size = fn.ntmps := by
        have := hr.1
        simp at this
        simp
        omega
      refine calls_of_wp hf hb ?_
      cases hx : exec P K imp k code args H with
      | none => rw [hx] at h; cases h
      | some res =>
        obtain ⟨ex, e, H'⟩ := res
        rw [hx] at h
        refine (exec_sound hK hm k code args H ex e H' hx (hc code hb) g { tmps := vs ++ Array.replicate (fn.ntmps - vs.size) undef, defers := [] } w hi (env_init hr _) hsz ht _ ?_).1
        intro g' x a' w' hp hd hs hrel
        have fin : ∀ vs', aResults P e H' fn.results.toList = some vs' → EnvRel g' w' e a'.tmps → r = .ret (san (oneOr vs')) H' →
            a'.defers = [] ∧ ∃ v, (results fn a'.tmps).run P w' = .ok v w' ∧ CPost g H.next w r (.returned v) w' := by
          intro vs' h1 h2 h3
          obtain ⟨u, q1, q2⟩ := results_sound h1 hp.inv h2
          refine ⟨hd, u, q1, ?_⟩
          subst h3
          exact ⟨u, g', rfl, hp, q2.san (fun _ => Nat.le_refl _)⟩
        cases ex with
        | nrm =>
          simp only at h
          split at h
          · rename_i vs' hv
            simp only [Option.some.injEq] at h
            obtain ⟨rfl, hen⟩ := hrel
            exact fin vs' hv hen h.symm
          · cases h
        | ret =>
          simp only at h
          split at h
          · rename_i vs' hv
            simp only [Option.some.injEq] at h
            obtain ⟨rfl, hen⟩ := hrel
            exact fin vs' hv hen h.symm
          · cases h
        | exit id => cases h
        | pan v =>
          simp only [Option.some.injEq] at h
          subst h
          obtain ⟨u, rfl, hu⟩ := hrel
          exact ⟨hd, u, g', rfl, hp, hu.san (fun _ => Nat.le_refl _)⟩
    · cases h
/-- A call without the caller's own memory, seen by the caller. -/
theorem pure_back {g g' : Gh} {H H' : Heap} {w w' : World} (hi : Inv g H w) (ht : Top g H.next) (hp : Past 0 { lo := w.heap.size, vis := g.vis, box := fun _ => none, own := fun _ => none } w g' H' w') :
    Past H.next g w { g with vis := g'.vis } H w' := by
  have hx := hp.ext
  have hsame : ∀ b, b < w.heap.size → w'.heap[b]? = w.heap[b]? := hx.low
  have hvis : ∀ b, b < w.heap.size → g'.vis b = g.vis b := hx.lowv
  have he : Ext g w { g with vis := g'.vis } w' :=
    ⟨rfl, hx.os, hx.tape, hx.output, hx.size, fun b hb => hsame b (Nat.lt_of_lt_of_le hb hi.lo), fun b hb => hvis b (Nat.lt_of_lt_of_le hb hi.lo), hx.vis, hx.cell, fun _ _ h => h, fun _ _ h => h⟩
  refine ⟨he, ⟨Nat.le_trans hi.lo hx.size, hp.inv.fresh, ?_, hi.boxI, ?_, ?_, hi.liveI⟩, ht, fun _ _ => ⟨rfl, rfl⟩, Nat.le_refl _⟩
  · intro r b hb
    obtain ⟨h1, h2, h3⟩ := hi.boxB r b hb
    exact ⟨h1, Nat.lt_of_lt_of_le h2 hx.size, by rw [← h3]; exact hvis b h2⟩
  · intro r cs hr
    obtain ⟨b, vs, t, h1, h2, h3⟩ := hi.box r cs hr
    exact ⟨b, vs, t, h1, by rw [hsame b (hi.boxB r b h1).2.1]; exact h2, h3.ext he⟩
  · intro s hs
    obtain ⟨b, n, cap, e, sz, vs, h1, h2, h3, h4, h5, h6, h7, h8⟩ := hi.live s hs
    have hlt : b < w.heap.size := (Array.getElem?_eq_some_iff.1 h3).1
    exact ⟨b, n, cap, e, sz, vs, h1, h2, by rw [hsame b hlt]; exact h3, h4, h5, h6, by rw [← h7]; exact hvis b hlt, h8⟩
theorem inv_empty {g : Gh} {H : Heap} {w : World} (hi : Inv g H w) : Inv { lo := w.heap.size, vis := g.vis, box := fun _ => none, own := fun _ => none } Heap.empty w :=
  ⟨Nat.le_refl _, hi.fresh, (fun _ _ h => by cases h), (fun _ _ _ h => by cases h), (fun _ _ h => by simp at h), (fun _ h => by simp at h), (fun _ _ _ _ _ h => by simp at h)⟩
mutual
theorem san_san : ∀ (x : AV), san (san x) = san x
  | .bad => rfl
  | .lit v => rfl
  | .sl o es => by simp only [san, sanLL_san es]
  | .ptr r o => rfl
  | .ep cs => by simp only [san, sanL_san cs]
  | .fn f cs => by simp only [san, sanL_san cs]
  | .ifc t v => by simp only [san, san_san v]
  | .mp r => rfl
  | .agg cs => by simp only [san, sanL_san cs]
  | .tup cs => by simp only [san, sanL_san cs]
theorem sanL_san : ∀ (l : List AV), sanL (sanL l) = sanL l
  | [] => rfl
  | x :: l => by simp only [sanL, san_san x, sanL_san l]
theorem sanLL_san : ∀ (l : List (List AV)), sanLL (sanLL l) = sanLL l
  | [] => rfl
  | x :: l => by simp only [sanLL, sanL_san x, sanLL_san l]
end
theorem runFn_san {P : Program} {K : Calling} {imp : FuncId → Bool} {k : Nat} {fn : Func} {args : List AV} {H H' : Heap} {v : AV} (h : runFn P K imp k fn args H = some (.ret v H')) : san v = v := by
  unfold runFn at h
  split at h
  · cases h
  · split at h
    · split at h
      · cases h
      · cases h
      · split at h
        · simp only [Option.some.injEq, CR.ret.injEq] at h
          rw [← h.1, san_san]
        · cases h
      · cases h
    · cases h
theorem call_ok {P : Program} {c : Cfg} (hc : CfgOk P c) : ∀ k, KOk P (call P c k) c.imp := by
  intro k
  induction k with
  | zero => exact ⟨fun f args H r h => by simp [call] at h, fun f args H r _ h => by simp [call] at h⟩
  | succ k ih =>
    constructor
    · intro f args H r h g w vs hi ht hr
      simp only [call] at h
      split at h
      · rename_i ht' htold
        split at h
        · rename_i v hv
          simp only [Option.some.injEq] at h
          subst h
          obtain ⟨h1, h2⟩ := hc.told f ht' htold
          refine ⟨h1 vs w, (h2 _ v hv g H w vs hi (hr.san (fun _ => Nat.le_refl _))).mono fun en w' hpost => ?_⟩
          obtain ⟨u, g', rfl, q1, q2, q3, q4, q5⟩ := hpost
          exact ⟨u, g', rfl, ⟨q1, q2, fun r hr => by rw [q3, q4]; exact ht r hr, fun r _ => by rw [q3, q4]; exact ⟨rfl, rfl⟩, Nat.le_refl _⟩, q5⟩
        · cases h
      · split at h
        · cases h
        · rename_i fn hfn
          obtain ⟨hf, hname, hcode⟩ := hc.fn f fn hfn
          split at h
          · obtain ⟨⟨code, hb⟩, q⟩ := runFn_sound ih hc.mixed hf hcode h hi ht hr
            exact ⟨callFunc_enter hf hname hb vs w, q⟩
          · split at h
            · rename_i v H' hrun
              simp only [Option.some.injEq] at h
              subst h
              obtain ⟨⟨code, hb⟩, q⟩ := runFn_sound ih hc.mixed hf hcode hrun (inv_empty hi) (fun _ _ => ⟨rfl, rfl⟩) (hr.san (g' := { lo := w.heap.size, vis := g.vis, box := fun _ => none, own := fun _ => none }) (fun _ => Nat.le_refl _))
              refine ⟨callFunc_enter hf hname hb vs w, q.mono fun en w' hpost => ?_⟩
              obtain ⟨u, g', rfl, hp, hrel⟩ := hpost
              refine ⟨u, _, rfl, pure_back hi ht hp, ?_⟩
              rw [← runFn_san hrun]
              exact hrel.san (fun _ => Nat.le_refl _)
            · cases h
    · intro f args H r himp h
      simp only [call] at h ⊢
      split at h
      · rename_i ht' htold
        split at h
        · rename_i v hv
          simp only [Option.some.injEq] at h
          subst h
          exact ⟨v, rfl, fun H2 => by simp [htold, hv]⟩
        · cases h
      · rename_i htold
        split at h
        · cases h
        · rename_i fn hfn
          simp only [himp] at h ⊢
          split at h
          · rename_i v H' hrun
            simp only [Option.some.injEq] at h
            subst h
            exact ⟨v, rfl, fun H2 => by simp [htold, hfn, hrun]⟩
          · cases h
end Go.Proofs.Ytiiaajajhkdemaa.VA
