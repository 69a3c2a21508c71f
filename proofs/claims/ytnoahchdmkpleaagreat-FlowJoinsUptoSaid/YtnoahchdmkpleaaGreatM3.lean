/- What is proved: the abstract interpreter (VA) against the model's own machine: what it answers for a call is what the call comes to. No condition but that the table it is given is the program's.
What is proved: what a call leaves to its caller, trimmed, in the abstract interpreter (VA), means what it meant. No condition.
What is proved: what the abstract interpreter (VA) answers for a call is what the call comes to, for every world that its arguments mean something in. No condition but that its table is the program's.
What is proved: more fuel changes no answer of the abstract interpreter (VA), and what it answers with all its calls at hand it answers with some fuel. No condition.
What is proved: rules by which one shows what the abstract interpreter (VA) answers, code piece by code piece. No condition.
What is proved: what each operation does in the abstract interpreter (VA), as equations to rewrite with, and how a function's body tells its calls. No condition.
What is proved: a function's call in the abstract interpreter (VA), by its body. No condition.
What is proved: memory, appending and slices in the abstract interpreter (VA), as equations to rewrite with. No condition. -/
import Derived.Test.YtnoahchdmkpleaaGreatM2
import Derived.LoopN
/-! Vb7 -/
namespace Go.Proofs.YtnoahchdmkpleaaGreat.VA
open Go Go.RowKit
set_option linter.unusedSimpArgs false

/-- Is a function's code such that the interpreter may go over it? -/
def codeOk (n : Nat) : Code → Bool
 | .region _ ops d => ops.toList.all (dstOk n) && (!d || drawOk ops)
 | .seq a b => codeOk n a && codeOk n b
 | .cond _ a b => codeOk n a && codeOk n b
 | .block _ a => codeOk n a
 | .loop a => codeOk n a
 | .scope a => codeOk n a
 | _ => true
/-- Does a piece of code write a slot? -/
def noW (s : Nat) : Code → Bool
 | .region _ ops _ => ops.toList.all fun o => o.dst != some s
 | .seq a b | .cond _ a b => noW s a && noW s b
 | .block _ a | .loop a | .scope a => noW s a
 | _ => true
def Kept (c : Code) (a a' : Act) : Prop := a'.defers = a.defers ∧ ∀ s, noW s c = true → a'.tmps.getD s undef = a.tmps.getD s undef
theorem Kept.refl (c : Code) (a : Act) : Kept c a a := ⟨rfl, fun _ _ => rfl⟩
theorem Kept.left {x y : Code} {a a' : Act} (h : Kept x a a') : Kept (.seq x y) a a' := ⟨h.1, fun s hs => h.2 s (by simp only [noW, Bool.and_eq_true] at hs; exact hs.1)⟩
theorem Kept.seq {x y : Code} {a a1 a2 : Act} (h : Kept x a a1) (k : Kept y a1 a2) : Kept (.seq x y) a a2 :=
 ⟨k.1.trans h.1, fun s hs => by simp only [noW, Bool.and_eq_true] at hs; exact (k.2 s hs.2).trans (h.2 s hs.1)⟩
theorem Kept.condL {t : Operand} {x y : Code} {a a' : Act} (h : Kept x a a') : Kept (.cond t x y) a a' := ⟨h.1, fun s hs => h.2 s (by simp only [noW, Bool.and_eq_true] at hs; exact hs.1)⟩
theorem Kept.condR {t : Operand} {x y : Code} {a a' : Act} (h : Kept y a a') : Kept (.cond t x y) a a' := ⟨h.1, fun s hs => h.2 s (by simp only [noW, Bool.and_eq_true] at hs; exact hs.2)⟩
theorem Kept.block {id : Nat} {x : Code} {a a' : Act} (h : Kept x a a') : Kept (.block id x) a a' := ⟨h.1, fun s hs => h.2 s (by simpa only [noW] using hs)⟩
theorem Kept.scope {x : Code} {a a' : Act} (h : Kept x a a') : Kept (.scope x) a a' := ⟨h.1, fun s hs => h.2 s (by simpa only [noW] using hs)⟩
theorem Kept.one {x : Code} {a a' : Act} (h : Kept x a a') : Kept (.loop x) a a' := ⟨h.1, fun s hs => h.2 s (by simpa only [noW] using hs)⟩
theorem Kept.round {x : Code} {a a1 a2 : Act} (h : Kept x a a1) (k : Kept (.loop x) a1 a2) : Kept (.loop x) a a2 :=
 ⟨k.1.trans h.1, fun s hs => (k.2 s hs).trans (h.2 s (by simpa only [noW] using hs))⟩
theorem KeptL.region {id : Nat} {ops : Array Oper} {d : Bool} {a a' : Act} (h : KeptL ops.toList a a') : Kept (.region id ops d) a a' := ⟨h.1, fun s hs => h.2 s (by simpa only [noW] using hs)⟩
theorem exec_sound {P : Program} {C : Cond} {K : Calling} {imp : FuncId → Bool} (hK : KOk P C K imp) (hm : P.follows .mixedOrders = true) {n : Nat} : ∀ (k : Nat) (c : Code) (e : List AV) (H : Heap) (ex : Ex) (e' : List AV) (H' : Heap),
  exec P K imp k c e H = some (ex, e', H') → codeOk n c = true → ∀ (g : Gh) (a : Act) (w : World), g.cond = C → Inv g H w → EnvRel g w e a.tmps → a.tmps.size = n → Top g H.next → ∀ Q : Exit → Act → World → Prop,
  (∀ g' x a' w', Past H.next g w g' H' w' → Kept c a a' → a'.tmps.size = n → ExRel g' w' x a' ex e' → Q x a' w') →
  c.wp P Q a w ∧ ∀ body, c = .loop body → Code.rounds P body Q k a w := by
 intro k
 induction k with
 | zero => intro c e H ex e' H' h; simp [exec] at h
 | succ k ih =>
  intro c e H ex e' H' h hc g a w hC hi he hn ht Q hQ
  have hrefl : Past H.next g w g H w := ⟨Ext.refl g w, hi, ht, New.refl _ _, Nat.le_refl _⟩
  cases c with
  | skip =>
   simp only [exec, Option.some.injEq, Prod.mk.injEq] at h
   obtain ⟨rfl, rfl, rfl⟩ := h
   exact ⟨wp_skip (hQ g _ a w hrefl (Kept.refl _ _) hn ⟨rfl, he⟩), fun b hb => by cases hb⟩
  | label l =>
   simp only [exec, Option.some.injEq, Prod.mk.injEq] at h
   obtain ⟨rfl, rfl, rfl⟩ := h
   exact ⟨wp_label (hQ g _ a w hrefl (Kept.refl _ _) hn ⟨rfl, he⟩), fun b hb => by cases hb⟩
  | exit id =>
   simp only [exec, Option.some.injEq, Prod.mk.injEq] at h
   obtain ⟨rfl, rfl, rfl⟩ := h
   exact ⟨wp_exit (hQ g _ a w hrefl (Kept.refl _ _) hn ⟨rfl, he⟩), fun b hb => by cases hb⟩
  | ret =>
   simp only [exec, Option.some.injEq, Prod.mk.injEq] at h
   obtain ⟨rfl, rfl, rfl⟩ := h
   exact ⟨wp_ret (hQ g _ a w hrefl (Kept.refl _ _) hn ⟨rfl, he⟩), fun b hb => by cases hb⟩
  | goto l => simp [exec] at h
  | refuse why => simp [exec] at h
  | rangeFunc f ps as b => simp [exec] at h
  | region id ops d =>
   refine ⟨?_, fun b hb => by cases hb⟩
   simp only [exec] at h
   simp only [codeOk, Bool.and_eq_true, Bool.or_eq_true, Bool.not_eq_true'] at hc
   have hds : ∀ o, o ∈ ops.toList → dstOk n o = true := List.all_eq_true.1 hc.1
   cases d with
   | false =>
    simp only [runRegion] at h
    refine wp_region ?_
    have := runOps_sound hK (base := H.next) (n := n) ops.toList 0 e { H with next := H.next + ops.size } ex e' H' h (by simp) hds g a w hC (hi.next (fun _ => rfl) (fun _ => rfl)) he hn (ht.mono (by simp)) ?_ (by simp) Q ?_
    ·rw [Array.length_toList] at this
     rw [List.range_eq_range']
     exact this
    ·intro j h1 h2
     have := ht (H.next + j) (by omega)
     exact (hi.next (H' := { H with next := H.next + ops.size }) (fun _ => rfl) (fun _ => rfl)).fresh_of this.1 this.2
    ·intro g' x a' w' hp hd hs hx
     exact hQ g' x a' w' hp hd.region hs hx
   | true =>
    simp only [runRegion] at h
    split at h
    ·cases h
    ·rename_i tr pk e1 H1 hrun
     split at h
     ·rename_i hok
      have hdo : drawOk ops = true := by simpa using hc.2
      refine draw_sound hK hm hdo hds hrun hok hC hi he hn ht Q ?_ ?_
      ·intro hpk g' a' w' hp hd hs hen
       subst hpk
       simp only [Option.some.injEq, Prod.mk.injEq] at h
       obtain ⟨rfl, rfl, rfl⟩ := h
       exact hQ g' _ a' w' hp hd.region hs ⟨rfl, hen⟩
      ·intro kk v Hp hpk g' a' w' u hp hd hs hrel
       subst hpk
       simp only [Option.some.injEq, Prod.mk.injEq] at h
       obtain ⟨rfl, rfl, rfl⟩ := h
       exact hQ g' _ a' w' hp hd.region hs ⟨u, rfl, hrel⟩
     ·cases h
  | seq x y =>
   refine ⟨?_, fun b hb => by cases hb⟩
   simp only [codeOk, Bool.and_eq_true] at hc
   simp only [exec] at h
   refine wp_seq ?_
   cases hx : exec P K imp k x e H with
   | none => rw [hx] at h; cases h
   | some r =>
    obtain ⟨ex1, e1, H1⟩ := r
    rw [hx] at h
    refine (ih x e H ex1 e1 H1 hx hc.1 g a w hC hi he hn ht _ ?_).1
    intro g' x' a' w' hp hd hs hr
    cases ex1 with
    | nrm =>
     obtain ⟨rfl, hen⟩ := hr
     simp only at h
     exact (ih y e1 H1 ex e' H' h hc.2 g' a' w' (hp.ext.cond.trans hC) hp.inv hen hs hp.top Q (fun g2 x2 a2 w2 hp2 hd2 hs2 hr2 => hQ g2 x2 a2 w2 (hp.trans hp2 hp.next) (hd.seq hd2) hs2 hr2)).1
    | exit id =>
     simp only [Option.some.injEq, Prod.mk.injEq] at h
     obtain ⟨rfl, rfl, rfl⟩ := h
     obtain ⟨rfl, hen⟩ := hr
     exact hQ g' _ a' w' hp hd.left hs ⟨rfl, hen⟩
    | ret =>
     simp only [Option.some.injEq, Prod.mk.injEq] at h
     obtain ⟨rfl, rfl, rfl⟩ := h
     obtain ⟨rfl, hen⟩ := hr
     exact hQ g' _ a' w' hp hd.left hs ⟨rfl, hen⟩
    | pan v =>
     simp only [Option.some.injEq, Prod.mk.injEq] at h
     obtain ⟨rfl, rfl, rfl⟩ := h
     obtain ⟨u, rfl, hen⟩ := hr
     exact hQ g' _ a' w' hp hd.left hs ⟨u, rfl, hen⟩
  | cond cc x y =>
   refine ⟨?_, fun b hb => by cases hb⟩
   simp only [codeOk, Bool.and_eq_true] at hc
   simp only [exec] at h
   have hr := he.eval cc
   split at h
   ·rename_i hb
    rw [hb] at hr
    exact wp_cond_true hr.lit_inv (ih x e H ex e' H' h hc.1 g a w hC hi he hn ht Q (fun g2 x2 a2 w2 hp2 hd2 hs2 hr2 => hQ g2 x2 a2 w2 hp2 hd2.condL hs2 hr2)).1
   ·rename_i hb
    rw [hb] at hr
    exact wp_cond_false hr.lit_inv (ih y e H ex e' H' h hc.2 g a w hC hi he hn ht Q (fun g2 x2 a2 w2 hp2 hd2 hs2 hr2 => hQ g2 x2 a2 w2 hp2 hd2.condR hs2 hr2)).1
   ·cases h
  | block id x =>
   refine ⟨?_, fun b hb => by cases hb⟩
   simp only [codeOk] at hc
   simp only [exec] at h
   refine wp_block ?_
   cases hx : exec P K imp k x e H with
   | none => rw [hx] at h; cases h
   | some r =>
    obtain ⟨ex1, e1, H1⟩ := r
    rw [hx] at h
    refine (ih x e H ex1 e1 H1 hx hc g a w hC hi he hn ht _ ?_).1
    intro g' x' a' w' hp hd hs hr
    cases ex1 with
    | nrm =>
     simp only [Option.some.injEq, Prod.mk.injEq] at h
     obtain ⟨rfl, rfl, rfl⟩ := h
     obtain ⟨rfl, hen⟩ := hr
     exact hQ g' _ a' w' hp hd.block hs ⟨rfl, hen⟩
    | exit j =>
     obtain ⟨rfl, hen⟩ := hr
     simp only at h
     simp only [Exit.inBlock]
     split at h
     ·rename_i hj
      simp only [Option.some.injEq, Prod.mk.injEq] at h
      obtain ⟨rfl, rfl, rfl⟩ := h
      rw [if_pos hj]
      exact hQ g' _ a' w' hp hd.block hs ⟨rfl, hen⟩
     ·rename_i hj
      simp only [Option.some.injEq, Prod.mk.injEq] at h
      obtain ⟨rfl, rfl, rfl⟩ := h
      rw [if_neg hj]
      exact hQ g' _ a' w' hp hd.block hs ⟨rfl, hen⟩
    | ret =>
     simp only [Option.some.injEq, Prod.mk.injEq] at h
     obtain ⟨rfl, rfl, rfl⟩ := h
     obtain ⟨rfl, hen⟩ := hr
     exact hQ g' _ a' w' hp hd.block hs ⟨rfl, hen⟩
    | pan v =>
     simp only [Option.some.injEq, Prod.mk.injEq] at h
     obtain ⟨rfl, rfl, rfl⟩ := h
     obtain ⟨u, rfl, hen⟩ := hr
     exact hQ g' _ a' w' hp hd.block hs ⟨u, rfl, hen⟩
  | loop x =>
   simp only [codeOk] at hc
   simp only [exec] at h
   have hrounds : Code.rounds P x Q (k + 1) a w := by
    rw [rounds_succ]
    cases hx : exec P K imp k x e H with
    | none => rw [hx] at h; cases h
    | some r =>
     obtain ⟨ex1, e1, H1⟩ := r
     rw [hx] at h
     refine (ih x e H ex1 e1 H1 hx hc g a w hC hi he hn ht _ ?_).1
     intro g' x' a' w' hp hd hs hr
     cases ex1 with
     | nrm =>
      obtain ⟨rfl, hen⟩ := hr
      simp only at h
      exact (ih (.loop x) e1 H1 ex e' H' h (by simpa [codeOk] using hc) g' a' w' (hp.ext.cond.trans hC) hp.inv hen hs hp.top Q
       (fun g2 x2 a2 w2 hp2 hd2 hs2 hr2 => hQ g2 x2 a2 w2 (hp.trans hp2 hp.next) (hd.round hd2) hs2 hr2)).2 x rfl
     | exit id =>
      simp only [Option.some.injEq, Prod.mk.injEq] at h
      obtain ⟨rfl, rfl, rfl⟩ := h
      obtain ⟨rfl, hen⟩ := hr
      exact hQ g' _ a' w' hp hd.one hs ⟨rfl, hen⟩
     | ret =>
      simp only [Option.some.injEq, Prod.mk.injEq] at h
      obtain ⟨rfl, rfl, rfl⟩ := h
      obtain ⟨rfl, hen⟩ := hr
      exact hQ g' _ a' w' hp hd.one hs ⟨rfl, hen⟩
     | pan v =>
      simp only [Option.some.injEq, Prod.mk.injEq] at h
      obtain ⟨rfl, rfl, rfl⟩ := h
      obtain ⟨u, rfl, hen⟩ := hr
      exact hQ g' _ a' w' hp hd.one hs ⟨u, rfl, hen⟩
   refine ⟨wp_loop_rounds (k + 1) hrounds, fun b hb => ?_⟩
   simp only [Code.loop.injEq] at hb
   subst hb
   exact hrounds
  | scope x =>
   refine ⟨?_, fun b hb => by cases hb⟩
   simp only [codeOk] at hc
   simp only [exec] at h
   refine wp_scope_straight (ih x e H ex e' H' h hc g a w hC hi he hn ht _ ?_).1
   intro g' x' a' w' hp hd hs hr
   have hq := hQ g' x' a' w' hp hd.scope hs hr
   cases ex with
   | nrm => obtain ⟨rfl, hen⟩ := hr; exact hq
   | exit id => obtain ⟨rfl, hen⟩ := hr; exact hq
   | ret => obtain ⟨rfl, hen⟩ := hr; exact hq
   | pan v => obtain ⟨u, rfl, hen⟩ := hr; exact hq

/-! ### results -/
def resF (tmps : Array Value) : ResultVar → Sem Value
 | .tmp t => pure (tmps.getD t undef)
 | .cell a t => do loadVar t (← asAddr (tmps.getD a undef))
theorem results_eq (fn : Func) (tmps : Array Value) : results fn tmps = (do
  let vs ← fn.results.mapM (resF tmps)
  pure (if h : vs.size = 1 then vs[0] else .tuple vs)) := rfl
theorem aResult_sound {P : Program} {g : Gh} {H : Heap} {w : World} {e : List AV} {tmps : Array Value} {r : ResultVar} {v : AV} (h : aResult P e H r = some v) (hi : Inv g H w) (he : EnvRel g w e tmps) :
  ∃ u, (resF tmps r).run P w = .ok u w ∧ Rel g w v u := by
 cases r with
 | tmp t =>
  simp only [aResult, Option.some.injEq] at h
  subst h
  exact ⟨_, rfl, he t⟩
 | cell a t =>
  simp only [aResult] at h
  cases hl : aLoad P t (gget .bad e a) H with
  | none => simp [hl] at h
  | some p =>
   obtain ⟨z, rs⟩ := p
   simp [hl] at h
   subst h
   obtain ⟨u, h1, h2⟩ := aLoad_sound hl hi (he a)
   refine ⟨u, ?_, h2⟩
   have hr := he a
   simp only [Instr.loadAt] at h1
   have : ∃ ad, tmps.getD a undef = .pointer (some ad) := by
    generalize tmps.getD a undef = v at hr
    generalize gget .bad e a = x at hr hl
    cases hr with
    | ptr r off b hb => exact ⟨_, rfl⟩
    | ep cs b off f hv hc hrr => exact ⟨_, rfl⟩
    | _ => unfold aLoad at hl; split at hl <;> simp at hl
   obtain ⟨ad, hv⟩ := this
   simp only [resF]
   rw [hv] at h1 ⊢
   simpa [asAddr, Instr.sureAddr] using h1
theorem aResults_sound {P : Program} {g : Gh} {H : Heap} {w : World} {e : List AV} {tmps : Array Value} (hi : Inv g H w) (he : EnvRel g w e tmps) : ∀ (l : List ResultVar) (vs : List AV), aResults P e H l = some vs →
  ∃ us, (l.mapM (resF tmps)).run P w = .ok us w ∧ RelL g w vs us
 | [], vs, h => by simp [aResults] at h; subst h; exact ⟨[], rfl, RelL.nil g w⟩
 | r :: l, vs, h => by
  simp only [aResults] at h
  split at h
  ·rename_i v vs' h1 h2
   simp only [Option.some.injEq] at h
   subst h
   obtain ⟨u, q1, q2⟩ := aResult_sound h1 hi he
   obtain ⟨us, q3, q4⟩ := aResults_sound hi he l vs' h2
   refine ⟨u :: us, ?_, RelL.cons q2 q4⟩
   simp only [List.mapM_cons, Sem.run_bind, q1, Result.andThen_ok, q3, Sem.run_pure]
  ·cases h
theorem results_sound {P : Program} {g : Gh} {H : Heap} {w : World} {e : List AV} {tmps : Array Value} {fn : Func} {vs : List AV} (h : aResults P e H fn.results.toList = some vs) (hi : Inv g H w) (he : EnvRel g w e tmps) :
  ∃ u, (results fn tmps).run P w = .ok u w ∧ Rel g w (oneOr vs) u := by
 obtain ⟨us, h1, h2⟩ := aResults_sound hi he _ _ h
 rw [results_eq]
 simp only [Sem.run_bind, Array.mapM_eq_mapM_toList, Sem.run_map, h1, Result.andThen_ok, Sem.run_pure]
 refine ⟨_, rfl, ?_⟩
 cases vs with
 | nil =>
  cases us with
  | nil => exact .tup [] _ rfl (by simp)
  | cons u us => exact absurd h2.1 (by simp)
 | cons v vs =>
  cases us with
  | nil => exact absurd h2.1 (by simp)
  | cons u us =>
   cases vs with
   | nil =>
    cases us with
    | nil => simpa [oneOr] using h2.head
    | cons u' us => exact absurd h2.1 (by simp)
   | cons v' vs =>
    cases us with
    | nil => exact absurd h2.1 (by simp)
    | cons u' us =>
     simp only [oneOr]
     rw [dif_neg (by simp)]
     exact Rel.mk_tup (by simpa using h2)
end Go.Proofs.YtnoahchdmkpleaaGreat.VA

/-! Vm2 -/
namespace Go.Proofs.YtnoahchdmkpleaaGreat.VA
open Go Go.RowKit
set_option linter.unusedSimpArgs false

theorem renS_spec {N : Nat} {live : Nat → Bool} : ∀ (cs : List AV) (seen : List Nat) (j i s : Nat), renS N live seen j cs i = some s → j ≤ i ∧ i < 64 ∧ N ≤ s ∧ live s = true ∧ s ∉ seen
 | [], seen, j, i, s, h => by simp [renS] at h
 | x :: l, seen, j, i, s, h => by
  have up : ∀ seen', (∀ a, a ∈ seen → a ∈ seen') → renS N live seen' (j + 1) l i = some s → j ≤ i ∧ i < 64 ∧ N ≤ s ∧ live s = true ∧ s ∉ seen := fun seen' hs h => by
   obtain ⟨h1, h2, h3, h4, h5⟩ := renS_spec l seen' (j + 1) i s h
   exact ⟨by omega, h2, h3, h4, fun h => h5 (hs s h)⟩
  unfold renS at h
  split at h
  ·cases ‹_ = []›
  ·rename_i s' e z es l' i' heq
   obtain ⟨rfl, rfl⟩ := List.cons.inj heq
   split at h
   ·exact up seen (fun _ h => h) h
   ·split at h
    ·rename_i h1 h2
     split at h
     ·rename_i hij
      simp only [Option.some.injEq] at h
      subst h; subst hij
      exact ⟨Nat.le_refl _, h2.2.2, by omega, h2.1, h2.2.1⟩
     ·exact up _ (fun _ h => List.mem_cons_of_mem _ h) h
    ·exact up seen (fun _ h => h) h
  ·rename_i x' l' i' _ heq
   obtain ⟨rfl, rfl⟩ := List.cons.inj heq
   exact up seen (fun _ h => h) h
theorem renS_other {N : Nat} {live : Nat → Bool} {x : AV} {l : List AV} {seen : List Nat} {j i : Nat} (h : ∀ s e z es, x = .sl (.own s e z) es → False) : renS N live seen j (x :: l) i = renS N live seen (j + 1) l i := by
 cases x with
 | sl o es => cases o with
  | own s e z => exact (h _ _ _ _ rfl).elim
  | _ => rfl
 | _ => rfl
theorem renS_inj {N : Nat} {live : Nat → Bool} : ∀ (cs : List AV) (seen : List Nat) (j i i' s : Nat), renS N live seen j cs i = some s → renS N live seen j cs i' = some s → i = i'
 | [], seen, j, i, i', s, h, _ => by simp [renS] at h
 | x :: l, seen, j, i, i', s, h, h' => by
  have h0 := h'
  unfold renS at h h'
  split at h
  ·cases ‹_ = []›
  ·rename_i s' e z es l' i1 heq
   obtain ⟨rfl, rfl⟩ := List.cons.inj heq
   simp only at h'
   split at h
   ·rename_i h1
    rw [if_pos h1] at h'
    exact renS_inj l _ _ _ _ _ h h'
   ·rename_i h1
    rw [if_neg h1] at h'
    split at h
    ·rename_i h2
     rw [if_pos h2] at h'
     split at h
     ·rename_i hij
      simp only [Option.some.injEq] at h
      split at h'
      ·rename_i hij'; rw [hij, hij']
      ·have := (renS_spec l _ _ _ _ h').2.2.2.2
       rw [h] at this
       exact absurd (List.mem_cons_self ..) this
     ·split at h'
      ·simp only [Option.some.injEq] at h'
       have := (renS_spec l _ _ _ _ h).2.2.2.2
       rw [h'] at this
       exact absurd (List.mem_cons_self ..) this
      ·exact renS_inj l _ _ _ _ _ h h'
    ·rename_i h2
     rw [if_neg h2] at h'
     exact renS_inj l _ _ _ _ _ h h'
  ·rename_i x' l' i1 hne heq
   obtain ⟨rfl, rfl⟩ := List.cons.inj heq
   rw [renS_other hne] at h0
   exact renS_inj l _ _ _ _ _ h h0
/-- The same up to a number, and the renamed behind it. -/
structure Cut (N : Nat) (g g2 : Gh) : Prop where
 vis : ∀ b, g.vis b ≤ g2.vis b
 box : ∀ r, r < N → g2.box r = g.box r
 own : ∀ r, r < N → g2.own r = g.own r
theorem Rel.slC {g g2 : Gh} {w : World} {o o2 : Own} {es : List (List AV)} {v : Value} (h : Rel g w (.sl o es) v) (hv : ∀ b, g.vis b ≤ g2.vis b) (hn : o = .nil ↔ o2 = .nil) (hx : o2 = .ex → o = .ex)
  (ho : ∀ s e z, o2 = .own s e z → ∃ s', o = .own s' e z ∧ g2.own s = g.own s') : Rel g2 w (.sl o2 (sanLL es)) v := by
 cases h with
 | nil => rw [hn.1 rfl]; exact .nil
 | sl o es a n cap sz f ho' hn' hcap hex hown hsz h1 ha hr =>
  refine .sl o2 (sanLL es) a n cap sz f (fun h => ho' (hn.2 h)) (by rw [length_sanLL]; exact hn') hcap (fun h => hex (hx h)) ?_ ?_ h1 ?_ ?_
  ·intro s e z hs
   obtain ⟨s', h2, h3⟩ := ho s e z hs
   obtain ⟨h4, b, h5, h6⟩ := hown s' e z h2
   exact ⟨h4, b, h5, by rw [h3]; exact h6⟩
  ·intro x hx
   rw [sanLL_map] at hx
   obtain ⟨y, hy, rfl⟩ := List.mem_map.1 hx
   rw [length_sanL]; exact hsz y hy
  ·intro h0
   obtain ⟨b, off, h4, h2, h3⟩ := ha h0
   exact ⟨b, off, h4, Nat.le_trans h2 (hv b), h3⟩
  ·intro i e j x he hx
   obtain ⟨e', he', rfl⟩ := getElem?_sanLL he
   obtain ⟨x', hx', rfl⟩ := getElem?_sanL hx
   exact (hr i e' j x' he' hx').san hv
theorem Rel.sanT {N : Nat} {g g2 : Gh} {w : World} {x : AV} {v : Value} (h : Rel g w x v) (c : Cut N g g2) : Rel g2 w (sanT N x) v := by
 unfold VA.sanT
 split
 ·rename_i s e z es
  split
  ·rename_i hs
   exact h.slC c.vis (by simp) (by simp) (fun s' e' z' hh => by simp at hh; obtain ⟨rfl, rfl, rfl⟩ := hh; exact ⟨s, rfl, c.own s hs⟩)
  ·exact h.slC c.vis (by simp) (by simp) (fun s' e' z' hh => by cases hh)
 ·rename_i o es hno
  exact h.slC c.vis Iff.rfl (fun h => h) (fun s e z hh => absurd hh (hno s e z))
 ·rename_i r off
  split
  ·rename_i hr
   cases h with | ptr r off b hb => exact .ptr r off b (by rw [c.box r hr]; exact hb)
  ·exact .bad _
 ·rename_i r
  split
  ·rename_i hr
   cases h with | mp r b hb => exact .mp r b (by rw [c.box r hr]; exact hb)
  ·exact .bad _
 ·rename_i r lo n sz
  split
  ·rename_i hr
   cases h with | ar _ _ _ _ b cap m off c0 e hb ho hn hc hoff => exact .ar r lo n sz b cap m off c0 e (by rw [c.box r hr]; exact hb) (by rw [c.own r hr]; exact ho) hn hc hoff
  ·exact .bad _
 ·exact h.san c.vis
theorem RelL.sanT {N : Nat} {g g2 : Gh} {w : World} {cs : List AV} {vs : List Value} (h : RelL g w cs vs) (c : Cut N g g2) : RelL g2 w (cs.map (VA.sanT N)) vs := by
 refine ⟨by simp [h.1], fun i x v hx hv => ?_⟩
 rw [List.getElem?_map] at hx
 obtain ⟨y, hy, rfl⟩ := Option.map_eq_some_iff.1 hx
 exact (h.2 i y v hy hv).sanT c
theorem renC_len (N : Nat) (live : Nat → Bool) : ∀ (cs : List AV) (seen : List Nat) (j : Nat), (VA.renC N live seen j cs).length = cs.length
 | [], _, _ => rfl
 | x :: l, seen, j => by
  unfold VA.renC
  split
  ·cases ‹_ = []›
  ·rename_i s e z es l' heq
   obtain ⟨rfl, rfl⟩ := List.cons.inj heq
   split
   ·simp [renC_len N live l]
   ·split
    ·simp [renC_len N live l]
    ·simp [renC_len N live l]
  ·rename_i x' l' hne heq
   obtain ⟨rfl, rfl⟩ := List.cons.inj heq
   simp [renC_len N live l]
theorem RelL.renC {N : Nat} {live : Nat → Bool} {g g2 : Gh} {w : World} (c : Cut N g g2) : ∀ (cs : List AV) (vs : List Value) (seen : List Nat) (j : Nat), RelL g w cs vs →
  (∀ i s, renS N live seen j cs i = some s → g2.own (N + i) = g.own s) → RelL g2 w (VA.renC N live seen j cs) vs
 | [], vs, seen, j, h, _ => by
  cases vs with
  | nil => exact RelL.nil _ _
  | cons v vs => exact absurd h.1 (by simp)
 | x :: l, vs, seen, j, h, ho => by
  cases vs with
  | nil => exact absurd h.1 (by simp)
  | cons v vs =>
   unfold VA.renC
   unfold renS at ho
   split
   ·cases ‹_ = []›
   ·rename_i s e z es l' heq
    obtain ⟨rfl, rfl⟩ := List.cons.inj heq
    simp only at ho
    split
    ·rename_i hs
     simp only [if_pos hs] at ho
     exact RelL.cons (h.head.slC c.vis (by simp) (by simp) (fun s' e' z' hh => by simp at hh; obtain ⟨rfl, rfl, rfl⟩ := hh; exact ⟨s, rfl, c.own s hs⟩)) (RelL.renC c l vs _ _ h.tail ho)
    ·rename_i hs
     simp only [if_neg hs] at ho
     split
     ·rename_i h2
      simp only [if_pos h2] at ho
      refine RelL.cons (h.head.slC c.vis (by simp) (by simp) (fun s' e' z' hh => by
       simp at hh; obtain ⟨rfl, rfl, rfl⟩ := hh
       exact ⟨s, rfl, ho j s (by rw [if_pos rfl])⟩)) (RelL.renC c l vs _ _ h.tail fun i s' hi => ho i s' ?_)
      have := (renS_spec l _ _ _ _ hi).1
      rw [if_neg (by omega)]; exact hi
     ·rename_i h2
      simp only [if_neg h2] at ho
      exact RelL.cons (h.head.slC c.vis (by simp) (by simp) (fun s' e' z' hh => by cases hh)) (RelL.renC c l vs _ _ h.tail ho)
   ·rename_i x' l' hne heq
    obtain ⟨rfl, rfl⟩ := List.cons.inj heq
    refine RelL.cons (h.head.sanT c) (RelL.renC c l vs _ _ h.tail fun i s hi => ho i s ?_)
    split
    ·cases ‹_ = []›
    ·rename_i s2 e2 z2 es2 l2 i2 heq2
     obtain ⟨rfl, rfl⟩ := List.cons.inj heq2
     exact absurd rfl (hne _ _ _ _)
    ·rename_i heq2; obtain ⟨_, rfl⟩ := List.cons.inj heq2; exact hi
/-- What meant something ahead, means the same without the new names. -/
theorem Rel.keep {N : Nat} {g0 g g2 : Gh} {w0 w : World} {x : AV} {v v0 : Value} (h : Rel g w x v) (c : Cut N g g2) (ht : Top g0 N) (h0 : Rel g0 w0 x v0) : Rel g2 w x v := by
 have lt : ∀ r b, g0.box r = some b → r < N := fun r b h => by
  apply Classical.byContradiction; intro hh
  rw [(ht r (by omega)).1] at h; cases h
 have lt2 : ∀ r b, g0.own r = some b → r < N := fun r b h => by
  apply Classical.byContradiction; intro hh
  rw [(ht r (by omega)).2] at h; cases h
 induction h generalizing v0 with
 | bad v => exact .bad v
 | lit v => exact .lit v
 | nil => exact .nil
 | sl o es a n cap sz f ho hn hcap hex hown hsz h1 ha hr ih =>
  cases h0 with
  | nil => exact absurd rfl ho
  | sl o es a' n' cap' sz' f' ho' hn' hcap' hex' hown' hsz' h1' ha' hr' =>
   refine .sl o es a n cap sz f ho hn hcap hex ?_ hsz h1 ?_ ?_
   ·intro s e z hs
    obtain ⟨h4, b, h2, h3⟩ := hown s e z hs
    obtain ⟨_, b', _, h3'⟩ := hown' s e z hs
    exact ⟨h4, b, h2, by rw [c.own s (lt2 s _ h3')]; exact h3⟩
   ·intro h0
    obtain ⟨b, off, h4, h2, h3⟩ := ha h0
    exact ⟨b, off, h4, Nat.le_trans h2 (c.vis b), h3⟩
   ·intro i e j x he hx
    exact ih i e j x he hx (hr' i e j x he hx)
 | ptr r off b h => cases h0 with | ptr r off b' h' => exact .ptr r off b (by rw [c.box r (lt r _ h')]; exact h)
 | ep cs b off f hv hc hr ih =>
  cases h0 with
  | ep cs b' off' f' hv' hc' hr' => exact .ep cs b off f (Nat.le_trans hv (c.vis b)) hc (fun j x hx => ih j x hx (hr' j x hx))
 | fn fid caps vs hl hr ih =>
  cases h0 with
  | fn fid caps vs' hl' hr' =>
   refine .fn fid caps vs hl (fun i x v hx hv => ?_)
   have hi : i < vs'.size := by have := (List.getElem?_eq_some_iff.1 hx).1; omega
   exact ih i x v hx hv (hr' i x _ hx (Array.getElem?_eq_getElem hi))
 | bf fid bs vs hl hr ih =>
  cases h0 with
  | bf fid bs vs' hl' hr' =>
   refine .bf fid bs vs hl (fun i x v hx hv => ?_)
   have hi : i < vs'.size := by have := (List.getElem?_eq_some_iff.1 hx).1; omega
   exact ih i x v hx hv (hr' i x _ hx (Array.getElem?_eq_getElem hi))
 | ifc t x v h ih => cases h0 with | ifc t x v' h' => exact .ifc t x v (ih h')
 | mp r b h => cases h0 with | mp r b' h' => exact .mp r b (by rw [c.box r (lt r _ h')]; exact h)
 | ar r lo n sz b cap m off c0 e h ho hn hc hoff => cases h0 with | ar r lo n sz b' cap' m' off' c1 e' h' ho' hn' hc' hoff' => exact .ar r lo n sz b cap m off c0 e (by rw [c.box r (lt r _ h')]; exact h) (by rw [c.own r (lt r _ h')]; exact ho) hn hc hoff
 | agg cs vs hl hr ih =>
  cases h0 with
  | agg cs vs' hl' hr' =>
   refine .agg cs vs hl (fun i x v hx hv => ?_)
   have hi : i < vs'.size := by have := (List.getElem?_eq_some_iff.1 hx).1; omega
   exact ih i x v hx hv (hr' i x _ hx (Array.getElem?_eq_getElem hi))
 | tup cs vs hl hr ih =>
  cases h0 with
  | tup cs vs' hl' hr' =>
   refine .tup cs vs hl (fun i x v hx hv => ?_)
   have hi : i < vs'.size := by have := (List.getElem?_eq_some_iff.1 hx).1; omega
   exact ih i x v hx hv (hr' i x _ hx (Array.getElem?_eq_getElem hi))
theorem RelL.keep {N : Nat} {g0 g g2 : Gh} {w0 w : World} {cs : List AV} {vs vs0 : List Value} (h : RelL g w cs vs) (c : Cut N g g2) (ht : Top g0 N) (h0 : RelL g0 w0 cs vs0) : RelL g2 w cs vs := by
 refine ⟨h.1, fun i x v hx hv => ?_⟩
 have hi : i < vs0.length := by rw [← h0.1]; exact (List.getElem?_eq_some_iff.1 hx).1
 exact (h.2 i x v hx hv).keep c ht (h0.2 i x _ hx (List.getElem?_eq_getElem hi))
theorem trim_past {g g' : Gh} {H H' : Heap} {w w' : World} (hi : Inv g H w) (ht : Top g H.next) (hp : Past H.next g w g' H' w') (R : Option Nat) :
  ∃ g2, Past H.next g w g2 (trimH H H' R) w' ∧ ∀ b, g'.vis b ≤ g2.vis b := by
 generalize hN : H.next = N at *
 let g2 : Gh := { g' with box := fun k => if k < N then g'.box k else none, own := fun k => if k < N then g'.own k else (trimS H H' R (k - N)).bind g'.own }
 have c : Cut N g' g2 := ⟨fun _ => Nat.le_refl _, fun r hr => by simp [g2, hr], fun r hr => by simp [g2, hr]⟩
 have hx := hp.ext
 have he : Ext g w g2 w' := ⟨hx.lo, hx.os, hx.tape, hx.output, hx.size, hx.low, hx.lowv, hx.vis, hx.cell, fun r b hb => by
   have hr : r < N := by apply Classical.byContradiction; intro hh; rw [(ht r (by omega)).1] at hb; cases hb
   rw [c.box r hr]; exact hx.box r b hb, fun s x hs => by
   have hr : s < N := by apply Classical.byContradiction; intro hh; rw [(ht s (by omega)).2] at hs; cases hs
   rw [c.own s hr]; exact hx.own s x hs, hx.cond⟩
 -- which name a name behind had
 have hS : ∀ i s, trimS H H' R i = some s → N ≤ s ∧ H'.isLive s = true ∧ i < 64 ∧ g2.own (N + i) = g'.own s := by
  intro i s h
  have h' := h
  unfold trimS at h
  cases R with
  | none => cases h
  | some r =>
   simp only at h
   split at h
   ·cases hg : H'.get r with
    | none => rw [hg] at h; cases h
    | some cs =>
     rw [hg] at h
     simp only [Option.bind_some, hN] at h
     obtain ⟨_, h2, h3, h4, _⟩ := renS_spec cs _ _ _ _ h
     refine ⟨h3, h4, h2, ?_⟩
     simp only [g2]
     rw [if_neg (by omega), Nat.add_sub_cancel_left, h']
     rfl
   ·cases h
 have hSi : ∀ i i' s, trimS H H' R i = some s → trimS H H' R i' = some s → i = i' := by
  intro i i' s h h'
  unfold trimS at h h'
  cases R with
  | none => cases h
  | some r =>
   simp only at h h'
   split at h
   ·rename_i hc
    rw [if_pos hc] at h'
    cases hg : H'.get r with
    | none => rw [hg] at h; cases h
    | some cs =>
     rw [hg] at h h'
     exact renS_inj cs _ _ _ _ _ h h'
   ·cases h
 have hlow : ∀ k, N ≤ k → ∀ ks vs, H.ho k ≠ some (.mpo ks vs) := by
  intro k hk ks vs ho
  obtain ⟨b, _, _, h1, _⟩ := hi.map k ks vs (HO.pairs_some.2 ho)
  rw [(ht k hk).1] at h1; cases h1
 have hll : ∀ k, N ≤ k → H.isLive k = false := by
  intro k hk
  cases hl : H.isLive k with
  | false => rfl
  | true => obtain ⟨b, n, cap, e, sz, vs, h1, _⟩ := hi.live k hl; rw [(ht k hk).2] at h1; cases h1
 -- what lives behind
 have hL : ∀ k, (trimH H H' R).isLive k = true → ∃ s, H'.isLive s = true ∧ g2.own k = g'.own s ∧ (k < N ∧ s = k ∨ N ≤ k ∧ trimS H H' R (k - N) = some s) := by
  intro k hk
  have hk' : (if k < H.next then H'.live k else if (trimS H H' R (k - H.next)).isSome then true else H.live k) = true := hk
  rw [hN] at hk'
  split at hk'
  ·rename_i h1; exact ⟨k, hk', c.own k h1, .inl ⟨h1, rfl⟩⟩
  ·rename_i h1
   cases hs : trimS H H' R (k - N) with
   | none => rw [hs] at hk'; have := hll k (by omega); simp only [Option.isSome_none] at hk'; rw [Heap.isLive] at this; rw [this] at hk'; cases hk'
   | some s =>
    obtain ⟨h2, h3, _, h4⟩ := hS _ _ hs
    exact ⟨s, h3, by rw [← h4]; congr 1; omega, .inr ⟨by omega, rfl⟩⟩
 have hv := hp.inv
 have hlv : ∀ r, r < N → ((trimH H H' R).ho r).isSome = true → (H'.ho r).isSome = true := by
  intro r hrN h
  simp only [trimH] at h
  rw [if_pos (by omega)] at h
  split at h
  ·rename_i heq; rw [heq]; exact h
  ·cases ho : H'.ho r with
   | none => rw [ho] at h; cases h
   | some o => rfl
 refine ⟨g2, ⟨he, ⟨hv.lo, hv.fresh, ?_, ?_, ?_, ?_, ?_, ?_, ?_, ?_, hv.cond⟩, ?_, ?_, ?_⟩, fun _ => Nat.le_refl _⟩
 ·intro r b hb
  simp only [g2] at hb
  split at hb
  ·exact hv.boxS r b hb
  ·cases hb
 ·intro r b hl hb
  simp only [g2] at hb
  split at hb
  ·rename_i hrN; exact hv.boxB r b (hlv r hrN hl) hb
  ·cases hb
 ·intro r r' b l1 l2 h1 h2
  simp only [g2] at h1 h2
  split at h1
  ·rename_i hrN
   split at h2
   ·rename_i hrN'; exact hv.boxI r r' b (hlv r hrN l1) (hlv r' hrN' l2) h1 h2
   ·cases h2
  ·cases h1
 ·intro r cs b hr hb2
  have hr' := HO.cells_some.1 hr
  have hrN : r < N := by
   apply Classical.byContradiction
   intro hh
   simp only [g2] at hb2
   rw [if_neg hh] at hb2
   cases hb2
  have h1 : g'.box r = some b := by rw [← c.box r hrN]; exact hb2
  simp only [trimH] at hr'
  split at hr'
  · 
   split at hr'
   ·rename_i heq
    obtain ⟨vs, t, h2, h3⟩ := hv.box r cs b (HO.cells_some.2 (heq.trans hr')) h1
    obtain ⟨vs0, t0, k2, k3⟩ := hi.box r cs b (HO.cells_some.2 hr') (by rw [← (hp.new r hrN).1]; exact h1)
    exact ⟨vs, t, h2, h3.keep c ht k3⟩
   ·rename_i hneq
    cases ho : H'.ho r with
    | none => rw [ho] at hr'; cases hr'
    | some o =>
     cases o with
     | mpo ks vs => rw [ho] at hr'; cases hr'
     | bx ds =>
      obtain ⟨vs, t, h2, h3⟩ := hv.box r ds b (HO.cells_some.2 ho) h1
      rw [ho] at hr'
      simp only [trimO, Option.some.injEq, HO.bx.injEq] at hr'
      refine ⟨vs, t, h2, ?_⟩
      cases hR : (R == some r) with
      | false => rw [hR] at hr'; rw [← hr', hN]; simpa using h3.sanT c
      | true =>
       rw [hR] at hr'
       rw [← hr', hN]
       rw [renC_len]
       refine RelL.renC c ds _ _ _ h3 (fun i s hs => ?_)
       have hRr : R = some r := by simpa using hR
       refine (hS i s ?_).2.2.2
       subst hRr
       simp only [trimS, hN]
       rw [if_pos ⟨by rw [hN]; exact hrN, hneq⟩, show H'.get r = some ds from HO.cells_some.2 ho]
       exact hs
  ·rename_i hrN'
   rw [hN] at hrN'
   exact absurd hrN hrN'
 ·intro k hk
  obtain ⟨s, h1, h2, _⟩ := hL k hk
  obtain ⟨b, n, cap, e, sz, vs, q1, q2, q3, q4, q5, q6, q7, q8⟩ := hv.live s h1
  refine ⟨b, n, cap, e, sz, vs, by rw [h2]; exact q1, q2, q3, q4, q5, q6, q7, fun r hl hr => ?_⟩
  simp only [g2] at hr
  split at hr
  ·rename_i hrN; exact q8 r (hlv r hrN hl) hr
  ·cases hr
 ·intro k k' b x y hk hk' h1 h2
  obtain ⟨s, a1, a2, a3⟩ := hL k hk
  obtain ⟨s', b1, b2, b3⟩ := hL k' hk'
  rw [a2] at h1
  rw [b2] at h2
  have hss := hv.liveI s s' b x y a1 b1 h1 h2
  subst hss
  rcases a3 with ⟨a3, a4⟩ | ⟨a3, a4⟩ <;> rcases b3 with ⟨b3, b4⟩ | ⟨b3, b4⟩
  ·omega
  ·have := (hS _ _ b4).1; omega
  ·have := (hS _ _ a4).1; omega
  ·have := hSi _ _ _ a4 b4; omega
 ·intro r ks vs hr
  have hr' := HO.pairs_some.1 hr
  simp only [trimH] at hr'
  split at hr'
  ·rename_i hrN
   rw [hN] at hrN
   split at hr'
   ·rename_i heq
    obtain ⟨b, es, ck, h1, h2, h3, h4⟩ := hv.map r ks vs (HO.pairs_some.2 (heq.trans hr'))
    obtain ⟨b0, es0, ck0, k1, k2, k3, k4⟩ := hi.map r ks vs (HO.pairs_some.2 hr')
    exact ⟨b, es, ck, by rw [c.box r hrN]; exact h1, h2, h3.keep c ht k3, h4.keep c ht k4⟩
   ·cases ho : H'.ho r with
    | none => rw [ho] at hr'; cases hr'
    | some o =>
     cases o with
     | bx ds => rw [ho] at hr'; simp [trimO] at hr'
     | mpo ks' vs' =>
      obtain ⟨b, es, ck, h1, h2, h3, h4⟩ := hv.map r ks' vs' (HO.pairs_some.2 ho)
      rw [ho] at hr'
      simp only [trimO, Option.some.injEq, HO.mpo.injEq] at hr'
      obtain ⟨rfl, rfl⟩ := hr'
      rw [hN]
      exact ⟨b, es, ck, by rw [c.box r hrN]; exact h1, h2, h3.sanT c, h4.sanT c⟩
  ·rename_i hrN
   rw [hN] at hrN
   exact absurd hr' (hlow r (by omega) _ _)
 ·intro r b n cap e sz a1 a2 a3
  simp only [g2] at a2
  split at a2
  ·rename_i hrN
   simp only [g2, if_pos hrN] at a3
   refine hv.arr r b n cap e sz ?_ a2 a3
   cases hg : (trimH H H' R).get r with
   | none => rw [hg] at a1; cases a1
   | some cs =>
    have hr' := HO.cells_some.1 hg
    simp only [trimH] at hr'
    rw [if_pos (by omega)] at hr'
    split at hr'
    ·rename_i heq
     rw [show H'.get r = some cs from HO.cells_some.2 (heq.trans hr')]; rfl
    ·cases ho : H'.ho r with
     | none => rw [ho] at hr'; cases hr'
     | some o =>
      cases o with
      | mpo ks vs => rw [ho] at hr'; simp [trimO] at hr'
      | bx ds => rw [show H'.get r = some ds from HO.cells_some.2 ho]; rfl
  ·cases a2
 ·intro k hk
  have hk2 : N + 64 ≤ k := by have : (trimH H H' R).next = H.next + 64 := rfl; omega
  refine ⟨by simp only [g2]; rw [if_neg (by omega)], ?_⟩
  simp only [g2]
  rw [if_neg (by omega)]
  cases hs : trimS H H' R (k - N) with
  | none => rfl
  | some s => have := (hS _ _ hs).2.2.1; omega
 ·intro r hr
  exact ⟨by rw [c.box r hr]; exact (hp.new r hr).1, by rw [c.own r hr]; exact (hp.new r hr).2⟩
 ·show N ≤ (trimH H H' R).next
  have : (trimH H H' R).next = H.next + 64 := rfl
  omega
end Go.Proofs.YtnoahchdmkpleaaGreat.VA

/-! Vb8 -/
namespace Go.Proofs.YtnoahchdmkpleaaGreat.VA
open Go Go.RowKit
set_option linter.unusedSimpArgs false

/-- What is asked of a function that is told outright. -/
def ToldOk (P : Program) (C : Cond) (f : FuncId) (h : List AV → Option AV) : Prop :=
 (∀ vs w, (callFunc f vs).run P w = .ok (.enter f vs) w) ∧
 ∀ args v, h args = some v → ∀ g H w (vs : Array Value), g.cond = C → Inv g H w → RelL g w args vs.toList →
  Calls P f vs w fun en w' => ∃ u g', en = .returned u ∧ Ext g w g' w' ∧ Inv g' H w' ∧ g'.box = g.box ∧ g'.own = g.own ∧ Rel g' w' v u
/-- What is asked of a function that is told, with what it does to memory. -/
def TolHOk (P : Program) (C : Cond) (f : FuncId) (h : List AV → Heap → Option (AV × List U)) : Prop :=
 (∀ vs w, (callFunc f vs).run P w = .ok (.enter f vs) w) ∧
 ∀ args H v us, h args H = some (v, us) → ∀ g w (vs : Array Value), g.cond = C → Inv g H w → Top g H.next → RelL g w args vs.toList →
  Calls P f vs w fun en w' => ∃ u g', en = .returned u ∧ Past H.next g w g' (appU { H with next := H.next + 1 } us) w' ∧ Rel g' w' v u
structure CfgOk (P : Program) (C : Cond) (c : Cfg) : Prop where
 mixed : P.follows .mixedOrders = true
 fn : ∀ f fn, c.fn f = some fn → P.funcs[f]? = some fn ∧ (fn.name == "runtime.NumGoroutine") = false ∧ ∀ code, fn.body = some code → codeOk fn.ntmps code = true
 told : ∀ f h, c.told f = some h → ToldOk P C f h
 tolH : ∀ f h, c.tolH f = some h → TolHOk P C f h := by intro f h hh; cases hh
theorem callFunc_enter {P : Program} {f : FuncId} {fn : Func} {code : Code} (hf : P.funcs[f]? = some fn) (hn : (fn.name == "runtime.NumGoroutine") = false) (hb : fn.body = some code) (vs : Array Value) (w : World) :
  (callFunc f vs).run P w = .ok (.enter f vs) w := by
 have hn' : ¬ fn.name = "runtime.NumGoroutine" := by simpa using hn
 simp [callFunc, hf, hn', hb]
theorem env_init {g : Gh} {w : World} {args : List AV} {vs : Array Value} (h : RelL g w args vs.toList) (m : Nat) : EnvRel g w args (vs ++ Array.replicate m undef) := by
 have hget : ∀ (l : List AV) (i : Nat), gget .bad l i = (l[i]?).getD .bad := by
  intro l
  induction l with
  | nil => intro i; simp [gget]
  | cons x l ih => intro i; cases i with | zero => rfl | succ i => simpa [gget] using ih i
 intro i
 rw [hget]
 by_cases hi : i < args.length
 ·have hlen : args.length = vs.size := by simpa using h.1
  have hx : args[i]? = some args[i] := by simp [hi]
  rw [hx]
  refine h.2 i _ _ hx ?_
  simp only [Array.getD_eq_getD_getElem?]
  rw [Array.getElem?_append_left (by omega)]
  simp [show i < vs.size by omega]
 ·rw [List.getElem?_eq_none (by omega)]
  exact .bad _
theorem runFn_sound {P : Program} {C : Cond} {K : Calling} {imp : FuncId → Bool} (hK : KOk P C K imp) (hm : P.follows .mixedOrders = true) {f : FuncId} {fn : Func} (hf : P.funcs[f]? = some fn) (hc : ∀ code, fn.body = some code → codeOk fn.ntmps code = true)
  {k : Nat} {args : List AV} {H : Heap} {r : CR} {o : AV → AV} (hro : ∀ (g : Gh) (w : World) (x : AV) (v : Value), Rel g w x v → Rel g w (o x) v) (h : runFn P K imp k fn args H o = some r) {g : Gh} {w : World} {vs : Array Value} (hC : g.cond = C) (hi : Inv g H w) (ht : Top g H.next) (hr : RelL g w args vs.toList) :
  (∃ code, fn.body = some code) ∧ Calls P f vs w (CPost g H.next w r) := by
 unfold runFn at h
 split at h
 ·cases h
 ·rename_i code hb
  refine ⟨⟨code, hb⟩, ?_⟩
  split at h
  ·rename_i hlen
   have hsz : (vs ++ Array.replicate (fn.ntmps - vs.size) undef).size = fn.ntmps := by
    have := hr.1
    simp at this
    simp
    omega
   refine calls_of_wp hf hb ?_
   cases hx : exec P K imp k code args H with
   | none => rw [hx] at h; cases h
   | some res =>
    obtain ⟨ex, e, H'⟩ := res
    rw [hx] at h
    refine (exec_sound hK hm k code args H ex e H' hx (hc code hb) g { tmps := vs ++ Array.replicate (fn.ntmps - vs.size) undef, defers := [] } w hC hi (env_init hr _) hsz ht _ ?_).1
    intro g' x a' w' hp hd hs hrel
    have fin : ∀ vs', aResults P e H' fn.results.toList = some vs' → EnvRel g' w' e a'.tmps → r = .ret (o (oneOr vs')) H' →
      a'.defers = [] ∧ ∃ v, (results fn a'.tmps).run P w' = .ok v w' ∧ CPost g H.next w r (.returned v) w' := by
     intro vs' h1 h2 h3
     obtain ⟨u, q1, q2⟩ := results_sound h1 hp.inv h2
     refine ⟨hd.1, u, q1, ?_⟩
     subst h3
     exact ⟨u, g', rfl, hp, hro _ _ _ _ q2⟩
    cases ex with
    | nrm =>
     simp only at h
     split at h
     ·rename_i vs' hv
      simp only [Option.some.injEq] at h
      obtain ⟨rfl, hen⟩ := hrel
      exact fin vs' hv hen h.symm
     ·cases h
    | ret =>
     simp only at h
     split at h
     ·rename_i vs' hv
      simp only [Option.some.injEq] at h
      obtain ⟨rfl, hen⟩ := hrel
      exact fin vs' hv hen h.symm
     ·cases h
    | exit id => cases h
    | pan v =>
     simp only [Option.some.injEq] at h
     subst h
     obtain ⟨u, rfl, hu⟩ := hrel
     exact ⟨hd.1, u, g', rfl, hp, hu.san (fun _ => Nat.le_refl _)⟩
  ·cases h
/-- What a call without the caller's own memory sees. -/
def Gh.sub (g : Gh) (w : World) : Gh := { lo := w.heap.size, vis := g.vis, box := fun _ => none, own := fun _ => none, cond := g.cond }
/-- A call without the caller's own memory, seen by the caller. -/
theorem pure_core {g g' : Gh} {H H' : Heap} {w w' : World} (hi : Inv g H w) (hp : Past 0 (g.sub w) w g' H' w') (vis : Nat → Nat) (v1 : ∀ b, g'.vis b ≤ vis b) (v2 : ∀ b, b < w.heap.size → vis b = g'.vis b)
  (v3 : ∀ b, w'.heap.size ≤ b → vis b = 0) : Ext g w { g with vis := vis } w' ∧ Inv { g with vis := vis } H w' := by
 have hx := hp.ext
 have hsame : ∀ b, b < w.heap.size → w'.heap[b]? = w.heap[b]? := hx.low
 have hvis : ∀ b, b < w.heap.size → vis b = g.vis b := fun b hb => (v2 b hb).trans (hx.lowv b hb)
 have he : Ext g w { g with vis := vis } w' :=
  ⟨rfl, hx.os, hx.tape, hx.output, hx.size, fun b hb => hsame b (Nat.lt_of_lt_of_le hb hi.lo), fun b hb => hvis b (Nat.lt_of_lt_of_le hb hi.lo), fun b => Nat.le_trans (hx.vis b) (v1 b), hx.cell, fun _ _ h => h, fun _ _ h => h, rfl⟩
 refine ⟨he, ⟨Nat.le_trans hi.lo hx.size, v3, fun r b hb => ⟨(hi.boxS r b hb).1, Nat.lt_of_lt_of_le (hi.boxS r b hb).2 hx.size⟩, ?_, hi.boxI, ?_, ?_, hi.liveI, ?_, ?_, he.holds hi.cond⟩⟩
 ·intro r b hl hb
  rw [← hi.boxB r b hl hb]; exact hvis b (hi.boxS r b hb).2
 ·intro r cs b hr h1
  obtain ⟨vs, t, h2, h3⟩ := hi.box r cs b hr h1
  exact ⟨vs, t, by rw [hsame b (hi.boxS r b h1).2]; exact h2, h3.ext he⟩
 ·intro s hs
  obtain ⟨b, n, cap, e, sz, vs, h1, h2, h3, h4, h5, h6, h7, h8⟩ := hi.live s hs
  have hlt : b < w.heap.size := (Array.getElem?_eq_some_iff.1 h3).1
  exact ⟨b, n, cap, e, sz, vs, h1, h2, by rw [hsame b hlt]; exact h3, h4, h5, h6, by rw [← h7]; exact hvis b hlt, h8⟩
 ·intro r ks vs hr
  obtain ⟨b, es, ck, h1, h2, h3, h4⟩ := hi.map r ks vs hr
  exact ⟨b, es, ck, h1, by rw [hsame b (hi.boxS r b h1).2]; exact h2, h3.ext he, h4.ext he⟩
 ·intro r b n cap e sz a1 a2 a3
  obtain ⟨q1, vs, q2, q3⟩ := hi.arr r b n cap e sz a1 a2 a3
  exact ⟨q1, vs, by rw [hsame b (hi.boxS r b a2).2]; exact q2, q3⟩
theorem pure_back_vis {g g' : Gh} {H H' : Heap} {w w' : World} (hi : Inv g H w) (ht : Top g H.next) (hp : Past 0 (g.sub w) w g' H' w') (vis : Nat → Nat) (v1 : ∀ b, g'.vis b ≤ vis b) (v2 : ∀ b, b < w.heap.size → vis b = g'.vis b)
  (v3 : ∀ b, w'.heap.size ≤ b → vis b = 0) : Past H.next g w { g with vis := vis } H w' :=
 ⟨(pure_core hi hp vis v1 v2 v3).1, (pure_core hi hp vis v1 v2 v3).2, ht, fun _ _ => ⟨rfl, rfl⟩, Nat.le_refl _⟩
theorem pure_back {g g' : Gh} {H H' : Heap} {w w' : World} (hi : Inv g H w) (ht : Top g H.next) (hp : Past 0 (g.sub w) w g' H' w') :
  Past H.next g w { g with vis := g'.vis } H w' := pure_back_vis hi ht hp g'.vis (fun _ => Nat.le_refl _) (fun _ _ => rfl) hp.inv.fresh
open Classical in
/-- What may be seen when the arrays are read out. -/
noncomputable def visF (g : Gh) (H : Heap) (b : Nat) : Nat :=
 if h : ∃ n, ∃ r m cap e sz, (H.get r).isSome = true ∧ g.box r = some b ∧ g.own r = some (b, m, cap, e, sz) ∧ n = cap * sz then max (g.vis b) h.choose else g.vis b
theorem visF_le (g : Gh) (H : Heap) (b : Nat) : g.vis b ≤ visF g H b := by
 unfold visF; split <;> omega
theorem visF_ar {g : Gh} {H : Heap} {w : World} (hi : Inv g H w) {r b m cap sz : Nat} {e : TypeId} (h1 : (H.get r).isSome = true) (h2 : g.box r = some b) (h3 : g.own r = some (b, m, cap, e, sz)) : cap * sz ≤ visF g H b := by
 unfold visF
 have hex : ∃ n, ∃ r m cap e sz, (H.get r).isSome = true ∧ g.box r = some b ∧ g.own r = some (b, m, cap, e, sz) ∧ n = cap * sz := ⟨_, r, m, cap, e, sz, h1, h2, h3, rfl⟩
 rw [dif_pos hex]
 obtain ⟨r', m', cap', e', sz', k1, k2, k3, k4⟩ := hex.choose_spec
 obtain ⟨_, vs, q2, q3⟩ := hi.arr r b m cap e sz h1 h2 h3
 obtain ⟨_, vs', q2', q3'⟩ := hi.arr r' b m' cap' e' sz' k1 k2 k3
 rw [q2] at q2'
 simp only [Option.some.injEq, Obj.cells.injEq] at q2'
 have : vs = vs' := q2'.1
 subst this
 rw [k4]
 omega
theorem visF_other {g : Gh} {H : Heap} {b : Nat} (h : ∀ r, g.box r ≠ some b) : visF g H b = g.vis b := by
 unfold visF
 rw [dif_neg]
 rintro ⟨n, r, m, cap, e, sz, k1, k2, k3, k4⟩
 exact h r k2
theorem frzL_map (H : Heap) (l : List AV) : frzL H l = l.map (frz H) := by
 induction l with
 | nil => rfl
 | cons x l ih => simp [frzL, ih]
theorem Rel.frz {g : Gh} {H : Heap} {w : World} (hi : Inv g H w) {x : AV} {v : Value} (h : Rel g w x v) : Rel { g with vis := visF g H } w (VA.san (VA.frz H x)) v := by
 have low : ∀ {y : AV} {u : Value}, Rel g w y u → Rel { g with vis := visF g H } w (VA.san y) u := fun hr => hr.san (visF_le g H)
 induction h with
 | bad v => exact .bad v
 | lit v => exact .lit v
 | nil => exact low .nil
 | sl o es a n cap sz f ho hn hcap hex hown hsz h1 ha hr ih => exact low (.sl o es a n cap sz f ho hn hcap hex hown hsz h1 ha hr)
 | ptr r off b h => exact .bad _
 | ep cs b off f hv hc hr ih => exact low (.ep cs b off f hv hc hr)
 | fn fid caps vs hl hr ih => exact low (.fn fid caps vs hl hr)
 | bf fid bs vs hl hr ih => exact low (.bf fid bs vs hl hr)
 | ifc t x v h ih => exact low (.ifc t x v h)
 | mp r b h => exact .bad _
 | ar r lo n sz b cap m off c e h ho hn hc hoff =>
  simp only [VA.frz]
  split
  ·rename_i cs hcs
   split
   ·rename_i hcond
    obtain ⟨hle, hone⟩ := hcond
    obtain ⟨b', vs, t, q1, q2, q3⟩ := hi.boxE hcs h
    rw [h] at q1
    simp at q1; subst q1
    have hcl : cs.length ≤ vs.toList.length := by have := q3.1; rw [List.length_take] at this; omega
    have hadd := Nat.add_mul lo n sz
    have hval : ∀ k, k < n * sz → vs[lo * sz + k]? = some (vs.getD (lo * sz + k) undef) := fun k hk => by
     have : lo * sz + k < vs.size := by simp at hcl; omega
     simp [this]
    have hrk : ∀ k x, k < n * sz → cs[lo * sz + k]? = some x → Rel g w x (vs.getD (lo * sz + k) undef) := fun k x hk hx => by
     refine q3.2 (lo * sz + k) x _ hx ?_
     rw [List.getElem?_take_of_lt (by omega), Array.getElem?_toList]
     exact hval k hk
    simp only [VA.san]
    refine .sl .sh _ _ n c sz (fun k => vs.getD (lo * sz + k) undef) (by simp) (by rw [length_sanLL, chunk_length]) hn (by simp) (by simp) ?_ ?_ ?_ ?_
    ·intro x hx
     rw [sanLL_map] at hx
     obtain ⟨y, hy, rfl⟩ := List.mem_map.1 hx
     rw [length_sanL]
     obtain ⟨k, hk, rfl⟩ := List.getElem_of_mem hy
     obtain ⟨p1, p2⟩ := chunk_get sz n _ k _ (List.getElem?_eq_getElem hk)
     rw [p2, List.length_take, List.length_drop, List.length_drop]
     have := Nat.mul_le_mul_right sz (show k + 1 ≤ n by omega)
     rw [Nat.add_mul] at this
     omega
    ·intro k hk
     have hlt : lo * sz + k < cs.length := by omega
     exact (hrk k _ hk (List.getElem?_eq_getElem hlt)).one (List.all_eq_true.1 hone _ (List.getElem_mem hlt))
    ·intro h0
     have hof := hoff (by omega)
     refine ⟨b, off, rfl, ?_, fun k hk => ?_⟩
     ·have := visF_ar hi (by rw [hcs]; rfl) h ho
      have hb := Nat.mul_le_mul_right sz (show lo + n ≤ cap by omega)
      show off + n * sz ≤ visF g H b
      omega
     ·subst hof
      rw [cell_of_row w b (lo * sz + k) vs t (0, 0) q2]
      exact hval k hk
    ·intro i el j x hel hx
     obtain ⟨el', hel', rfl⟩ := getElem?_sanLL hel
     obtain ⟨x', hx', rfl⟩ := getElem?_sanL hx
     obtain ⟨p1, p2⟩ := chunk_get sz n _ i _ hel'
     subst p2
     rw [List.getElem?_take] at hx'
     split at hx'
     ·rename_i hj
      rw [List.getElem?_drop, List.getElem?_drop] at hx'
      have := Nat.mul_le_mul_right sz (show i + 1 ≤ n by omega)
      rw [Nat.add_mul] at this
      exact low (hrk (i * sz + j) x' (by omega) (by simpa only [Nat.add_assoc] using hx'))
     ·cases hx'
   ·exact .bad _
  ·exact .bad _
 | agg cs vs hl hr ih =>
  simp only [VA.frz, VA.san]
  refine .agg _ vs (by rw [length_sanL, frzL_map, List.length_map]; exact hl) fun i x v hx hv => ?_
  obtain ⟨x', hx', rfl⟩ := getElem?_sanL hx
  rw [frzL_map, List.getElem?_map] at hx'
  cases hc : cs[i]? with
  | none => simp [hc] at hx'
  | some y => simp [hc] at hx'; subst hx'; exact ih i y v hc hv
 | tup cs vs hl hr ih =>
  simp only [VA.frz, VA.san]
  refine .tup _ vs (by rw [length_sanL, frzL_map, List.length_map]; exact hl) fun i x v hx hv => ?_
  obtain ⟨x', hx', rfl⟩ := getElem?_sanL hx
  rw [frzL_map, List.getElem?_map] at hx'
  cases hc : cs[i]? with
  | none => simp [hc] at hx'
  | some y => simp [hc] at hx'; subst hx'; exact ih i y v hc hv
/-- A call without the caller's own memory, its arrays read out. -/
theorem pure_backF {g g' : Gh} {H H' : Heap} {w w' : World} (hi : Inv g H w) (ht : Top g H.next) (hp : Past 0 (g.sub w) w g' H' w') :
  Past H.next g w { g with vis := visF g' H' } H w' := by
 have hlo : g'.lo = w.heap.size := hp.ext.lo
 refine pure_back_vis hi ht hp _ (visF_le g' H') (fun b hb => visF_other fun r hr => ?_) (fun b hb => ?_)
 ·have := (hp.inv.boxS r b hr).1
  omega
 ·rw [visF_other fun r hr => ?_]
  ·exact hp.inv.fresh b hb
  ·have := (hp.inv.boxS r b hr).2
   omega
theorem inv_empty {g : Gh} {H : Heap} {w : World} (hi : Inv g H w) : Inv (g.sub w) Heap.empty w :=
 ⟨Nat.le_refl _, hi.fresh, (fun _ _ h => by cases h), (fun _ _ _ h => by cases h), (fun _ _ _ _ _ h => by cases h), (fun _ _ _ h => by simp at h), (fun _ h => by simp at h), (fun _ _ _ _ _ h => by simp at h), (fun _ _ _ h => by simp at h), (fun _ _ _ _ _ _ h => by simp at h), g.cond.stable hi.cond hi.lo (fun _ _ => rfl)⟩
mutual
theorem san_san : ∀ (x : AV), san (san x) = san x
 | .bad => rfl
 | .lit v => rfl
 | .sl o es => by simp only [san, sanLL_san es]
 | .ptr r o => rfl
 | .ep cs => by simp only [san, sanL_san cs]
 | .fn f cs => by simp only [san, sanL_san cs]
 | .bf f cs => by simp only [san, sanL_san cs]
 | .ifc t v => by simp only [san, san_san v]
 | .mp r => rfl
 | .ar _ _ _ _ => rfl
 | .agg cs => by simp only [san, sanL_san cs]
 | .tup cs => by simp only [san, sanL_san cs]
theorem sanL_san : ∀ (l : List AV), sanL (sanL l) = sanL l
 | [] => rfl
 | x :: l => by simp only [sanL, san_san x, sanL_san l]
theorem sanLL_san : ∀ (l : List (List AV)), sanLL (sanLL l) = sanLL l
 | [] => rfl
 | x :: l => by simp only [sanLL, sanL_san x, sanLL_san l]
end
theorem runFn_san {P : Program} {K : Calling} {imp : FuncId → Bool} {k : Nat} {fn : Func} {args : List AV} {H H' : Heap} {v : AV} (h : runFn P K imp k fn args H = some (.ret v H')) : san v = v := by
 unfold runFn at h
 split at h
 ·cases h
 ·split at h
  ·split at h
   ·cases h
   ·cases h
   ·split at h
    ·simp only [Option.some.injEq, CR.ret.injEq] at h
     rw [← h.1, san_san]
    ·cases h
   ·cases h
  ·cases h
theorem runFn_sanP {P : Program} {K : Calling} {imp : FuncId → Bool} {k : Nat} {fn : Func} {args : List AV} {H H' : Heap} {v : AV} (h : runFn P K imp k fn args H = some (.pan v H')) : san v = v := by
 unfold runFn at h
 split at h
 ·cases h
 ·split at h
  ·split at h
   ·simp only [Option.some.injEq, CR.pan.injEq] at h
    rw [← h.1, san_san]
   ·cases h
   ·split at h <;> cases h
   ·cases h
  ·cases h
theorem call_ok {P : Program} {C : Cond} {c : Cfg} (hc : CfgOk P C c) : ∀ k, KOk P C (call P c k) c.imp := by
 intro k
 induction k with
 | zero => exact ⟨fun f args H r h => by simp [call] at h, fun f args H r _ h => by simp [call] at h⟩
 | succ k ih =>
  constructor
  ·intro f args H r h g w vs hC hi ht hr
   simp only [call] at h
   split at h
   ·rename_i ht' htold
    split at h
    ·rename_i v hv
     simp only [Option.some.injEq] at h
     subst h
     obtain ⟨h1, h2⟩ := hc.told f ht' htold
     refine ⟨h1 vs w, (h2 _ v hv g H w vs hC hi (hr.san (fun _ => Nat.le_refl _))).mono fun en w' hpost => ?_⟩
     obtain ⟨u, g', rfl, q1, q2, q3, q4, q5⟩ := hpost
     exact ⟨u, g', rfl, ⟨q1, q2, fun r hr => by rw [q3, q4]; exact ht r hr, fun r _ => by rw [q3, q4]; exact ⟨rfl, rfl⟩, Nat.le_refl _⟩, q5⟩
    ·cases h
   ·split at h
    ·rename_i hh hth
     split at h
     ·rename_i v us hv
      simp only [Option.some.injEq] at h
      subst h
      have hth' : c.tolH f = some hh := by
       unfold Cfg.th at hth
       split at hth
       ·exact hth
       ·cases hth
      obtain ⟨h1, h2⟩ := hc.tolH f hh hth'
      refine ⟨h1 vs w, (h2 _ _ _ _ hv g w vs hC hi ht hr).mono fun en w' hpost => ?_⟩
      obtain ⟨u, g', rfl, hp, hrel⟩ := hpost
      exact ⟨u, g', rfl, hp, hrel⟩
     ·cases h
    ·split at h
     ·cases h
     ·rename_i fn hfn
      obtain ⟨hf, hname, hcode⟩ := hc.fn f fn hfn
      split at h
      ·unfold trimK at h
       split at h
       ·rename_i R _
        obtain ⟨r0, hr0, rfl⟩ := Option.map_eq_some_iff.1 h
        obtain ⟨⟨code, hb⟩, q⟩ := runFn_sound ih hc.mixed hf hcode (fun _ _ _ _ q => q.san (fun _ => Nat.le_refl _)) hr0 hC hi ht hr
        refine ⟨callFunc_enter hf hname hb vs w, q.mono fun en w' hpost => ?_⟩
        cases r0 with
        | ret v H' =>
         obtain ⟨u, g', rfl, hp, hrel⟩ := hpost
         obtain ⟨g2, k1, k2⟩ := trim_past hi ht hp (R args H)
         exact ⟨u, g2, rfl, k1, by rw [← runFn_san hr0]; exact hrel.san k2⟩
        | pan v H' =>
         obtain ⟨u, g', rfl, hp, hrel⟩ := hpost
         obtain ⟨g2, k1, k2⟩ := trim_past hi ht hp (R args H)
         exact ⟨u, g2, rfl, k1, by rw [← runFn_sanP hr0]; exact hrel.san k2⟩
       ·obtain ⟨⟨code, hb⟩, q⟩ := runFn_sound ih hc.mixed hf hcode (fun _ _ _ _ q => q.san (fun _ => Nat.le_refl _)) h hC hi ht hr
        exact ⟨callFunc_enter hf hname hb vs w, q⟩
      ·obtain ⟨⟨code, hb⟩, q⟩ := runFn_sound ih hc.mixed hf hcode (fun _ _ _ _ q => q) h hC hi ht hr
       exact ⟨callFunc_enter hf hname hb vs w, q⟩
      ·split at h
       ·rename_i v H' hrun
        simp only [Option.some.injEq] at h
        subst h
        obtain ⟨⟨code, hb⟩, q⟩ := runFn_sound ih hc.mixed hf hcode (fun _ _ _ _ q => q.san (fun _ => Nat.le_refl _)) hrun (g := g.sub w) hC (inv_empty hi) (fun _ _ => ⟨rfl, rfl⟩) (hr.san (g' := (g.sub w)) (fun _ => Nat.le_refl _))
        refine ⟨callFunc_enter hf hname hb vs w, q.mono fun en w' hpost => ?_⟩
        obtain ⟨u, g', rfl, hp, hrel⟩ := hpost
        refine ⟨u, _, rfl, pure_back hi ht hp, ?_⟩
        rw [← runFn_san hrun]
        exact hrel.san (fun _ => Nat.le_refl _)
       ·cases h
      ·split at h
       ·rename_i v H' hrun
        simp only [Option.some.injEq] at h
        subst h
        obtain ⟨⟨code, hb⟩, q⟩ := runFn_sound ih hc.mixed hf hcode (fun _ _ _ _ q => q) hrun (g := g.sub w) hC (inv_empty hi) (fun _ _ => ⟨rfl, rfl⟩) (hr.san (g' := (g.sub w)) (fun _ => Nat.le_refl _))
        refine ⟨callFunc_enter hf hname hb vs w, q.mono fun en w' hpost => ?_⟩
        obtain ⟨u, g', rfl, hp, hrel⟩ := hpost
        exact ⟨u, _, rfl, pure_backF hi ht hp, (hrel.frz hp.inv).san (g' := { g with vis := visF g' H' }) (fun _ => Nat.le_refl _) |> fun q => by rw [san_san] at q; exact q⟩
       ·cases h
  ·intro f args H r himp h
   simp only [call] at h ⊢
   have hth : c.th f = none := by simp only [Cfg.th, himp]
   split at h
   ·rename_i ht' htold
    split at h
    ·rename_i v hv
     simp only [Option.some.injEq] at h
     subst h
     exact ⟨v, rfl, fun H2 => by simp [htold, hv]⟩
    ·cases h
   ·rename_i htold
    simp only [hth] at h ⊢
    split at h
    ·cases h
    ·rename_i fn hfn
     cases ha : c.arr f with
     | false =>
      simp only [himp, ha] at h ⊢
      split at h
      ·rename_i v H' hrun
       simp only [Option.some.injEq] at h
       subst h
       exact ⟨v, rfl, fun H2 => by simp [htold, hfn, hrun]⟩
      ·cases h
     | true =>
      simp only [himp, ha] at h ⊢
      split at h
      ·rename_i v H' hrun
       simp only [Option.some.injEq] at h
       subst h
       exact ⟨_, rfl, fun H2 => by simp [htold, hfn, hrun]⟩
      ·cases h
end Go.Proofs.YtnoahchdmkpleaaGreat.VA

/-! Vb9 -/
namespace Go.Proofs.YtnoahchdmkpleaaGreat.VA
open Go Go.RowKit
set_option linter.unusedSimpArgs false

def KLe (K K' : Calling) : Prop := ∀ f args H r, K f args H = some r → K' f args H = some r
theorem runOps_mono {P : Program} {K K' : Calling} (hK : KLe K K') {ops : Array Oper} {base : Nat} : ∀ (os : List Oper) (i : Nat) (e : List AV) (H : Heap) (r : Ex × List AV × Heap),
  runOps P K ops base os i e H = some r → runOps P K' ops base os i e H = some r := by
 intro os
 induction os with
 | nil => intro i e H r h; exact h
 | cons o os ih =>
  intro i e H r h
  simp only [runOps] at h ⊢
  split at h
  ·cases h
  ·exact ih _ _ _ _ h
  ·split at h
   ·cases h
   ·exact ih _ _ _ _ h
   ·exact h
   ·rename_i f args hst
    cases hc : K f args H with
    | none => rw [hc] at h; cases h
    | some c =>
     rw [hc] at h
     rw [hK _ _ _ _ hc]
     cases c with
     | ret v H' => exact ih _ _ _ _ h
     | pan v H' => exact h
theorem runTr_mono {P : Program} {K K' : Calling} (hK : KLe K K') {imp : FuncId → Bool} {ops : Array Oper} {base : Nat} : ∀ (os : List Oper) (i : Nat) (pk : Option (Nat × AV × Heap)) (e : List AV) (H : Heap) (r : List Tr × Option (Nat × AV × Heap) × List AV × Heap),
  runTr P K imp ops base os i pk e H = some r → runTr P K' imp ops base os i pk e H = some r := by
 intro os
 induction os with
 | nil => intro i pk e H r h; exact h
 | cons o os ih =>
  intro i pk e H r h
  have next : ∀ {i : Nat} {pk : Option (Nat × AV × Heap)} {e : List AV} {H : Heap} {t0 : Tr} {r : List Tr × Option (Nat × AV × Heap) × List AV × Heap},
    (match runTr P K imp ops base os i pk e H with | some (tr, r) => some (t0 :: tr, r) | none => none) = some r →
    (match runTr P K' imp ops base os i pk e H with | some (tr, r) => some (t0 :: tr, r) | none => none) = some r := by
   intro i pk e H t0 r h
   cases hr : runTr P K imp ops base os i pk e H with
   | none => rw [hr] at h; cases h
   | some x => rw [ih _ _ _ _ _ hr]; rw [hr] at h; exact h
  simp only [runTr] at h ⊢
  by_cases hb : behind ops pk i = true
  ·rw [if_pos hb] at h ⊢
   exact next h
  ·rw [if_neg hb] at h ⊢
   split at h
   ·cases h
   ·exact next h
   ·split at h
    ·cases h
    ·split at h
     ·cases h
     ·rename_i hcc
      rw [if_neg hcc]
      exact next h
    ·split at h
     ·cases h
     ·rename_i hcc
      rw [if_neg hcc]
      exact next h
    ·rename_i f args hst
     split at h
     ·rename_i himp
      rw [if_pos himp]
      split at h
      ·cases h
      ·rename_i hcc
       rw [if_neg hcc]
       cases hc : K f args H with
       | none => rw [hc] at h; cases h
       | some c =>
        rw [hc] at h
        rw [hK _ _ _ _ hc]
        cases c with
        | ret v H' => exact next h
        | pan v H' => exact next h
     ·rename_i himp
      rw [if_neg himp]
      cases hc : K f args H with
      | none => rw [hc] at h; cases h
      | some c =>
       rw [hc] at h
       rw [hK _ _ _ _ hc]
       cases c with
       | ret v H' => exact next h
       | pan v H' => cases h
theorem runRegion_mono {P : Program} {K K' : Calling} (hK : KLe K K') {imp : FuncId → Bool} {ops : Array Oper} {d : Bool} {e : List AV} {H : Heap} {r : Ex × List AV × Heap}
  (h : runRegion P K imp ops d e H = some r) : runRegion P K' imp ops d e H = some r := by
 cases d with
 | false => exact runOps_mono hK _ _ _ _ _ h
 | true =>
  simp only [runRegion] at h ⊢
  cases hr : runTr P K imp ops H.next ops.toList 0 none e (startH P imp ops H) with
  | none => rw [hr] at h; cases h
  | some x => rw [runTr_mono hK _ _ _ _ _ _ hr]; rw [hr] at h; exact h
theorem exec_mono {P : Program} {K K' : Calling} (hK : KLe K K') {imp : FuncId → Bool} : ∀ (k : Nat) (c : Code) (e : List AV) (H : Heap) (r : Ex × List AV × Heap), exec P K imp k c e H = some r →
  ∀ k', k ≤ k' → exec P K' imp k' c e H = some r := by
 intro k
 induction k with
 | zero => intro c e H r h; simp [exec] at h
 | succ k ih =>
  intro c e H r h k' hk
  obtain ⟨k', rfl⟩ : ∃ m, k' = m + 1 := ⟨k' - 1, by omega⟩
  have hk' : k ≤ k' := by omega
  cases c <;> simp only [exec] at h ⊢ <;> try exact h
  case region id ops d => exact runRegion_mono hK h
  case seq x y =>
   cases hx : exec P K imp k x e H with
   | none => rw [hx] at h; cases h
   | some r1 =>
    rw [ih x e H r1 hx k' hk']
    rw [hx] at h
    obtain ⟨ex1, e1, H1⟩ := r1
    cases ex1 with
    | nrm => exact ih y e1 H1 r h k' hk'
    | _ => exact h
  case cond cc x y =>
   split at h
   ·exact ih x e H r h k' hk'
   ·exact ih y e H r h k' hk'
   ·cases h
  case block id x =>
   cases hx : exec P K imp k x e H with
   | none => rw [hx] at h; cases h
   | some r1 =>
    rw [ih x e H r1 hx k' hk']
    rw [hx] at h
    exact h
  case loop x =>
   cases hx : exec P K imp k x e H with
   | none => rw [hx] at h; cases h
   | some r1 =>
    rw [ih x e H r1 hx k' hk']
    rw [hx] at h
    obtain ⟨ex1, e1, H1⟩ := r1
    cases ex1 with
    | nrm => exact ih (.loop x) e1 H1 r h k' hk'
    | _ => exact h
  case scope x => exact ih x e H r h k' hk'
theorem runFn_mono {P : Program} {K K' : Calling} (hK : KLe K K') {imp : FuncId → Bool} {k k' : Nat} (hk : k ≤ k') {fn : Func} {args : List AV} {H : Heap} {r : CR} {o : AV → AV} (h : runFn P K imp k fn args H o = some r) :
  runFn P K' imp k' fn args H o = some r := by
 unfold runFn at h ⊢
 split at h
 ·cases h
 ·rename_i code hb
  try simp only [hb]
  split at h
  ·rename_i hl
   rw [if_pos hl]
   cases hx : exec P K imp k code args H with
   | none => rw [hx] at h; cases h
   | some r1 =>
    rw [exec_mono hK k code args H r1 hx k' hk]
    rw [hx] at h
    exact h
  ·cases h
theorem call_mono {P : Program} {c : Cfg} : ∀ k, KLe (call P c k) (call P c (k + 1)) := by
 intro k
 induction k with
 | zero => intro f args H r h; simp [call] at h
 | succ k ih =>
  intro f args H r h
  rw [call] at h ⊢
  split at h
  ·rename_i ht htold
   try simp only [htold]
   exact h
  ·rename_i htold
   try simp only [htold]
   split at h
   ·rename_i hh hth
    try simp only [hth]
    exact h
   ·rename_i hth
    try simp only [hth]
    split at h
    ·cases h
    ·rename_i fn hfn
     try simp only [hfn]
     split at h
     ·rename_i himp harr
      try simp only [himp, harr]
      cases hr : runFn P (call P c k) c.imp k fn args H with
      | none => rw [hr] at h; unfold trimK at h; split at h <;> cases h
      | some r1 => rw [runFn_mono ih (Nat.le_succ _) hr]; rw [hr] at h; exact h
     ·rename_i himp harr
      try simp only [himp, harr]
      exact runFn_mono ih (Nat.le_succ _) h
     ·rename_i himp harr
      try simp only [himp, harr]
      split at h
      ·rename_i v H' hrun
       rw [runFn_mono ih (Nat.le_succ _) hrun]
       exact h
      ·cases h
     ·rename_i himp harr
      try simp only [himp, harr]
      split at h
      ·rename_i v H' hrun
       rw [runFn_mono ih (Nat.le_succ _) hrun]
       exact h
      ·cases h
theorem call_le {P : Program} {c : Cfg} {k k' : Nat} (h : k ≤ k') : KLe (call P c k) (call P c k') := by
 induction h with
 | refl => exact fun _ _ _ _ h => h
 | step _ ih => exact fun f args H r h => call_mono _ f args H r (ih f args H r h)
/-- All calls, with whatever fuel they want. -/
noncomputable def calls (P : Program) (c : Cfg) : Calling := fun f args H =>
 open Classical in if h : ∃ r k, call P c k f args H = some r then some h.choose else none
theorem calls_iff {P : Program} {c : Cfg} {f : FuncId} {args : List AV} {H : Heap} {r : CR} : calls P c f args H = some r ↔ ∃ k, call P c k f args H = some r := by
 unfold calls
 constructor
 ·intro h
  split at h
  ·rename_i hex
   simp only [Option.some.injEq] at h
   rw [← h]
   exact hex.choose_spec
  ·cases h
 ·rintro ⟨k, hk⟩
  have hex : ∃ r k, call P c k f args H = some r := ⟨r, k, hk⟩
  rw [dif_pos hex]
  obtain ⟨k', hk'⟩ := hex.choose_spec
  have h1 := call_le (Nat.le_max_left k k') _ _ _ _ hk
  have h2 := call_le (Nat.le_max_right k k') _ _ _ _ hk'
  rw [h1] at h2
  exact h2.symm
/-- What is answered with all calls is answered with some fuel. -/
theorem runOps_fuel {P : Program} {c : Cfg} {ops : Array Oper} {base : Nat} : ∀ (os : List Oper) (i : Nat) (e : List AV) (H : Heap) (r : Ex × List AV × Heap),
  runOps P (calls P c) ops base os i e H = some r → ∃ n, runOps P (call P c n) ops base os i e H = some r := by
 intro os
 induction os with
 | nil => intro i e H r h; exact ⟨0, h⟩
 | cons o os ih =>
  intro i e H r h
  simp only [runOps] at h ⊢
  split at h
  ·cases h
  ·exact ih _ _ _ _ h
  ·split at h
   ·cases h
   ·exact ih _ _ _ _ h
   ·exact ⟨0, h⟩
   ·rename_i f args hst
    cases hc : calls P c f args H with
    | none => rw [hc] at h; cases h
    | some cr =>
     rw [hc] at h
     obtain ⟨k, hk⟩ := calls_iff.1 hc
     cases cr with
     | pan v H' => exact ⟨k, by rw [hk]; exact h⟩
     | ret v H' =>
      obtain ⟨n, hn⟩ := ih _ _ _ _ h
      refine ⟨max k n, ?_⟩
      rw [call_le (Nat.le_max_left k n) _ _ _ _ hk]
      exact runOps_mono (call_le (Nat.le_max_right k n)) _ _ _ _ _ hn
theorem runTr_fuel {P : Program} {c : Cfg} {imp : FuncId → Bool} {ops : Array Oper} {base : Nat} : ∀ (os : List Oper) (i : Nat) (pk : Option (Nat × AV × Heap)) (e : List AV) (H : Heap) (r : List Tr × Option (Nat × AV × Heap) × List AV × Heap),
  runTr P (calls P c) imp ops base os i pk e H = some r → ∃ n, runTr P (call P c n) imp ops base os i pk e H = some r := by
 intro os
 induction os with
 | nil => intro i pk e H r h; exact ⟨0, h⟩
 | cons o os ih =>
  intro i pk e H r h
  have next : ∀ (k : Nat) {i : Nat} {pk : Option (Nat × AV × Heap)} {e : List AV} {H : Heap} {t0 : Tr} {r : List Tr × Option (Nat × AV × Heap) × List AV × Heap},
    (match runTr P (calls P c) imp ops base os i pk e H with | some (tr, r) => some (t0 :: tr, r) | none => none) = some r →
    ∃ n, k ≤ n ∧ (match runTr P (call P c n) imp ops base os i pk e H with | some (tr, r) => some (t0 :: tr, r) | none => none) = some r := by
   intro k i pk e H t0 r h
   cases hr : runTr P (calls P c) imp ops base os i pk e H with
   | none => rw [hr] at h; cases h
   | some x =>
    obtain ⟨n, hn⟩ := ih _ _ _ _ _ hr
    refine ⟨max k n, Nat.le_max_left .., ?_⟩
    rw [runTr_mono (call_le (Nat.le_max_right k n)) _ _ _ _ _ _ hn]
    rw [hr] at h
    exact h
  simp only [runTr] at h ⊢
  by_cases hb : behind ops pk i = true
  ·simp only [if_pos hb] at h ⊢
   obtain ⟨n, _, hn⟩ := next 0 h
   exact ⟨n, hn⟩
  ·simp only [if_neg hb] at h ⊢
   split at h
   ·cases h
   ·obtain ⟨n, _, hn⟩ := next 0 h
    exact ⟨n, hn⟩
   ·split at h
    ·cases h
    ·split at h
     ·cases h
     ·rename_i hcc
      simp only [if_neg hcc]
      obtain ⟨n, _, hn⟩ := next 0 h
      exact ⟨n, hn⟩
    ·split at h
     ·cases h
     ·rename_i hcc
      simp only [if_neg hcc]
      obtain ⟨n, _, hn⟩ := next 0 h
      exact ⟨n, hn⟩
    ·rename_i f args hst
     split at h
     ·rename_i himp
      simp only [if_pos himp]
      split at h
      ·cases h
      ·rename_i hcc
       simp only [if_neg hcc]
       cases hc : calls P c f args H with
       | none => rw [hc] at h; cases h
       | some cr =>
        rw [hc] at h
        obtain ⟨k, hk⟩ := calls_iff.1 hc
        cases cr with
        | ret v H' =>
         obtain ⟨n, hkn, hn⟩ := next k h
         refine ⟨n, ?_⟩
         rw [call_le hkn _ _ _ _ hk]
         exact hn
        | pan v H' =>
         obtain ⟨n, hkn, hn⟩ := next k h
         refine ⟨n, ?_⟩
         rw [call_le hkn _ _ _ _ hk]
         exact hn
     ·rename_i himp
      simp only [if_neg himp]
      cases hc : calls P c f args H with
      | none => rw [hc] at h; cases h
      | some cr =>
       rw [hc] at h
       obtain ⟨k, hk⟩ := calls_iff.1 hc
       cases cr with
       | ret v H' =>
        obtain ⟨n, hkn, hn⟩ := next k h
        refine ⟨n, ?_⟩
        rw [call_le hkn _ _ _ _ hk]
        exact hn
       | pan v H' => cases h
theorem runRegion_fuel {P : Program} {c : Cfg} {imp : FuncId → Bool} {ops : Array Oper} {d : Bool} {e : List AV} {H : Heap} {r : Ex × List AV × Heap}
  (h : runRegion P (calls P c) imp ops d e H = some r) : ∃ n, runRegion P (call P c n) imp ops d e H = some r := by
 cases d with
 | false => exact runOps_fuel _ _ _ _ _ h
 | true =>
  simp only [runRegion] at h ⊢
  cases hr : runTr P (calls P c) imp ops H.next ops.toList 0 none e (startH P imp ops H) with
  | none => rw [hr] at h; cases h
  | some x =>
   obtain ⟨n, hn⟩ := runTr_fuel _ _ _ _ _ _ hr
   refine ⟨n, ?_⟩
   rw [hn]
   rw [hr] at h
   exact h
theorem exec_fuel {P : Program} {c : Cfg} {imp : FuncId → Bool} : ∀ (k : Nat) (cd : Code) (e : List AV) (H : Heap) (r : Ex × List AV × Heap), exec P (calls P c) imp k cd e H = some r →
  ∃ n, exec P (call P c n) imp k cd e H = some r := by
 intro k
 induction k with
 | zero => intro cd e H r h; simp [exec] at h
 | succ k ih =>
  intro cd e H r h
  have two : ∀ {x y : Code} {e1 : List AV} {H1 : Heap} {n : Nat} {r r1 : Ex × List AV × Heap}, exec P (call P c n) imp k x e H = some r1 → exec P (calls P c) imp k y e1 H1 = some r →
    ∃ m, exec P (call P c m) imp k x e H = some r1 ∧ exec P (call P c m) imp k y e1 H1 = some r := by
   intro x y e1 H1 n r r1 h1 h2
   obtain ⟨m, hm⟩ := ih _ _ _ _ h2
   exact ⟨max n m, exec_mono (call_le (Nat.le_max_left n m)) _ _ _ _ _ h1 _ (Nat.le_refl _), exec_mono (call_le (Nat.le_max_right n m)) _ _ _ _ _ hm _ (Nat.le_refl _)⟩
  cases cd <;> simp only [exec] at h ⊢ <;> try exact ⟨0, h⟩
  case region id ops d => exact runRegion_fuel h
  case seq x y =>
   cases hx : exec P (calls P c) imp k x e H with
   | none => rw [hx] at h; cases h
   | some r1 =>
    obtain ⟨n, hn⟩ := ih x e H r1 hx
    rw [hx] at h
    obtain ⟨ex1, e1, H1⟩ := r1
    cases ex1 with
    | nrm =>
     obtain ⟨m, h1, h2⟩ := two hn h
     exact ⟨m, by rw [h1]; exact h2⟩
    | _ => exact ⟨n, by rw [hn]; exact h⟩
  case cond cc x y =>
   split at h
   ·exact ih x e H r h
   ·exact ih y e H r h
   ·cases h
  case block id x =>
   cases hx : exec P (calls P c) imp k x e H with
   | none => rw [hx] at h; cases h
   | some r1 =>
    obtain ⟨n, hn⟩ := ih x e H r1 hx
    rw [hx] at h
    exact ⟨n, by rw [hn]; exact h⟩
  case loop x =>
   cases hx : exec P (calls P c) imp k x e H with
   | none => rw [hx] at h; cases h
   | some r1 =>
    obtain ⟨n, hn⟩ := ih x e H r1 hx
    rw [hx] at h
    obtain ⟨ex1, e1, H1⟩ := r1
    cases ex1 with
    | nrm =>
     obtain ⟨m, h1, h2⟩ := two hn h
     exact ⟨m, by rw [h1]; exact h2⟩
    | _ => exact ⟨n, by rw [hn]; exact h⟩
  case scope x => exact ih x e H r h
end Go.Proofs.YtnoahchdmkpleaaGreat.VA

/-! Vc1 -/
namespace Go.Proofs.YtnoahchdmkpleaaGreat.VA
open Go Go.RowKit
set_option linter.unusedSimpArgs false

/-- What an exit is outside of a block. -/
def blk (id : Nat) : Ex → Ex
 | .exit j => if j = id then .nrm else .exit j
 | x => x
/-- Big steps, without fuel. -/
inductive XS (P : Program) (c : Cfg) : Code → List AV → Heap → Ex → List AV → Heap → Prop
 | skip (e H) : XS P c .skip e H .nrm e H
 | label (s e H) : XS P c (.label s) e H .nrm e H
 | region {id ops e H x e1 H1} (h : runOps P (calls P c) ops H.next ops.toList 0 e { H with next := H.next + ops.size } = some (x, e1, H1)) : XS P c (.region id ops false) e H x e1 H1
 | draw {id ops e H tr e1 H1} (h : runTr P (calls P c) c.imp ops H.next ops.toList 0 none e (startH P c.imp ops H) = some (tr, none, e1, H1)) (ht : TrOk ops tr) : XS P c (.region id ops true) e H .nrm e1 H1
 | drawP {id ops e H tr i v H2 e1 H1} (h : runTr P (calls P c) c.imp ops H.next ops.toList 0 none e (startH P c.imp ops H) = some (tr, some (i, v, H2), e1, H1)) (ht : TrOk ops tr) : XS P c (.region id ops true) e H (.pan v) e1 H2
 | seqN {a b e H e1 H1 x e2 H2} (h : XS P c a e H .nrm e1 H1) (k : XS P c b e1 H1 x e2 H2) : XS P c (.seq a b) e H x e2 H2
 | seqX {a b e H x e1 H1} (h : XS P c a e H x e1 H1) (hx : x ≠ .nrm) : XS P c (.seq a b) e H x e1 H1
 | condT {t a b e H x e1 H1} (ht : aeval e t = .lit (.bool true)) (h : XS P c a e H x e1 H1) : XS P c (.cond t a b) e H x e1 H1
 | condF {t a b e H x e1 H1} (ht : aeval e t = .lit (.bool false)) (h : XS P c b e H x e1 H1) : XS P c (.cond t a b) e H x e1 H1
 | block {id a e H x e1 H1} (h : XS P c a e H x e1 H1) : XS P c (.block id a) e H (blk id x) e1 H1
 | loopN {a e H e1 H1 x e2 H2} (h : XS P c a e H .nrm e1 H1) (k : XS P c (.loop a) e1 H1 x e2 H2) : XS P c (.loop a) e H x e2 H2
 | loopX {a e H x e1 H1} (h : XS P c a e H x e1 H1) (hx : x ≠ .nrm) : XS P c (.loop a) e H x e1 H1
 | exit (id e H) : XS P c (.exit id) e H (.exit id) e H
 | scope {a e H x e1 H1} (h : XS P c a e H x e1 H1) : XS P c (.scope a) e H x e1 H1
 | ret (e H) : XS P c .ret e H .ret e H
theorem KLe.refl (K : Calling) : KLe K K := fun _ _ _ _ h => h
theorem XS.exec {P : Program} {c : Cfg} {cd : Code} {e : List AV} {H : Heap} {x : Ex} {e1 : List AV} {H1 : Heap} (h : XS P c cd e H x e1 H1) : ∃ k, exec P (calls P c) c.imp k cd e H = some (x, e1, H1) := by
 have up : ∀ {cd : Code} {e : List AV} {H : Heap} {r : Ex × List AV × Heap} {k : Nat} (k' : Nat), k ≤ k' → VA.exec P (calls P c) c.imp k cd e H = some r → VA.exec P (calls P c) c.imp k' cd e H = some r :=
  fun k' hk h => exec_mono (KLe.refl _) _ _ _ _ _ h k' hk
 induction h with
 | skip e H => exact ⟨1, rfl⟩
 | label s e H => exact ⟨1, rfl⟩
 | region h => exact ⟨1, by simpa [VA.exec, runRegion] using h⟩
 | draw h ht => exact ⟨1, by simp [VA.exec, runRegion, h, ht]⟩
 | drawP h ht => exact ⟨1, by simp [VA.exec, runRegion, h, ht]⟩
 | seqN h k ih ik =>
  obtain ⟨m, hm⟩ := ih
  obtain ⟨n, hn⟩ := ik
  refine ⟨max m n + 1, ?_⟩
  simp only [VA.exec]
  rw [up _ (Nat.le_max_left m n) hm]
  exact up _ (Nat.le_max_right m n) hn
 | seqX h hx ih =>
  obtain ⟨m, hm⟩ := ih
  refine ⟨m + 1, ?_⟩
  simp only [VA.exec]
  rw [hm]
  split
  ·rename_i hh; simp at hh; exact absurd hh.1 hx
  ·rfl
 | condT ht h ih =>
  obtain ⟨m, hm⟩ := ih
  exact ⟨m + 1, by simp only [VA.exec]; rw [ht]; exact hm⟩
 | condF ht h ih =>
  obtain ⟨m, hm⟩ := ih
  exact ⟨m + 1, by simp only [VA.exec]; rw [ht]; exact hm⟩
 | @block id a e H x e1 H1 h ih =>
  obtain ⟨m, hm⟩ := ih
  refine ⟨m + 1, ?_⟩
  simp only [VA.exec]
  rw [hm]
  cases x with
  | exit j =>
   simp only [blk]
   by_cases hj : j = id
   ·simp [hj]
   ·simp [hj]
  | _ => rfl
 | loopN h k ih ik =>
  obtain ⟨m, hm⟩ := ih
  obtain ⟨n, hn⟩ := ik
  refine ⟨max m n + 1, ?_⟩
  simp only [VA.exec]
  rw [up _ (Nat.le_max_left m n) hm]
  exact up _ (Nat.le_max_right m n) hn
 | loopX h hx ih =>
  obtain ⟨m, hm⟩ := ih
  refine ⟨m + 1, ?_⟩
  simp only [VA.exec]
  rw [hm]
  split
  ·rename_i hh; simp at hh; exact absurd hh.1 hx
  ·rfl
 | exit id e H => exact ⟨1, rfl⟩
 | scope h ih =>
  obtain ⟨m, hm⟩ := ih
  exact ⟨m + 1, by simp only [VA.exec]; exact hm⟩
 | ret e H => exact ⟨1, rfl⟩

/-! ### what comes after -/
inductive Fr where
 | sq (b : Code)
 | bl (id : Nat)
 | lp (a : Code)
abbrev Post := Ex → List AV → Heap → Prop
/-- From a piece's end to the whole's end. -/
def Fin (P : Program) (c : Cfg) : List Fr → Ex → List AV → Heap → Post → Prop
 | [], x, e, H, Q => Q x e H
 | .sq b :: st, .nrm, e, H, Q => ∃ x e1 H1, XS P c b e H x e1 H1 ∧ Fin P c st x e1 H1 Q
 | .sq _ :: st, x, e, H, Q => Fin P c st x e H Q
 | .bl id :: st, x, e, H, Q => Fin P c st (blk id x) e H Q
 | .lp a :: st, .nrm, e, H, Q => ∃ x e1 H1, XS P c (.loop a) e H x e1 H1 ∧ Fin P c st x e1 H1 Q
 | .lp _ :: st, x, e, H, Q => Fin P c st x e H Q
def W (P : Program) (c : Cfg) (cd : Code) (st : List Fr) (e : List AV) (H : Heap) (Q : Post) : Prop := ∃ x e1 H1, XS P c cd e H x e1 H1 ∧ Fin P c st x e1 H1 Q
section
variable {P : Program} {c : Cfg} {st : List Fr} {e : List AV} {H : Heap} {Q : Post}
theorem Fin_nil {x : Ex} : Fin P c [] x e H Q = Q x e H := by simp only [Fin]
theorem Fin_sq {b : Code} : Fin P c (.sq b :: st) .nrm e H Q = W P c b st e H Q := rfl
theorem Fin_sq_exit {b : Code} {j : Nat} : Fin P c (.sq b :: st) (.exit j) e H Q = Fin P c st (.exit j) e H Q := rfl
theorem Fin_sq_ret {b : Code} : Fin P c (.sq b :: st) .ret e H Q = Fin P c st .ret e H Q := rfl
theorem Fin_sq_pan {b : Code} {v : AV} : Fin P c (.sq b :: st) (.pan v) e H Q = Fin P c st (.pan v) e H Q := rfl
theorem Fin_lp {b : Code} : Fin P c (.lp b :: st) .nrm e H Q = W P c (.loop b) st e H Q := rfl
theorem Fin_lp_exit {b : Code} {j : Nat} : Fin P c (.lp b :: st) (.exit j) e H Q = Fin P c st (.exit j) e H Q := rfl
theorem Fin_lp_ret {b : Code} : Fin P c (.lp b :: st) .ret e H Q = Fin P c st .ret e H Q := rfl
theorem Fin_lp_pan {b : Code} {v : AV} : Fin P c (.lp b :: st) (.pan v) e H Q = Fin P c st (.pan v) e H Q := rfl
theorem Fin_bl {id : Nat} : Fin P c (.bl id :: st) .nrm e H Q = Fin P c st .nrm e H Q := by simp only [Fin, blk]
theorem Fin_bl_ret {id : Nat} : Fin P c (.bl id :: st) .ret e H Q = Fin P c st .ret e H Q := by simp only [Fin, blk]
theorem Fin_bl_pan {id : Nat} {v : AV} : Fin P c (.bl id :: st) (.pan v) e H Q = Fin P c st (.pan v) e H Q := by simp only [Fin, blk]
theorem Fin_bl_exit {id : Nat} : Fin P c (.bl id :: st) (.exit id) e H Q = Fin P c st .nrm e H Q := by simp only [Fin, blk, if_true]
theorem Fin_bl_other {id j : Nat} (h : (j == id) = false) : Fin P c (.bl id :: st) (.exit j) e H Q = Fin P c st (.exit j) e H Q := by
 simp only [Fin, blk]; rw [if_neg (by simpa using h)]
theorem W_skip : W P c .skip st e H Q = Fin P c st .nrm e H Q := propext
 ⟨fun ⟨_, _, _, h, k⟩ => by cases h; exact k, fun h => ⟨_, _, _, .skip e H, h⟩⟩
theorem W_label {s : Nat} : W P c (.label s) st e H Q = Fin P c st .nrm e H Q := propext
 ⟨fun ⟨_, _, _, h, k⟩ => by cases h; exact k, fun h => ⟨_, _, _, .label s e H, h⟩⟩
theorem W_exit {id : Nat} : W P c (.exit id) st e H Q = Fin P c st (.exit id) e H Q := propext
 ⟨fun ⟨_, _, _, h, k⟩ => by cases h; exact k, fun h => ⟨_, _, _, .exit id e H, h⟩⟩
theorem W_ret : W P c .ret st e H Q = Fin P c st .ret e H Q := propext
 ⟨fun ⟨_, _, _, h, k⟩ => by cases h; exact k, fun h => ⟨_, _, _, .ret e H, h⟩⟩
theorem W_scope {a : Code} : W P c (.scope a) st e H Q = W P c a st e H Q := propext
 ⟨fun ⟨_, _, _, h, k⟩ => by cases h with | scope h => exact ⟨_, _, _, h, k⟩, fun ⟨_, _, _, h, k⟩ => ⟨_, _, _, .scope h, k⟩⟩
theorem W_seq {a b : Code} : W P c (.seq a b) st e H Q = W P c a (.sq b :: st) e H Q := propext
 ⟨fun ⟨x, _, _, h, k⟩ => by
  cases h with
  | seqN h1 h2 => exact ⟨_, _, _, h1, _, _, _, h2, k⟩
  | seqX h1 hx => exact ⟨_, _, _, h1, by cases x <;> first | exact k | exact absurd rfl hx⟩,
  fun ⟨x, _, _, h, k⟩ => by
  cases x with
  | nrm => obtain ⟨_, _, _, h2, k2⟩ := k; exact ⟨_, _, _, .seqN h h2, k2⟩
  | _ => exact ⟨_, _, _, .seqX h (by simp), k⟩⟩
theorem W_block {id : Nat} {a : Code} : W P c (.block id a) st e H Q = W P c a (.bl id :: st) e H Q := propext
 ⟨fun ⟨x, _, _, h, k⟩ => by
  cases h with
  | block h => exact ⟨_, _, _, h, by simp only [Fin]; exact k⟩,
  fun ⟨x, _, _, h, k⟩ => ⟨_, _, _, .block h, by simp only [Fin] at k; exact k⟩⟩
theorem W_loop {a : Code} : W P c (.loop a) st e H Q = W P c a (.lp a :: st) e H Q := propext
 ⟨fun ⟨x, _, _, h, k⟩ => by
  cases h with
  | loopN h1 h2 => exact ⟨_, _, _, h1, _, _, _, h2, k⟩
  | loopX h1 hx => exact ⟨_, _, _, h1, by cases x <;> first | exact k | exact absurd rfl hx⟩,
  fun ⟨x, _, _, h, k⟩ => by
  cases x with
  | nrm => obtain ⟨_, _, _, h2, k2⟩ := k; exact ⟨_, _, _, .loopN h h2, k2⟩
  | _ => exact ⟨_, _, _, .loopX h (by simp), k⟩⟩
/-- A loop, by what falls from round to round. -/
theorem W_loop_ind {a : Code} (I : Nat → List AV → Heap → Prop) (n : Nat) (h0 : I n e H)
  (step : ∀ n, (∀ m, m < n → ∀ e H, I m e H → W P c (.loop a) st e H Q) → ∀ e H, I n e H → W P c a (.lp a :: st) e H Q) : W P c (.loop a) st e H Q := by
 induction n using Nat.strongRecOn generalizing e H with
 | ind n ih =>
  rw [W_loop]
  exact step n (fun m hm e H hI => ih m hm hI) e H h0
def goB (P : Program) (c : Cfg) (v : AV) (a b : Code) (st : List Fr) (e : List AV) (H : Heap) (Q : Post) : Prop :=
 match v with
 | .lit (.bool true) => W P c a st e H Q
 | .lit (.bool false) => W P c b st e H Q
 | _ => False
theorem W_cond {t : Operand} {a b : Code} : W P c (.cond t a b) st e H Q = goB P c (aeval e t) a b st e H Q := propext
 ⟨fun ⟨x, _, _, h, k⟩ => by
  cases h with
  | condT ht h => rw [ht]; exact ⟨_, _, _, h, k⟩
  | condF ht h => rw [ht]; exact ⟨_, _, _, h, k⟩,
  fun h => by
  unfold goB at h
  split at h
  ·rename_i ht; obtain ⟨_, _, _, h1, k⟩ := h; exact ⟨_, _, _, .condT ht h1, k⟩
  ·rename_i ht; obtain ⟨_, _, _, h1, k⟩ := h; exact ⟨_, _, _, .condF ht h1, k⟩
  ·exact h.elim⟩
theorem goB_true {a b : Code} : goB P c (.lit (.bool true)) a b st e H Q = W P c a st e H Q := rfl
theorem goB_false {a b : Code} : goB P c (.lit (.bool false)) a b st e H Q = W P c b st e H Q := rfl

/-! ### regions whose order is the text's -/
def dsts (ops : Array Oper) : List (Option Tmp) := ops.toList.map (·.dst)
theorem dsts_get {ops : Array Oper} (j : Nat) : (ops[j]?).bind (·.dst) = gget none (dsts ops) j := by
 have h : ∀ (l : List Oper) (j : Nat), (l[j]?).bind (·.dst) = gget none (l.map (·.dst)) j := by
  intro l
  induction l with
  | nil => intro j; simp [gget]
  | cons x l ih => intro j; cases j with | zero => simp [gget] | succ j => simpa [gget] using ih j
 have := h ops.toList j
 simpa [dsts] using this
def WO (P : Program) (c : Cfg) (ds : List (Option Tmp)) (base : Nat) (os : List Oper) (i : Nat) (st : List Fr) (e : List AV) (H : Heap) (Q : Post) : Prop :=
 ∃ ops, dsts ops = ds ∧ ∃ x e1 H1, runOps P (calls P c) ops base os i e H = some (x, e1, H1) ∧ Fin P c st x e1 H1 Q
theorem aWanted_ds {ops ops' : Array Oper} (h : dsts ops = dsts ops') (e : List AV) (o : Oper) : aWanted ops e o = aWanted ops' e o := by
 unfold aWanted
 split
 ·rfl
 ·rw [dsts_get, dsts_get, h]
theorem runOps_ds {K : Calling} {ops ops' : Array Oper} (h : dsts ops = dsts ops') {base : Nat} : ∀ (os : List Oper) (i : Nat) (e : List AV) (H : Heap), runOps P K ops base os i e H = runOps P K ops' base os i e H := by
 intro os
 induction os with
 | nil => intro i e H; rfl
 | cons o os ih =>
  intro i e H
  simp only [runOps, aWanted_ds h e o, ih]
def Heap.up (H : Heap) (n : Nat) : Heap := { H with next := H.next + n }
theorem W_region {id : Nat} {ops : Array Oper} : W P c (.region id ops false) st e H Q = WO P c (dsts ops) H.next ops.toList 0 st e (H.up ops.size) Q := propext
 ⟨fun ⟨x, _, _, h, k⟩ => by
  cases h with
  | region h => exact ⟨ops, rfl, _, _, _, h, k⟩,
  fun ⟨ops', hd, x, _, _, h, k⟩ => ⟨_, _, _, .region (by rw [← runOps_ds hd]; exact h), k⟩⟩
def goC (P : Program) (c : Cfg) (r : Option CR) (ds : List (Option Tmp)) (base : Nat) (dst : Option Tmp) (os : List Oper) (i : Nat) (st : List Fr) (e : List AV) (Q : Post) : Prop :=
 match r with
 | some (.ret v H) => WO P c ds base os i st (aput e dst v) H Q
 | some (.pan v H) => Fin P c st (.pan v) e H Q
 | none => False
def goS (P : Program) (c : Cfg) (r : Option Sr) (ds : List (Option Tmp)) (base : Nat) (dst : Option Tmp) (os : List Oper) (i : Nat) (st : List Fr) (e : List AV) (H : Heap) (Q : Post) : Prop :=
 match r with
 | some (.val v us _) => WO P c ds base os i st (aput e dst v) (appU H us) Q
 | some (.pan v) => Fin P c st (.pan v) e H Q
 | some (.call f args) => goC P c (calls P c f args H) ds base dst os i st e Q
 | none => False
def goW (P : Program) (c : Cfg) (r : Option Bool) (op : Op) (ds : List (Option Tmp)) (base : Nat) (dst : Option Tmp) (os : List Oper) (i : Nat) (st : List Fr) (e : List AV) (H : Heap) (Q : Post) : Prop :=
 match r with
 | some true => goS P c (astep P (aeval e) H (base + i) op) ds base dst os (i + 1) st e H Q
 | some false => WO P c ds base os (i + 1) st (aput e dst (.tup [])) H Q
 | none => False
theorem WO_nil' {ds : List (Option Tmp)} {base i : Nat} (h : ∃ ops, dsts ops = ds) : WO P c ds base [] i st e H Q = Fin P c st .nrm e H Q := propext
 ⟨fun ⟨_, _, x, _, _, h, k⟩ => by simp [runOps] at h; obtain ⟨rfl, rfl, rfl⟩ := h; exact k, fun k => let ⟨ops, hd⟩ := h; ⟨ops, hd, _, _, _, rfl, k⟩⟩
theorem dsts_all (ds : List (Option Tmp)) : ∃ ops, dsts ops = ds :=
 ⟨(ds.map fun d => { (default : Oper) with dst := d }).toArray, by simp [dsts, Function.comp_def]⟩
theorem WO_nil {ds : List (Option Tmp)} {base i : Nat} : WO P c ds base [] i st e H Q = Fin P c st .nrm e H Q := WO_nil' (dsts_all ds)
theorem WO_cons {ops : Array Oper} {base i : Nat} {o : Oper} {os : List Oper} :
  WO P c (dsts ops) base (o :: os) i st e H Q = goW P c (aWanted ops e o) o.op (dsts ops) base o.dst os i st e H Q := by
 have key : ∀ (i : Nat) (e : List AV) (H : Heap), WO P c (dsts ops) base os i st e H Q = ∃ x e1 H1, runOps P (calls P c) ops base os i e H = some (x, e1, H1) ∧ Fin P c st x e1 H1 Q := by
  intro i e H
  exact propext ⟨fun ⟨ops', hd, x, e1, H1, h, k⟩ => ⟨x, e1, H1, by rw [← runOps_ds hd]; exact h, k⟩, fun ⟨x, e1, H1, h, k⟩ => ⟨ops, rfl, x, e1, H1, h, k⟩⟩
 have key0 : WO P c (dsts ops) base (o :: os) i st e H Q = ∃ x e1 H1, runOps P (calls P c) ops base (o :: os) i e H = some (x, e1, H1) ∧ Fin P c st x e1 H1 Q :=
  propext ⟨fun ⟨ops', hd, x, e1, H1, h, k⟩ => ⟨x, e1, H1, by rw [← runOps_ds hd]; exact h, k⟩, fun ⟨x, e1, H1, h, k⟩ => ⟨ops, rfl, x, e1, H1, h, k⟩⟩
 rw [key0]
 unfold goW
 simp only [runOps]
 cases aWanted ops e o with
 | none => simp
 | some b =>
  cases b with
  | false => simp only [key]
  | true =>
   simp only [goS]
   cases astep P (aeval e) H (base + i) o.op with
   | none => simp
   | some sr =>
    cases sr with
    | val v us rs => simp only [key]
    | pan v => exact propext ⟨fun ⟨_, _, _, h, k⟩ => by simp at h; obtain ⟨rfl, rfl, rfl⟩ := h; exact k, fun k => ⟨_, _, _, rfl, k⟩⟩
    | call f args =>
     simp only [goC]
     cases calls P c f args H with
     | none => simp
     | some cr =>
      cases cr with
      | ret v H' => simp only [key]
      | pan v H' => exact propext ⟨fun ⟨_, _, _, h, k⟩ => by simp at h; obtain ⟨rfl, rfl, rfl⟩ := h; exact k, fun k => ⟨_, _, _, rfl, k⟩⟩
/-- A guard's word. -/
def goG (P : Program) (c : Cfg) (v : AV) (want : Bool) (op : Op) (ds : List (Option Tmp)) (base : Nat) (dst : Option Tmp) (os : List Oper) (i : Nat) (st : List Fr) (e : List AV) (H : Heap) (Q : Post) : Prop :=
 match v with
 | .lit (.bool b) => goW P c (some (b == want)) op ds base dst os i st e H Q
 | .tup [] => goW P c (some false) op ds base dst os i st e H Q
 | _ => False
def goD (P : Program) (c : Cfg) (d : Option Tmp) (want : Bool) (op : Op) (ds : List (Option Tmp)) (base : Nat) (dst : Option Tmp) (os : List Oper) (i : Nat) (st : List Fr) (e : List AV) (H : Heap) (Q : Post) : Prop :=
 match d with
 | some d => goG P c (gget .bad e d) want op ds base dst os i st e H Q
 | none => goW P c (some false) op ds base dst os i st e H Q
variable {op : Op} {ds : List (Option Tmp)} {base i : Nat} {dst : Option Tmp} {os : List Oper}
theorem WO_plain {type : TypeId} {pos : String} {after : Array Edge} :
  WO P c ds base ({ dst, op, type, pos, after, guard := none } :: os) i st e H Q = goS P c (astep P (aeval e) H (base + i) op) ds base dst os (i + 1) st e H Q := by
 obtain ⟨ops, rfl⟩ := dsts_all ds
 rw [WO_cons]; rfl
theorem WO_guard {j : Nat} {want : Bool} {type : TypeId} {pos : String} {after : Array Edge} :
  WO P c ds base ({ dst, op, type, pos, after, guard := some (j, want) } :: os) i st e H Q = goD P c (gget none ds j) want op ds base dst os i st e H Q := by
 obtain ⟨ops, rfl⟩ := dsts_all ds
 rw [WO_cons]
 simp only [aWanted, dsts_get, goD]
 cases gget none (dsts ops) j with
 | none => rfl
 | some d =>
  simp only [goG]
  split <;> rename_i hv <;> simp [hv, goW]
theorem goD_some {d : Tmp} {want : Bool} : goD P c (some d) want op ds base dst os i st e H Q = goG P c (gget .bad e d) want op ds base dst os i st e H Q := rfl
theorem goG_tt : goG P c (.lit (.bool true)) true op ds base dst os i st e H Q = goS P c (astep P (aeval e) H (base + i) op) ds base dst os (i + 1) st e H Q := rfl
theorem goG_ff : goG P c (.lit (.bool false)) false op ds base dst os i st e H Q = goS P c (astep P (aeval e) H (base + i) op) ds base dst os (i + 1) st e H Q := rfl
theorem goG_tf : goG P c (.lit (.bool true)) false op ds base dst os i st e H Q = WO P c ds base os (i + 1) st (aput e dst (.tup [])) H Q := rfl
theorem goG_ft : goG P c (.lit (.bool false)) true op ds base dst os i st e H Q = WO P c ds base os (i + 1) st (aput e dst (.tup [])) H Q := rfl
theorem goG_tup {want : Bool} : goG P c (.tup []) want op ds base dst os i st e H Q = WO P c ds base os (i + 1) st (aput e dst (.tup [])) H Q := rfl
theorem goS_val {v : AV} {us : List U} {rs : List Nat} : goS P c (some (.val v us rs)) ds base dst os i st e H Q = WO P c ds base os i st (aput e dst v) (appU H us) Q := rfl
theorem goS_pan {v : AV} : goS P c (some (.pan v)) ds base dst os i st e H Q = Fin P c st (.pan v) e H Q := rfl
theorem goS_call {f : FuncId} {args : List AV} : goS P c (some (.call f args)) ds base dst os i st e H Q = goC P c (calls P c f args H) ds base dst os i st e Q := rfl
theorem goC_ret {v : AV} : goC P c (some (.ret v H)) ds base dst os i st e Q = WO P c ds base os i st (aput e dst v) H Q := rfl
theorem goC_pan {v : AV} : goC P c (some (.pan v H)) ds base dst os i st e Q = Fin P c st (.pan v) e H Q := rfl

end

/-! ### regions that draw their order -/
section
variable {P : Program} {c : Cfg}
theorem runTr_some {K : Calling} {imp : FuncId → Bool} {ops : Array Oper} {base : Nat} : ∀ (os : List Oper) (i : Nat) (x : Nat × AV × Heap) (e : List AV) (H : Heap) (r : List Tr × Option (Nat × AV × Heap) × List AV × Heap),
  runTr P K imp ops base os i (some x) e H = some r → ∃ y, r.2.1 = some y := by
 intro os
 induction os with
 | nil => intro i x e H r h; simp [runTr] at h; subst h; exact ⟨x, rfl⟩
 | cons o os ih =>
  intro i x e H r h
  have next : ∀ {x : Nat × AV × Heap} {e : List AV} {H : Heap} {t0 : Tr},
    (match runTr P K imp ops base os (i + 1) (some x) e H with | some (tr, r) => some (t0 :: tr, r) | none => none) = some r → ∃ y, r.2.1 = some y := by
   intro x e H t0 h
   cases hr : runTr P K imp ops base os (i + 1) (some x) e H with
   | none => rw [hr] at h; cases h
   | some q => rw [hr] at h; simp at h; obtain ⟨y, hy⟩ := ih _ _ _ _ _ hr; exact ⟨y, by rw [← h]; exact hy⟩
  simp only [runTr] at h
  split at h
  ·exact next h
  ·split at h
   ·cases h
   ·exact next h
   ·split at h
    ·cases h
    ·split at h
     ·cases h
     ·exact next h
    ·simp at h
    ·split at h
     ·simp at h
     ·split at h
      ·exact next h
      ·cases h
/-- One step of a region that draws its order, as long as nothing panics. -/
noncomputable def trStep (P : Program) (c : Cfg) (r : Option Sr) (H : Heap) : Option (Tr × AV × Heap) :=
 match r with
 | some (.val v us rs) => some (.val v us rs, v, appU H us)
 | some (.call f args) =>
  match c.imp f with
  | true =>
   match calls P c f args H with
   | some (.ret v H') => some (.call v H H', v, H')
   | _ => none
  | false =>
   match calls P c f args H with
   | some (.ret v _) => some (.val v [] [], v, H)
   | _ => none
 | _ => none
def gword (ds : List (Option Tmp)) (e : List AV) (g : Option (Nat × Bool)) : Option Bool :=
 match g with
 | none => some true
 | some (j, want) =>
  match gget none ds j with
  | some d =>
   match gget .bad e d with
   | .lit (.bool b) => some (b == want)
   | .tup [] => some false
   | _ => none
  | none => some false
theorem aWanted_gword (ops : Array Oper) (e : List AV) (o : Oper) : aWanted ops e o = gword (dsts ops) e o.guard := by
 unfold aWanted gword
 cases o.guard with
 | none => rfl
 | some g =>
  obtain ⟨j, want⟩ := g
  simp only [dsts_get]
  cases gget none (dsts ops) j with
  | none => rfl
  | some d => rfl
/-- The run of such a region. -/
noncomputable def runD (P : Program) (c : Cfg) (ho : Bool) (ds : List (Option Tmp)) (base : Nat) : List Oper → Nat → List AV → Heap → Option (List Tr × List AV × Heap)
 | [], _, e, H => some ([], e, H)
 | o :: os, i, e, H =>
  match gword ds e o.guard with
  | none => none
  | some false =>
   match runD P c ho ds base os (i + 1) (aput e o.dst (.tup [])) H with
   | some (tr, r) => some (.val (.tup []) [] [] :: tr, r)
   | none => none
  | some true =>
   match trStep P c (astepD P ho (aeval e) H (base + i) o.op) H with
   | none => none
   | some (t, v, H') =>
    match runD P c ho ds base os (i + 1) (aput e o.dst v) H' with
    | some (tr, r) => some (t :: tr, r)
    | none => none
theorem runD_runTr {ops : Array Oper} {base : Nat} : ∀ (os : List Oper) (i : Nat) (e : List AV) (H : Heap) (tr : List Tr) (e1 : List AV) (H1 : Heap),
  runD P c (c.imp hoF) (dsts ops) base os i e H = some (tr, e1, H1) → runTr P (calls P c) c.imp ops base os i none e H = some (tr, none, e1, H1) := by
 intro os
 induction os with
 | nil => intro i e H tr e1 H1 h; simp [runD] at h; obtain ⟨rfl, rfl, rfl⟩ := h; rfl
 | cons o os ih =>
  intro i e H tr e1 H1 h
  have next : ∀ {i : Nat} {e : List AV} {H : Heap} {t0 : Tr},
    (match runD P c (c.imp hoF) (dsts ops) base os i e H with | some (tr, r) => some (t0 :: tr, r) | none => none) = some (tr, e1, H1) →
    (match runTr P (calls P c) c.imp ops base os i none e H with | some (tr, r) => some (t0 :: tr, r) | none => none) = some (tr, none, e1, H1) := by
   intro i e H t0 h
   cases hr : runD P c (c.imp hoF) (dsts ops) base os i e H with
   | none => rw [hr] at h; cases h
   | some q =>
    obtain ⟨tq, eq, Hq⟩ := q
    rw [hr] at h
    rw [ih _ _ _ _ _ _ hr]
    simp at h
    obtain ⟨rfl, rfl, rfl⟩ := h
    rfl
  simp only [runD] at h
  simp only [runTr, behind, Bool.false_eq_true, if_false, aWanted_gword]
  split at h
  ·cases h
  ·rename_i hw
   rw [hw]
   exact next h
  ·rename_i hw
   rw [hw]
   simp only
   cases hs : astepD P (c.imp hoF) (aeval e) H (base + i) o.op with
   | none => simp [hs, trStep] at h
   | some sr =>
    rw [hs] at h
    cases sr with
    | val v us rs =>
     simp only [trStep] at h
     simp only [Option.isSome_none, Bool.false_eq_true, false_and, if_false]
     exact next h
    | pan v => simp [trStep] at h
    | call f args =>
     simp only [trStep] at h
     cases hi : c.imp f with
     | true =>
      simp only [hi] at h
      simp only [hi, if_true, Option.isSome_none, Bool.false_eq_true, if_false]
      cases hc : calls P c f args H with
      | none => simp [hc] at h
      | some cr =>
       cases cr with
       | pan v H' => simp [hc] at h
       | ret v H' =>
        simp only [hc] at h
        simp only
        exact next h
     | false =>
      simp only [hi] at h
      simp only [hi, Bool.false_eq_true, if_false]
      cases hc : calls P c f args H with
      | none => simp [hc] at h
      | some cr =>
       cases cr with
       | pan v H' => simp [hc] at h
       | ret v H' =>
        simp only [hc] at h
        simp only
        exact next h
variable {st : List Fr} {e : List AV} {H : Heap} {Q : Post} {ho : Bool}
def AllOk (un : List (Nat × Nat)) (tr : List Tr) : Prop := ∀ p ∈ un, NoConf (tr.getD p.1 .dead) (tr.getD p.2 .dead)
def WD (P : Program) (c : Cfg) (ho : Bool) (un : List (Nat × Nat)) (ds : List (Option Tmp)) (base : Nat) (os : List Oper) (i : Nat) (tr : List Tr) (st : List Fr) (e : List AV) (H : Heap) (Q : Post) : Prop :=
 ∃ tr' e1 H1, runD P c ho ds base os i e H = some (tr', e1, H1) ∧ AllOk un (tr ++ tr') ∧ Fin P c st .nrm e1 H1 Q
theorem W_draw {id : Nat} {ops : Array Oper} (un : List (Nat × Nat)) (hu : unord ops = un) (h : WD P c false un (dsts ops) H.next ops.toList 0 [] st e (H.up ops.size) Q) (hno : c.imp hoF = false := by rfl) : W P c (.region id ops true) st e H Q := by
 obtain ⟨tr, e1, H1, h1, h2, h3⟩ := h
 refine ⟨_, _, _, .draw (tr := tr) (e1 := e1) (H1 := H1) ?_ (by rw [TrOk, hu]; exact h2), h3⟩
 have h0 : startH P c.imp ops H = H.up ops.size := by unfold startH; rw [hno]; rfl
 rw [h0]
 exact runD_runTr _ _ _ _ _ _ _ (by rw [hno]; exact h1)
/-- The same, where new variables are named ahead. -/
theorem W_drawH {id : Nat} {ops : Array Oper} (un : List (Nat × Nat)) (hu : unord ops = un) (H2 : Heap) (h2 : hoH P H.next ops.toList 0 (H.up ops.size) = H2) (h : WD P c true un (dsts ops) H.next ops.toList 0 [] st e H2 Q) (hno : c.imp hoF = true := by rfl) : W P c (.region id ops true) st e H Q := by
 obtain ⟨tr, e1, H1, h1, h2', h3⟩ := h
 refine ⟨_, _, _, .draw (tr := tr) (e1 := e1) (H1 := H1) ?_ (by rw [TrOk, hu]; exact h2'), h3⟩
 have h0 : startH P c.imp ops H = H2 := by unfold startH; rw [hno]; exact h2
 rw [h0]
 exact runD_runTr _ _ _ _ _ _ _ (by rw [hno]; exact h1)
def dK (P : Program) (c : Cfg) (ho : Bool) (r : Option CR) (imp : Bool) (un : List (Nat × Nat)) (ds : List (Option Tmp)) (base : Nat) (dst : Option Tmp) (os : List Oper) (i : Nat) (tr : List Tr) (st : List Fr) (e : List AV) (H : Heap) (Q : Post) : Prop :=
 match r with
 | some (.ret v H') =>
  match imp with
  | true => WD P c ho un ds base os i (tr ++ [.call v H H']) st (aput e dst v) H' Q
  | false => WD P c ho un ds base os i (tr ++ [.val v [] []]) st (aput e dst v) H Q
 | _ => False
def dS (P : Program) (c : Cfg) (ho : Bool) (r : Option Sr) (un : List (Nat × Nat)) (ds : List (Option Tmp)) (base : Nat) (dst : Option Tmp) (os : List Oper) (i : Nat) (tr : List Tr) (st : List Fr) (e : List AV) (H : Heap) (Q : Post) : Prop :=
 match r with
 | some (.val v us rs) => WD P c ho un ds base os i (tr ++ [.val v us rs]) st (aput e dst v) (appU H us) Q
 | some (.call f args) => dK P c ho (calls P c f args H) (c.imp f) un ds base dst os i tr st e H Q
 | _ => False
def dG (P : Program) (c : Cfg) (ho : Bool) (v : AV) (want : Bool) (op : Op) (un : List (Nat × Nat)) (ds : List (Option Tmp)) (base : Nat) (dst : Option Tmp) (os : List Oper) (i : Nat) (tr : List Tr) (st : List Fr) (e : List AV) (H : Heap) (Q : Post) : Prop :=
 match v with
 | .lit (.bool b) =>
  match b == want with
  | true => dS P c ho (astepD P ho (aeval e) H (base + i) op) un ds base dst os (i + 1) tr st e H Q
  | false => WD P c ho un ds base os (i + 1) (tr ++ [.val (.tup []) [] []]) st (aput e dst (.tup [])) H Q
 | .tup [] => WD P c ho un ds base os (i + 1) (tr ++ [.val (.tup []) [] []]) st (aput e dst (.tup [])) H Q
 | _ => False
variable {op : Op} {un : List (Nat × Nat)} {ds : List (Option Tmp)} {base i : Nat} {dst : Option Tmp} {os : List Oper} {tr : List Tr}
theorem WD_nil : WD P c ho un ds base [] i tr st e H Q = (AllOk un tr ∧ Fin P c st .nrm e H Q) := propext
 ⟨fun ⟨_, _, _, h, k, l⟩ => by simp [runD] at h; obtain ⟨rfl, rfl, rfl⟩ := h; simp at k; exact ⟨k, l⟩, fun ⟨k, l⟩ => ⟨_, _, _, rfl, by simpa using k, l⟩⟩
theorem WD_step {t : Tr} {v : AV} {H' : Heap} {i : Nat} : (∃ tr' e1 H1, (match runD P c ho ds base os i (aput e dst v) H' with | some (tr, r) => some (t :: tr, r) | none => none) = some (tr', e1, H1) ∧ AllOk un (tr ++ tr') ∧ Fin P c st .nrm e1 H1 Q) =
  WD P c ho un ds base os i (tr ++ [t]) st (aput e dst v) H' Q := by
 unfold WD
 cases runD P c ho ds base os i (aput e dst v) H' with
 | none => simp
 | some q =>
  obtain ⟨tq, eq, Hq⟩ := q
  refine propext ⟨fun ⟨_, _, _, h, k, l⟩ => ?_, fun ⟨_, _, _, h, k, l⟩ => ?_⟩
  ·simp at h
   obtain ⟨rfl, rfl, rfl⟩ := h
   exact ⟨_, _, _, rfl, by simpa using k, l⟩
  ·simp at h
   obtain ⟨rfl, rfl, rfl⟩ := h
   exact ⟨_, _, _, rfl, by simpa using k, l⟩
theorem dS_eq {r : Option Sr} : (∃ tr' e1 H1, (match trStep P c r H with
   | none => none
   | some (t, v, H') => match runD P c ho ds base os i (aput e dst v) H' with | some (tr, r) => some (t :: tr, r) | none => none) = some (tr', e1, H1) ∧ AllOk un (tr ++ tr') ∧ Fin P c st .nrm e1 H1 Q) =
  dS P c ho r un ds base dst os i tr st e H Q := by
 cases r with
 | none => simp [trStep, dS]
 | some sr =>
  cases sr with
  | val v us rs => exact WD_step
  | pan v => simp [trStep, dS]
  | call f args =>
   simp only [trStep, dS, dK]
   cases hi : c.imp f with
   | true =>
    cases calls P c f args H with
    | none => simp
    | some cr =>
     cases cr with
     | ret v H' => exact WD_step
     | pan v H' => simp
   | false =>
    cases calls P c f args H with
    | none => simp
    | some cr =>
     cases cr with
     | ret v H' => exact WD_step
     | pan v H' => simp
theorem WD_plain {type : TypeId} {pos : String} {after : Array Edge} :
  WD P c ho un ds base ({ dst, op, type, pos, after, guard := none } :: os) i tr st e H Q = dS P c ho (astepD P ho (aeval e) H (base + i) op) un ds base dst os (i + 1) tr st e H Q := by
 rw [← dS_eq]; rfl
theorem WD_word {o : Oper} : WD P c ho un ds base (o :: os) i tr st e H Q =
  (match gword ds e o.guard with
  | some true => dS P c ho (astepD P ho (aeval e) H (base + i) o.op) un ds base o.dst os (i + 1) tr st e H Q
  | some false => WD P c ho un ds base os (i + 1) (tr ++ [.val (.tup []) [] []]) st (aput e o.dst (.tup [])) H Q
  | none => False) := by
 conv => lhs; unfold WD; simp only [runD]
 cases gword ds e o.guard with
 | none => simp
 | some b =>
  cases b with
  | true => exact dS_eq
  | false => exact WD_step
theorem WD_guard {j : Nat} {d : Tmp} {want : Bool} {type : TypeId} {pos : String} {after : Array Edge} (hd : gget none ds j = some d) :
  WD P c ho un ds base ({ dst, op, type, pos, after, guard := some (j, want) } :: os) i tr st e H Q = dG P c ho (gget .bad e d) want op un ds base dst os i tr st e H Q := by
 rw [WD_word]
 simp only [gword, hd]
 generalize gget AV.bad e d = v
 unfold dG
 cases v with
 | lit u =>
  cases u with
  | bool b => simp only; cases b == want <;> rfl
  | _ => rfl
 | tup vs => cases vs <;> rfl
 | _ => rfl
theorem dG_tt : dG P c ho (.lit (.bool true)) true op un ds base dst os i tr st e H Q = dS P c ho (astepD P ho (aeval e) H (base + i) op) un ds base dst os (i + 1) tr st e H Q := rfl
theorem dG_ff : dG P c ho (.lit (.bool false)) false op un ds base dst os i tr st e H Q = dS P c ho (astepD P ho (aeval e) H (base + i) op) un ds base dst os (i + 1) tr st e H Q := rfl
theorem dG_tf : dG P c ho (.lit (.bool true)) false op un ds base dst os i tr st e H Q = WD P c ho un ds base os (i + 1) (tr ++ [.val (.tup []) [] []]) st (aput e dst (.tup [])) H Q := rfl
theorem dG_ft : dG P c ho (.lit (.bool false)) true op un ds base dst os i tr st e H Q = WD P c ho un ds base os (i + 1) (tr ++ [.val (.tup []) [] []]) st (aput e dst (.tup [])) H Q := rfl
theorem dG_tup {want : Bool} : dG P c ho (.tup []) want op un ds base dst os i tr st e H Q = WD P c ho un ds base os (i + 1) (tr ++ [.val (.tup []) [] []]) st (aput e dst (.tup [])) H Q := rfl
theorem dS_val {v : AV} {us : List U} {rs : List Nat} : dS P c ho (some (.val v us rs)) un ds base dst os i tr st e H Q = WD P c ho un ds base os i (tr ++ [.val v us rs]) st (aput e dst v) (appU H us) Q := rfl
theorem dS_call {f : FuncId} {args : List AV} : dS P c ho (some (.call f args)) un ds base dst os i tr st e H Q = dK P c ho (calls P c f args H) (c.imp f) un ds base dst os i tr st e H Q := rfl
theorem dK_pure {v : AV} {H' : Heap} : dK P c ho (some (.ret v H')) false un ds base dst os i tr st e H Q = WD P c ho un ds base os i (tr ++ [.val v [] []]) st (aput e dst v) H Q := rfl
theorem dK_imp {v : AV} {H' : Heap} : dK P c ho (some (.ret v H')) true un ds base dst os i tr st e H Q = WD P c ho un ds base os i (tr ++ [.call v H H']) st (aput e dst v) H' Q := rfl
theorem astepD_ff {ρ : Operand → AV} {id : Nat} : astepD P false ρ H id op = astep P ρ H id op := rfl
/-- A variable that was named ahead. -/
def alh (z : Option (List AV)) (y : Option (List AV)) (id : Nat) : Option Sr :=
 match z, y with
 | some z, some cs => if eqL cs z = true then some (.val (.ptr id 0) [] [id]) else none
 | _, _ => none
theorem astepD_alloc {ρ : Operand → AV} {id : Nat} (t : TypeId) : astepD P true ρ H id (.alloc t) = alh (tZero P t) (H.get id) id := rfl
end
end Go.Proofs.YtnoahchdmkpleaaGreat.VA

/-! Vc2 -/
namespace Go.Proofs.YtnoahchdmkpleaaGreat.VA
open Go Go.RowKit
set_option linter.unusedSimpArgs false

attribute [go_sem] Fin_nil Fin_sq Fin_sq_exit Fin_sq_ret Fin_sq_pan Fin_lp Fin_lp_exit Fin_lp_ret Fin_lp_pan Fin_bl Fin_bl_ret Fin_bl_pan Fin_bl_exit Fin_bl_other
attribute [go_sem] W_skip W_label W_exit W_ret W_scope W_seq W_block W_cond goB_true goB_false W_region WO_nil WO_plain WO_guard goD_some goG_tt goG_ff goG_tf goG_ft goG_tup goS_val goS_pan goS_call goC_ret goC_pan
attribute [go_sem] WD_nil WD_plain WD_guard dG_tt dG_ff dG_tf dG_ft dG_tup dS_val dS_call dK_pure dK_imp astepD_ff astepD_alloc
attribute [go_sem] List.map_cons List.map_nil List.append_nil List.nil_append List.cons_append Option.map_some Option.bind_some Option.getD_some

section
variable {P : Program} {ρ : Operand → AV} {H : Heap} {id : Nat} {e : List AV}
@[go_sem] theorem dsts_eq (ops : List Oper) : dsts ops.toArray = ops.map (·.dst) := by simp [dsts]
@[go_sem] theorem gget_zero {α : Type} (d x : α) (l : List α) : gget d (x :: l) 0 = x := rfl
@[go_sem] theorem gget_next {α : Type} (d x : α) (l : List α) (i : Nat) : gget d (x :: l) (i + 1) = gget d l i := rfl
@[go_sem] theorem gget_lit {α : Type} (d x : α) (l : List α) (i : Nat) (h : (i == 0) = false) : gget d (x :: l) i = gget d l (i - 1) := by
 cases i with
 | zero => simp at h
 | succ i => rfl
attribute [go_sem] gget_nil
@[go_sem] theorem gget_same {α : Type} (d : α) (l : List α) (i : Nat) (v : α) : gget d (gset d l i v) i = v := by rw [gget_gset, if_pos rfl]
@[go_sem] theorem gget_other {α : Type} (d : α) (l : List α) (i : Nat) (v : α) (j : Nat) (h : (i == j) = false) : gget d (gset d l i v) j = gget d l j := by
 rw [gget_gset, if_neg (by simpa using h)]
@[go_sem] theorem aput_some (d : Tmp) (v : AV) : aput e (some d) v = gset .bad e d v := rfl
@[go_sem] theorem aput_none (v : AV) : aput e none v = e := rfl
@[go_sem] theorem appU_nil : appU H [] = H := rfl
@[go_sem] theorem appU_cons (u : U) (us : List U) : appU H (u :: us) = appU (u.app H) us := rfl
@[go_sem] theorem U_box (r : Nat) (cs : List AV) : (U.box r cs).app H = H.put r cs := rfl
@[go_sem] theorem U_live (s : Nat) (b : Bool) : (U.live s b).app H = H.setLive s b := rfl
@[go_sem] theorem U_del (r : Nat) : (U.del r).app H = H.del r := rfl
@[go_sem] theorem U_map (r : Nat) (ks vs : List AV) : (U.map r ks vs).app H = H.putM r ks vs := rfl
@[go_sem] theorem up_ho (n r : Nat) : (H.up n).ho r = H.ho r := rfl
@[go_sem] theorem up_getM (n r : Nat) : (H.up n).getM r = H.getM r := rfl
@[go_sem] theorem up_get (n r : Nat) : (H.up n).get r = H.get r := rfl
@[go_sem] theorem up_isLive (n r : Nat) : (H.up n).isLive r = H.isLive r := rfl
@[go_sem] theorem up_next (n : Nat) : (H.up n).next = H.next + n := rfl
@[go_sem] theorem aeval_tmp (t : Tmp) : aeval e (.tmp t) = gget .bad e t := rfl
@[go_sem] theorem aeval_const (v : Value) : aeval e (.const v) = ofV v := rfl
@[go_sem] theorem aeval_func (f : FuncId) : aeval e (.func f) = .fn f [] := rfl
@[go_sem] theorem ofV_int (k : IntKind) (n : Int) : ofV (.int k n) = .lit (.int k n) := rfl
@[go_sem] theorem ofV_bool (b : Bool) : ofV (.bool b) = .lit (.bool b) := rfl
@[go_sem] theorem ofV_string (b : ByteArray) : ofV (.string b) = .lit (.string b) := rfl
@[go_sem] theorem ofV_slice : ofV (.slice none 0 0) = .sl .nil [] := rfl
@[go_sem] theorem ofV_iface : ofV .nilIface = .lit .nilIface := rfl
@[go_sem] theorem ofV_nilFunc : ofV .nilFunc = .lit .nilFunc := rfl
@[go_sem] theorem ofV_ptr : ofV (.pointer none) = .lit (.pointer none) := rfl

/-! ### operations -/
def ob (v : Option AV) : Option Sr := v.map fun v => .val v [] []
@[go_sem] theorem ob_some (v : AV) : ob (some v) = some (.val v [] []) := rfl
@[go_sem] theorem st_move (x : Operand) : astep P ρ H id (.move x) = some (.val (ρ x) [] []) := rfl
@[go_sem] theorem st_assign (x : Operand) : astep P ρ H id (.assign x) = some (.val (ρ x) [] []) := rfl
def pk (c a b : AV) : Option Sr :=
 match c with
 | .lit (.bool true) => some (.val a [] [])
 | .lit (.bool false) => some (.val b [] [])
 | _ => none
@[go_sem] theorem st_pick (x y z : Operand) : astep P ρ H id (.pick x y z) = pk (ρ x) (ρ y) (ρ z) := by
 have h1 : astep P ρ H id (.pick x y z) = (aPure P ρ (.pick x y z)).map fun v => .val v [] [] := rfl
 rw [h1]
 simp only [aPure, pk]
 generalize ρ x = v
 cases v with
 | lit u =>
  cases u with
  | bool b => cases b <;> rfl
  | _ => rfl
 | _ => rfl
@[go_sem] theorem pk_true (a b : AV) : pk (.lit (.bool true)) a b = some (.val a [] []) := rfl
@[go_sem] theorem pk_false (a b : AV) : pk (.lit (.bool false)) a b = some (.val b [] []) := rfl
theorem pk_lits (b x y : Bool) : pk (.lit (.bool b)) (.lit (.bool x)) (.lit (.bool y)) = some (.val (.lit (.bool (bif b then x else y))) [] []) := by cases b <;> rfl
@[go_sem] theorem st_bin (op : BinOp) (t t' : TypeId) (x y : Operand) : astep P ρ H id (.binOp op t x y t') = ob (aBin P op t (ρ x) (ρ y)) := rfl
@[go_sem] theorem bin_int (op : BinOp) (t : TypeId) (k : IntKind) (a b : Int) : aBin P op t (.lit (.int k a)) (.lit (.int k b)) = aInt op k a b := by
 simp only [aBin, if_true]
@[go_sem] theorem bin_str (op : BinOp) (t : TypeId) (a b : ByteArray) : aBin P op t (.lit (.string a)) (.lit (.string b)) = aStr op a b := rfl
@[go_sem] theorem bin_eqb {t : TypeId} (h : P.underlying t = some .bool) (a b : Bool) : aBin P .eql t (.lit (.bool a)) (.lit (.bool b)) = some (.lit (.bool (a == b))) := by
 simp only [aBin, h]
@[go_sem] theorem bin_neb {t : TypeId} (h : P.underlying t = some .bool) (a b : Bool) : aBin P .neq t (.lit (.bool a)) (.lit (.bool b)) = some (.lit (.bool (!(a == b)))) := by
 simp only [aBin, h]
@[go_sem] theorem int_add (k : IntKind) (a b : Int) : aInt .add k a b = some (.lit (.int k (k.wrap (a + b)))) := rfl
@[go_sem] theorem int_sub (k : IntKind) (a b : Int) : aInt .sub k a b = some (.lit (.int k (k.wrap (a - b)))) := rfl
@[go_sem] theorem int_mul (k : IntKind) (a b : Int) : aInt .mul k a b = some (.lit (.int k (k.wrap (a * b)))) := rfl
theorem int_quo (k : IntKind) (a b : Int) (h : b ≠ 0) : aInt .quo k a b = some (.lit (.int k (k.wrap (a.tdiv b)))) := by simp [aInt, h]
theorem int_rem (k : IntKind) (a b : Int) (h : b ≠ 0) : aInt .rem k a b = some (.lit (.int k (a.tmod b))) := by simp [aInt, h]
@[go_sem] theorem int_shr (k : IntKind) (a : Int) : aInt .shr k a 1 = some (.lit (.int k (a.fdiv 2))) := rfl
@[go_sem] theorem int_eql (k : IntKind) (a b : Int) : aInt .eql k a b = some (.lit (.bool (decide (a = b)))) := rfl
@[go_sem] theorem int_neq (k : IntKind) (a b : Int) : aInt .neq k a b = some (.lit (.bool (!decide (a = b)))) := rfl
@[go_sem] theorem int_lss (k : IntKind) (a b : Int) : aInt .lss k a b = some (.lit (.bool (decide (a < b)))) := rfl
@[go_sem] theorem int_leq (k : IntKind) (a b : Int) : aInt .leq k a b = some (.lit (.bool (decide (a ≤ b)))) := rfl
@[go_sem] theorem int_gtr (k : IntKind) (a b : Int) : aInt .gtr k a b = some (.lit (.bool (decide (b < a)))) := rfl
@[go_sem] theorem int_geq (k : IntKind) (a b : Int) : aInt .geq k a b = some (.lit (.bool (decide (b ≤ a)))) := rfl
theorem str_add (a b : ByteArray) (h : a.size + b.size ≤ 9223372036854775807) : aStr .add a b = some (.lit (.string (a ++ b))) := by simp [aStr, h]
@[go_sem] theorem str_eql (a b : ByteArray) : aStr .eql a b = some (.lit (.bool (decide (a = b)))) := by simp [aStr, strEq_decide]
@[go_sem] theorem str_neq (a b : ByteArray) : aStr .neq a b = some (.lit (.bool (!decide (a = b)))) := by simp [aStr, strEq_decide]
def un1 (op : UnOp) (x : AV) : Option AV :=
 match op, x with
 | .not, .lit (.bool b) => some (.lit (.bool (!b)))
 | .neg, .lit (.int k n) => some (.lit (.int k (k.wrap (0 - n))))
 | _, _ => none
@[go_sem] theorem st_un (op : UnOp) (t : TypeId) (x : Operand) : astep P ρ H id (.unOp op t x) = ob (un1 op (ρ x)) := rfl
@[go_sem] theorem un_not (b : Bool) : un1 .not (.lit (.bool b)) = some (.lit (.bool (!b))) := rfl
@[go_sem] theorem un_neg (k : IntKind) (n : Int) : un1 .neg (.lit (.int k n)) = some (.lit (.int k (k.wrap (0 - n)))) := rfl
/-- A string's byte at a place. -/
def bAt (s : ByteArray) (n : Nat) : UInt8 := s.data.toList.getD n 0
def ixs (u : Option TypeDesc) (x : AV) (i : Option Nat) : Option AV :=
 match u, x, i with
 | some .string, .lit (.string s), some i => if h : i < s.size then some (.lit (.int .u8 (s[i]'h).toNat)) else none
 | _, _, _ => none
@[go_sem] theorem st_index (t : TypeId) (x i : Operand) : astep P ρ H id (.index t x i) = ob (ixs (P.underlying t) (ρ x) (aNat (ρ i))) := rfl
theorem ixs_str {s : ByteArray} {n : Nat} (h : n < s.size) : ixs (some .string) (.lit (.string s)) (some n) = some (.lit (.int .u8 (bAt s n).toNat)) := by
 simp only [ixs, dif_pos h, bAt]
 congr 5
 have h' : n < s.data.toList.length := by simpa using h
 rw [List.getD_eq_getElem?_getD, List.getElem?_eq_getElem h']
 rfl
@[go_sem] theorem aNat_cast (k : IntKind) (n : Nat) : aNat (.lit (.int k (n : Int))) = some n := by simp [aNat]
@[go_sem] theorem aNat_zero (k : IntKind) : aNat (.lit (.int k 0)) = some 0 := by simp [aNat]
@[go_sem] theorem aNat_num (k : IntKind) (n : Nat) : aNat (.lit (.int k (OfNat.ofNat n))) = some n := aNat_cast k n
@[go_sem] theorem aNat_one (k : IntKind) : aNat (.lit (.int k 1)) = some 1 := by simp [aNat]
def lnn (P : Program) (t : TypeId) (x : AV) : Option AV :=
 match x with
 | .lit (.string s) => match P.underlying t with | some .string => some (.lit (.int .i64 s.size)) | _ => none
 | .sl _ es => match tElem P t with | some _ => some (.lit (.int .i64 es.length)) | none => none
 | .ar _ _ n _ => match tElem P t with | some _ => some (.lit (.int .i64 n)) | none => none
 | _ => none
@[go_sem] theorem lnn_ar {t : TypeId} {q : TypeId × Nat × Nat} (r lo n sz : Nat) (h : tElem P t = some q) : lnn P t (.ar r lo n sz) = some (.lit (.int .i64 (n : Nat))) := by simp only [lnn, h]
@[go_sem] theorem st_len (x : Operand) (t : TypeId) : astep P ρ H id (.call { callee := .builtin .len, args := #[x], argTypes := #[t] }) = ob (lnn P t (ρ x)) := rfl
@[go_sem] theorem lnn_str {t : TypeId} (h : P.underlying t = some .string) (s : ByteArray) : lnn P t (.lit (.string s)) = some (.lit (.int .i64 (s.size : Nat))) := by simp only [lnn, h]
@[go_sem] theorem lnn_sl {t : TypeId} {q : TypeId × Nat × Nat} (o : Own) (es : List (List AV)) (h : tElem P t = some q) : lnn P t (.sl o es) = some (.lit (.int .i64 (es.length : Nat))) := by simp only [lnn, h]
def mnx (mx : Bool) (x y : AV) : Option AV :=
 match x, y with
 | .lit (.int k a), .lit (.int _ b) => some (.lit (.int k (match mx with | false => (if b < a then b else a) | true => (if b > a then b else a))))
 | _, _ => none
@[go_sem] theorem st_min (x y : Operand) (ts : Array TypeId) : astep P ρ H id (.call { callee := .builtin .min, args := #[x, y], argTypes := ts }) = ob (mnx false (ρ x) (ρ y)) := rfl
@[go_sem] theorem st_max (x y : Operand) (ts : Array TypeId) : astep P ρ H id (.call { callee := .builtin .max, args := #[x, y], argTypes := ts }) = ob (mnx true (ρ x) (ρ y)) := rfl
def mnx3 (x y z : AV) : Option AV :=
 match x, y, z with
 | .lit (.int k a), .lit (.int _ b), .lit (.int _ c) => some (.lit (.int k (if c > (if b > a then b else a) then c else (if b > a then b else a))))
 | _, _, _ => none
@[go_sem] theorem st_max3 (x y z : Operand) (ts : Array TypeId) : astep P ρ H id (.call { callee := .builtin .max, args := #[x, y, z], argTypes := ts }) = ob (mnx3 (ρ x) (ρ y) (ρ z)) := rfl
@[go_sem] theorem mnx3_int (k l m : IntKind) (a b c : Int) : mnx3 (.lit (.int k a)) (.lit (.int l b)) (.lit (.int m c)) = some (.lit (.int k (if c > (if b > a then b else a) then c else (if b > a then b else a)))) := rfl
@[go_sem] theorem mnx_min (k l : IntKind) (a b : Int) : mnx false (.lit (.int k a)) (.lit (.int l b)) = some (.lit (.int k (if b < a then b else a))) := rfl
@[go_sem] theorem mnx_max (k l : IntKind) (a b : Int) : mnx true (.lit (.int k a)) (.lit (.int l b)) = some (.lit (.int k (if b > a then b else a))) := rfl
def cv (f : AV) (args : List AV) : Option Sr :=
 match f with
 | .fn k caps => some (.call k (args ++ caps))
 | .bf k bs => some (.call k (bs ++ args))
 | _ => none
@[go_sem] theorem st_call (f : Operand) (args : List Operand) (ts : Array TypeId) : astep P ρ H id (.call { callee := .value f, args := args.toArray, argTypes := ts }) = cv (ρ f) (args.map ρ) := by
 simp only [astep, cv]
 rfl
@[go_sem] theorem cv_bf (k : FuncId) (bs args : List AV) : cv (.bf k bs) args = some (.call k (bs ++ args)) := rfl
@[go_sem] theorem cv_fn (k : FuncId) (caps args : List AV) : cv (.fn k caps) args = some (.call k (args ++ caps)) := rfl
def apd (r : Option (AV × List U × List Nat)) : Option Sr := r.map fun r => .val r.1 r.2.1 r.2.2
@[go_sem] theorem st_append (s x : Operand) (t : TypeId) : astep P ρ H id (.call { callee := .builtin .append, args := #[s, x], argTypes := #[t, t] }) = apd (aAppend P t (ρ s) (ρ x) H id) := by
 simp only [astep, if_true, apd]
@[go_sem] theorem apd_some (v : AV) (us : List U) (rs : List Nat) : apd (some (v, us, rs)) = some (.val v us rs) := rfl
/-- A struct's type: the fields' places, the zero. -/
def tBuild (P : Program) (t : TypeId) : Option (List (Nat × Nat) × List AV) :=
 match P.underlying t with
 | some (.struct fs) =>
  match tPlaces P fs.toList, tZero P t with
  | some pl, some z => some (pl, z)
  | _, _ => none
 | _ => none
def bld (q : Option (List (Nat × Nat) × List AV)) (ps : List (Nat × AV)) : Option AV :=
 match q with
 | some (pl, z) => (aFill (fun i => pl[i]?) z ps).map .agg
 | none => none
@[go_sem] theorem st_build (t : TypeId) (ps : List (Nat × Operand)) : astep P ρ H id (.build t ps.toArray) = ob (bld (tBuild P t) (ps.map fun p => (p.1, ρ p.2))) := by
 have h1 : astep P ρ H id (.build t ps.toArray) = (aPure P ρ (.build t ps.toArray)).map fun v => .val v [] [] := rfl
 rw [h1]
 simp only [aPure, tBuild, ob]
 generalize P.underlying t = u
 cases u with
 | none => rfl
 | some d =>
  cases d with
  | struct fs =>
   simp only
   cases tPlaces P fs.toList with
   | none => rfl
   | some pl =>
    cases tZero P t with
    | none => rfl
    | some z => rfl
  | _ => rfl
/-- One field laid down. -/
def lay (q : Option (Nat × Nat)) (v : List AV) (cells : List AV) : Option (List AV) :=
 match q with
 | some (off, size) => if v.length = size ∧ off + size ≤ cells.length ∧ v.all AV.one = true then some (cells.take off ++ (v ++ cells.drop (off + size))) else none
 | none => none
def fillK (q : Option (List AV)) (pl : List (Nat × Nat)) (ps : List (Nat × AV)) : Option AV :=
 match q with
 | some cells => bld (some (pl, cells)) ps
 | none => none
theorem bld_nil (pl : List (Nat × Nat)) (z : List AV) : bld (some (pl, z)) [] = some (.agg z) := rfl
theorem bld_cons (pl : List (Nat × Nat)) (z : List AV) (i : Nat) (v : AV) (ps : List (Nat × AV)) : bld (some (pl, z)) ((i, v) :: ps) = fillK (lay pl[i]? v.cells z) pl ps := by
 simp only [bld, aFill, fillK, lay]
 cases pl[i]? with
 | none => rfl
 | some q =>
  obtain ⟨off, size⟩ := q
  simp only
  split <;> rfl
attribute [go_sem] bld_nil bld_cons
@[go_sem] theorem fillK_some (cells : List AV) (pl : List (Nat × Nat)) (ps : List (Nat × AV)) : fillK (some cells) pl ps = bld (some (pl, cells)) ps := rfl
@[go_sem] theorem cells_lit (v : Value) : (AV.lit v).cells = [.lit v] := rfl
@[go_sem] theorem cells_sl (o : Own) (es : List (List AV)) : (AV.sl o es).cells = [.sl o es] := rfl
@[go_sem] theorem cells_agg (cs : List AV) : (AV.agg cs).cells = cs := rfl
@[go_sem] theorem cells_ifc (t : TypeId) (v : AV) : (AV.ifc t v).cells = [.ifc t v] := rfl
@[go_sem] theorem cells_bf (f : FuncId) (cs : List AV) : (AV.bf f cs).cells = [.bf f cs] := rfl
@[go_sem] theorem cells_fn (f : FuncId) (cs : List AV) : (AV.fn f cs).cells = [.fn f cs] := rfl
@[go_sem] theorem cells_ptr (r o : Nat) : (AV.ptr r o).cells = [.ptr r o] := rfl
@[go_sem] theorem one_sl (o : Own) (es : List (List AV)) : (AV.sl o es).one = true := rfl
@[go_sem] theorem one_ptr (r o : Nat) : (AV.ptr r o).one = true := rfl
@[go_sem] theorem one_ifc (t : TypeId) (v : AV) : (AV.ifc t v).one = true := rfl
@[go_sem] theorem one_bf (f : FuncId) (cs : List AV) : (AV.bf f cs).one = true := rfl
@[go_sem] theorem one_fn (f : FuncId) (cs : List AV) : (AV.fn f cs).one = true := rfl
@[go_sem] theorem one_int (k : IntKind) (n : Int) : (AV.lit (.int k n)).one = true := rfl
@[go_sem] theorem one_bool (b : Bool) : (AV.lit (.bool b)).one = true := rfl
@[go_sem] theorem one_string (s : ByteArray) : (AV.lit (.string s)).one = true := rfl
@[go_sem] theorem one_niface : (AV.lit .nilIface).one = true := rfl
def fdd (q : Option (Nat × Nat × Bool)) (x : AV) : Option AV :=
 match q, x with
 | some (o, n, true), .agg cs => if o + n ≤ cs.length then some (.agg ((cs.drop o).take n)) else none
 | some (o, _, false), .agg cs => cs[o]?
 | _, _ => none
@[go_sem] theorem st_field (t : TypeId) (x : Operand) (k : Nat) : astep P ρ H id (.field t x k) = ob (fdd (tField P t k) (ρ x)) := rfl
@[go_sem] theorem fdd_one (o n : Nat) (cs : List AV) : fdd (some (o, n, false)) (.agg cs) = cs[o]? := rfl
theorem fdd_agg (o n : Nat) (cs : List AV) (h : o + n ≤ cs.length) : fdd (some (o, n, true)) (.agg cs) = some (.agg ((cs.drop o).take n)) := by simp [fdd, h]
def fad (q : Option (Nat × Nat × Bool)) (x : AV) : Option AV :=
 match q, x with
 | some (o, n, _), .ptr r off => if n = 0 then none else some (.ptr r (off + o))
 | some (o, n, _), .ep cs => if n = 0 then none else if o ≤ cs.length then some (.ep (cs.drop o)) else none
 | _, _ => none
@[go_sem] theorem st_fieldAddr (t : TypeId) (x : Operand) (k : Nat) : astep P ρ H id (.fieldAddr t x k) = ob (fad (tField P t k) (ρ x)) := rfl
@[go_sem] theorem fad_ptr (o n : Nat) (b : Bool) (r off : Nat) (h : (n == 0) = false) : fad (some (o, n, b)) (.ptr r off) = some (.ptr r (off + o)) := by
 simp only [fad]; rw [if_neg (by simpa using h)]
@[go_sem] theorem fad_ep (o n : Nat) (b : Bool) (cs : List AV) (h : (n == 0) = false) (h2 : decide (o ≤ cs.length) = true) : fad (some (o, n, b)) (.ep cs) = some (.ep (cs.drop o)) := by
 simp only [fad]; rw [if_neg (by simpa using h), if_pos (by simpa using h2)]
def iad (q : Option (TypeId × Nat × Nat)) (x : AV) (i : Option Nat) : Option AV :=
 match q, x, i with
 | some (_, n, _), .sl _ es, some i =>
  match es[i]? with
  | some e => if e.length = n then some (.ep e) else none
  | none => none
 | some (_, n, _), .ar r a m sz, some i => if i < m ∧ sz = n then some (.ptr r ((a + i) * sz)) else none
 | _, _, _ => none
theorem iad_ar {t : TypeId} {b r a m sz i : Nat} (h : i < m) : iad (some (t, sz, b)) (.ar r a m sz) (some i) = some (.ptr r ((a + i) * sz)) := by
 unfold iad; exact if_pos ⟨h, rfl⟩
@[go_sem] theorem st_indexAddr (t : TypeId) (x i : Operand) : astep P ρ H id (.indexAddr t x i) = ob (iad (tElem P t) (ρ x) (aNat (ρ i))) := rfl
theorem iad_some {t : TypeId} {n b : Nat} {o : Own} {es : List (List AV)} {i : Nat} {e : List AV} (h : es[i]? = some e) (hl : e.length = n) : iad (some (t, n, b)) (.sl o es) (some i) = some (.ep e) := by
 simp only [iad, h, hl, if_true]
def lod (r : Option (AV × List Nat)) : Option Sr := r.map fun r => .val r.1 [] r.2
@[go_sem] theorem st_load (t : TypeId) (x : Operand) : astep P ρ H id (.load t x) = lod (aLoad P t (ρ x) H) := rfl
@[go_sem] theorem lod_some (v : AV) (rs : List Nat) : lod (some (v, rs)) = some (.val v [] rs) := rfl
@[go_sem] theorem load_ep {t : TypeId} (h : tAgg P t = some false) (v : AV) (cs : List AV) : aLoad P t (.ep (v :: cs)) H = some (v, []) := by simp [aLoad, h]
theorem load_ep_agg {t : TypeId} {n : Nat} {cs : List AV} (h : tAgg P t = some true) (hs : tSize P t = some n) (hl : n ≤ cs.length) : aLoad P t (.ep cs) H = some (.agg (cs.take n), []) := by simp [aLoad, h, hs, hl]
theorem load_ptr {t : TypeId} {r off : Nat} {cs : List AV} {v : AV} (h : tAgg P t = some false) (hg : H.get r = some cs) (hv : cs[off]? = some v) : aLoad P t (.ptr r off) H = some (v, [r]) := by simp [aLoad, h, hg, hv]
theorem load_ptr_agg {t : TypeId} {r off n : Nat} {cs : List AV} (h : tAgg P t = some true) (hs : tSize P t = some n) (hg : H.get r = some cs) (hl : off + n ≤ cs.length) : aLoad P t (.ptr r off) H = some (.agg ((cs.drop off).take n), [r]) := by simp [aLoad, h, hs, hg, hl]
def sto (r : Option (List U)) : Option Sr := r.map fun us => .val (.tup []) us []
@[go_sem] theorem st_store (t : TypeId) (x v : Operand) : astep P ρ H id (.store t x v) = sto (aStore P t (ρ x) (ρ v) H) := rfl
@[go_sem] theorem sto_some (us : List U) : sto (some us) = some (.val (.tup []) us []) := rfl
theorem store_ptr {t : TypeId} {n r off : Nat} {cs : List AV} {v : AV} (hs : tSize P t = some n) (hg : H.get r = some cs) (h1 : v.cells.length = n) (h2 : off + n ≤ cs.length) (h3 : v.cells.all AV.one = true) :
  aStore P t (.ptr r off) v H = some [.box r (cs.take off ++ (v.cells ++ cs.drop (off + n)))] := by simp [aStore, hs, hg, h1, h2] ; simpa using h3
def alo (z : Option (List AV)) (id : Nat) : Option Sr := z.map fun z => .val (.ptr id 0) [.box id z] []
@[go_sem] theorem st_alloc (t : TypeId) : astep P ρ H id (.alloc t) = alo (tZero P t) id := by
 simp only [astep, alo]; cases tZero P t <;> rfl
@[go_sem] theorem alo_some (z : List AV) : alo (some z) id = some (.val (.ptr id 0) [.box id z] []) := rfl
def bxx (v : AV) (id : Nat) : Option Sr := if v.cells.all AV.one = true then some (.val (.ptr id 0) [.box id v.cells] []) else none
@[go_sem] theorem st_box (t : TypeId) (x : Operand) : astep P ρ H id (.box t x) = bxx (ρ x) id := rfl
theorem bxx_some {v : AV} (h : v.cells.all AV.one = true) : bxx v id = some (.val (.ptr id 0) [.box id v.cells] []) := by simp [bxx, h]
@[go_sem] theorem st_buildSlice (t : TypeId) (len : Nat) (ps : List (Nat × Operand)) : astep P ρ H id (.buildSlice t len ps.toArray) = ob (aBuildSlice P t len (ps.map fun p => (p.1, ρ p.2))) := rfl
@[go_sem] theorem st_makeFunc (f : FuncId) (caps : List Operand) : astep P ρ H id (.makeFunc (.func f) #[] caps.toArray) = some (.val (.fn f (caps.map ρ)) [] []) := by
 simp only [astep, aPure, if_true, Option.map_some]
@[go_sem] theorem st_makeBound (f : FuncId) (x : Operand) : astep P ρ H id (.makeFunc (.func f) #[x] #[]) = some (.val (.bf f [ρ x]) [] []) := by
 simp [astep, aPure]
@[go_sem] theorem st_makeIface {t : TypeId} (x : Operand) (h : P.concrete t = true) : astep P ρ H id (.makeInterface t x) = some (.val (.ifc t (ρ x)) [] []) := by
 simp only [astep, aPure, h, if_true, Option.map_some]
def pnn (x : AV) : Option Sr :=
 match x with
 | .ifc t v => some (.pan (.ifc t v))
 | _ => none
@[go_sem] theorem st_panic (x : Operand) : astep P ρ H id (.panic x) = pnn (ρ x) := rfl
@[go_sem] theorem pnn_ifc (t : TypeId) (v : AV) : pnn (.ifc t v) = some (.pan (.ifc t v)) := rfl
def ncc (x : AV) : Option AV :=
 match x with
 | .ptr r o => some (.ptr r o)
 | .ep cs => some (.ep cs)
 | .fn f cs => some (.fn f cs)
 | .bf f cs => some (.bf f cs)
 | _ => none
@[go_sem] theorem st_nilCheck (x : Operand) : astep P ρ H id (.nilCheck x) = ob (ncc (ρ x)) := rfl
@[go_sem] theorem ncc_ptr (r o : Nat) : ncc (.ptr r o) = some (.ptr r o) := rfl
@[go_sem] theorem ncc_ep (cs : List AV) : ncc (.ep cs) = some (.ep cs) := rfl
@[go_sem] theorem ncc_bf (f : FuncId) (cs : List AV) : ncc (.bf f cs) = some (.bf f cs) := rfl
@[go_sem] theorem ncc_fn (f : FuncId) (cs : List AV) : ncc (.fn f cs) = some (.fn f cs) := rfl
def ext (x : AV) (i : Nat) : Option AV :=
 match x with
 | .tup vs => vs[i]?
 | _ => none
@[go_sem] theorem st_extract (x : Operand) (i : Nat) : astep P ρ H id (.extract x i) = ob (ext (ρ x) i) := rfl
@[go_sem] theorem ext_tup (vs : List AV) (i : Nat) : ext (.tup vs) i = vs[i]? := rfl
attribute [go_sem] List.getElem?_cons_zero List.getElem?_cons_succ
@[go_sem] theorem st_slice (t : TypeId) (x : Operand) (lo hi : Option Operand) : astep P ρ H id (.slice t x lo hi none) = ob (aSlice P t (ρ x) (lo.map ρ) (hi.map ρ)) := rfl
theorem slice_str {t : TypeId} {s : ByteArray} {lo hi : Option AV} {l h : Nat} (ht : P.underlying t = some .string) (hh : optNat s.size hi = some h) (hl : optNat 0 lo = some l) (h1 : l ≤ h) (h2 : h ≤ s.size) :
  aSlice P t (.lit (.string s)) lo hi = some (.lit (.string (s.extract l h))) := by simp [aSlice, ht, hh, hl, h1, h2]
@[go_sem] theorem st_slice3 (t : TypeId) (x : Operand) (lo hi : Option Operand) (mx : Operand) : astep P ρ H id (.slice t x lo hi (some mx)) = ob (aSlice3 P t (ρ x) (lo.map ρ) (hi.map ρ) (some (ρ mx))) := rfl
theorem slice_ar {t e : TypeId} {b r a m sz : Nat} {lo hi : Option AV} {l h : Nat} (ht : tElem P t = some (e, sz, b)) (hh : optNat m hi = some h) (hl : optNat 0 lo = some l) (h1 : l ≤ h) (h2 : h ≤ m) :
  aSlice P t (.ar r a m sz) lo hi = some (.ar r (a + l) (h - l) sz) := by simp only [aSlice, ht, hh, hl]; rw [if_pos ⟨h1, h2, by trivial⟩]
theorem slice3_ar {t : TypeId} {q : TypeId × Nat × Nat} {r a m sz : Nat} {lo : Option AV} {hi mx : AV} {l h k : Nat} (ht : tElem P t = some q) (hl : optNat 0 lo = some l) (hh : aNat hi = some h) (hk : aNat mx = some k) (h1 : l ≤ h) (h2 : h ≤ k) (h3 : k ≤ m) :
  aSlice3 P t (.ar r a m sz) lo (some hi) (some mx) = some .bad := by
 have e1 : optNat m (some hi) = some h := hh
 have e2 : optNat m (some mx) = some k := hk
 simp only [aSlice3, ht, hl, e1, e2]; rw [if_pos ⟨h1, h2, h3, rfl, rfl⟩]
@[go_sem] theorem st_clear (x : Operand) (t : TypeId) : astep P ρ H id (.call { callee := .builtin .clear, args := #[x], argTypes := #[t] }) = sto (aClear P t (ρ x) H) := rfl
theorem clear_ar {t e : TypeId} {b r lo n sz : Nat} {cs zs : List AV} (ht : tElem P t = some (e, sz, b)) (hg : H.get r = some cs) (hz : tZero P e = some zs) (h1 : zs.length = sz) (h2 : zs.all AV.one = true) (h3 : (lo + n) * sz ≤ cs.length) :
  aClear P t (.ar r lo n sz) H = some [.box r (cs.take (lo * sz) ++ ((List.replicate n zs).flatten ++ cs.drop ((lo + n) * sz)))] := by
 simp only [aClear, ht, hg, hz]; rw [if_pos ⟨by trivial, h1, h2, h3⟩]
theorem news_sl {sz : Nat} {o : Own} {xs : List (List AV)} (h : ∀ e, e ∈ xs → e.length = sz) : newsA sz H (.sl o xs) = some (xs.flatten, xs.length, []) := by
 simp only [newsA]; rw [if_pos (List.all_eq_true.2 fun e he => by simp [h e he])]
theorem news_ar {sz r lo m : Nat} {cs : List AV} (hg : H.get r = some cs) (h : (lo + m) * sz ≤ cs.length) : newsA sz H (.ar r lo m sz) = some ((cs.drop (lo * sz)).take (m * sz), m, [r]) := by
 simp only [newsA, hg]; rw [if_pos ⟨by trivial, h⟩]
/-- Appending to an array in place. -/
theorem append_ar {t e : TypeId} {b r n sz m : Nat} {x : AV} {cs ns : List AV} {rs : List Nat} (ht : tElem P t = some (e, sz, b)) (hg : H.get r = some cs) (hn : newsA sz H x = some (ns, m, rs)) (h0 : 0 < m) (hs : 0 < sz) (hz : zeroOk P e sz = true)
  (hb : (n + m) * b ≤ 140737488355328) (hl : n + m ≤ 140737488355328) (h1 : ns.all AV.one = true) (h2 : (n + m) * sz ≤ cs.length) :
  aAppend P t (.ar r 0 n sz) x H id = some (.ar r 0 (n + m) sz, [.box r (cs.take (n * sz) ++ (ns ++ cs.drop ((n + m) * sz)))], r :: rs) := by
 have h3 : n * sz ≤ cs.length := Nat.le_trans (Nat.mul_le_mul_right sz (Nat.le_add_right n m)) h2
 simp only [aAppend, ht, if_true, aAppAr, hn, hg]
 rw [if_pos ⟨h0, hs, hz, hb, hl, h3, h1⟩, if_pos h2]
/-- Appending to an array at its end. -/
theorem append_arN {t e : TypeId} {b r n sz m : Nat} {x : AV} {cs ns : List AV} {rs : List Nat} (ht : tElem P t = some (e, sz, b)) (hg : H.get r = some cs) (hn : newsA sz H x = some (ns, m, rs)) (h0 : 0 < m) (hs : 0 < sz) (hz : zeroOk P e sz = true)
  (hb : (n + m) * b ≤ 140737488355328) (hl : n + m ≤ 140737488355328) (h1 : ns.all AV.one = true) (h2 : cs.length = n * sz) :
  aAppend P t (.ar r 0 n sz) x H id = some (.ar id 0 (n + m) sz, [.del r, .box id (cs ++ ns)], r :: rs) := by
 have h3 : ¬ (n + m) * sz ≤ cs.length := by
  rw [Nat.add_mul, h2]
  have := Nat.mul_lt_mul_of_pos_right h0 hs
  omega
 simp only [aAppend, ht, if_true, aAppAr, hn, hg]
 rw [if_pos ⟨h0, hs, hz, hb, hl, by omega, h1⟩, if_neg h3, List.take_of_length_le (by omega)]
theorem append_ar0 {t e : TypeId} {b r n sz : Nat} {x : AV} {cs ns : List AV} {rs : List Nat} (ht : tElem P t = some (e, sz, b)) (hg : H.get r = some cs) (hn : newsA sz H x = some (ns, 0, rs)) :
  aAppend P t (.ar r 0 n sz) x H id = some (.ar r 0 n sz, [], r :: rs) := by
 simp [aAppend, ht, aAppAr, hn, hg]
/-- Appending to nothing, at a type of arrays. -/
theorem append_nilA {t e : TypeId} {b sz : Nat} {o : Own} {y : List AV} {xs : List (List AV)} (ht : tElem P t = some (e, sz, b)) (hm : mutT e = true) (hs : 0 < sz) (hz : zeroOk P e sz = true)
  (hb : (xs.length + 1) * b ≤ 140737488355328) (hl : xs.length + 1 ≤ 140737488355328) (h1 : ∀ x, x ∈ y :: xs → x.length = sz) :
  aAppend P t (.sl .nil []) (.sl o (y :: xs)) H id = some (.ar id 0 (xs.length + 1) sz, [.box id (y :: xs).flatten], []) := by
 simp only [aAppend, ht, List.length_nil, Nat.zero_add]
 rw [if_pos ⟨h1 y (List.mem_cons_self ..), hs, hz, hb, hl⟩, if_pos hm, if_pos (List.all_eq_true.2 fun e he => by simp [h1 e he])]
@[go_sem] theorem st_makeMap (t : TypeId) : astep P ρ H id (.makeMap t none) = some (.val (.mp id) [.map id [] []] []) := rfl
@[go_sem] theorem st_insert (t : TypeId) (m k v : Operand) : astep P ρ H id (.insert t m k v) = sto (aMapSet P t (ρ m) (ρ k) (ρ v) H) := rfl
@[go_sem] theorem st_mapUpdate (t : TypeId) (m k v : Operand) : astep P ρ H id (.mapUpdate t m k v) = sto (aMapSet P t (ρ m) (ρ k) (ρ v) H) := rfl
@[go_sem] theorem st_lookup (t : TypeId) (m k : Operand) (ok : Bool) : astep P ρ H id (.lookup t m k ok) = lod (aLookup P t (ρ m) (ρ k) ok H) := rfl
@[go_sem] theorem kEq_int (k : IntKind) (a b : Int) : kEq (.int k) (.lit (.int k a)) (.lit (.int k b)) = some (decide (a = b)) := by simp [kEq]
@[go_sem] theorem kEq_str (a b : ByteArray) : kEq .string (.lit (.string a)) (.lit (.string b)) = some (strEq a b) := rfl
@[go_sem] theorem kFind_nil (d : TypeDesc) (x : AV) : kFind d x [] = some none := rfl
def kFd (q : Option Bool) (r : Option (Option Nat)) : Option (Option Nat) :=
 match q with
 | some true => some (some 0)
 | some false => r.map (·.map (· + 1))
 | none => none
@[go_sem] theorem kFind_cons (d : TypeDesc) (x y : AV) (l : List AV) : kFind d x (y :: l) = kFd (kEq d x y) (kFind d x l) := rfl
@[go_sem] theorem kFd_true (r : Option (Option Nat)) : kFd (some true) r = some (some 0) := rfl
@[go_sem] theorem kFd_none : kFd (some false) (some none) = some none := rfl
@[go_sem] theorem kFd_some (n : Nat) : kFd (some false) (some (some n)) = some (some (n + 1)) := rfl
def lkp (q : Option (Option Nat)) (vs : List AV) (z : Option AV) (ok : Bool) (r : Nat) : Option (AV × List Nat) :=
 match q with
 | some (some i) => (vs[i]?).map fun v => (okd ok v true, [r])
 | some none => z.map fun z => (okd ok z false, [r])
 | none => none
theorem lookup_mp {t e : TypeId} {d : TypeDesc} {r : Nat} {ks vs : List AV} {k : AV} (ok : Bool) (ht : tKey P t = some (d, e)) (hg : H.getM r = some (ks, vs)) (hk : kEq d k k = some true) :
  aLookup P t (.mp r) k ok H = lkp (kFind d k ks) vs (tZ1 P e) ok r := by simp only [aLookup, ht, hg, hk, if_true]; rfl
@[go_sem] theorem lkp_some (i : Nat) (vs : List AV) (z : Option AV) (ok : Bool) (r : Nat) : lkp (some (some i)) vs z ok r = (vs[i]?).map fun v => (okd ok v true, [r]) := rfl
@[go_sem] theorem lkp_none (vs : List AV) (z : AV) (ok : Bool) (r : Nat) : lkp (some none) vs (some z) ok r = some (okd ok z false, [r]) := rfl
@[go_sem] theorem okd_true (v : AV) (b : Bool) : okd true v b = .tup [v, .lit (.bool b)] := rfl
@[go_sem] theorem okd_false (v : AV) (b : Bool) : okd false v b = v := rfl
def mst (q : Option (Option Nat)) (ks vs : List AV) (k v : AV) (r : Nat) : Option (List U) :=
 match q with
 | some (some i) => some [.map r ks (vs.set i v)]
 | some none => some [.map r (ks ++ [k]) (vs ++ [v])]
 | none => none
theorem mapSet_mp {t e : TypeId} {d : TypeDesc} {r : Nat} {ks vs : List AV} {k v : AV} (ht : tKey P t = some (d, e)) (hg : H.getM r = some (ks, vs)) (hk : kEq d k k = some true) :
  aMapSet P t (.mp r) k v H = mst (kFind d k ks) ks vs k v r := by simp only [aMapSet, ht, hg, hk, if_true]; rfl
@[go_sem] theorem mst_some (i : Nat) (ks vs : List AV) (k v : AV) (r : Nat) : mst (some (some i)) ks vs k v r = some [.map r ks (vs.set i v)] := rfl
@[go_sem] theorem mst_none (ks vs : List AV) (k v : AV) (r : Nat) : mst (some none) ks vs k v r = some [.map r (ks ++ [k]) (vs ++ [v])] := rfl
@[go_sem] theorem cells_mp (r : Nat) : (AV.mp r).cells = [.mp r] := rfl
@[go_sem] theorem cells_ar (r lo n sz : Nat) : (AV.ar r lo n sz).cells = [.ar r lo n sz] := rfl
@[go_sem] theorem one_ar (r lo n sz : Nat) : (AV.ar r lo n sz).one = true := rfl
@[go_sem] theorem one_mp (r : Nat) : (AV.mp r).one = true := rfl
def cvt (a b : Option TypeDesc) (x : AV) : Option AV :=
 match a, b, x with
 | some _, some (.int k), .lit (.int _ n) => some (.lit (.int k (k.wrap n)))
 | some .string, some .string, .lit (.string s) => some (.lit (.string s))
 | _, _, _ => none
@[go_sem] theorem st_convert (s d : TypeId) (x : Operand) : astep P ρ H id (.convert s d x) = ob (cvt (P.underlying s) (P.underlying d) (ρ x)) := rfl
@[go_sem] theorem cvt_int (a : TypeDesc) (k l : IntKind) (n : Int) : cvt (some a) (some (.int k)) (.lit (.int l n)) = some (.lit (.int k (k.wrap n))) := by
 cases a <;> rfl
end
end Go.Proofs.YtnoahchdmkpleaaGreat.VA

/-! Vc3 -/
namespace Go.Proofs.YtnoahchdmkpleaaGreat.VA
open Go Go.RowKit
set_option linter.unusedSimpArgs false

/-- A function's end, with what it answers. -/
def RetQ (P : Program) (rs : List ResultVar) (v : AV) : Post := fun x e H =>
 match x with
 | .nrm | .ret => (aResults P e H rs).map (fun vs => san (oneOr vs)) = some v
 | _ => False
def RetHQ (P : Program) (rs : List ResultVar) (R : AV → Heap → Prop) : Post := fun x e H =>
 match x with
 | .nrm | .ret => ∃ vs, aResults P e H rs = some vs ∧ R (san (oneOr vs)) H
 | _ => False
def RetAQ (P : Program) (rs : List ResultVar) (R : AV → Heap → Prop) : Post := fun x e H =>
 match x with
 | .nrm | .ret => ∃ vs, aResults P e H rs = some vs ∧ R (oneOr vs) H
 | _ => False
section
variable {P : Program} {c : Cfg} {rs : List ResultVar} {v : AV} {e : List AV} {H : Heap} {R : AV → Heap → Prop}
@[go_sem] theorem RetAQ_nrm : RetAQ P rs R .nrm e H = (∃ vs, aResults P e H rs = some vs ∧ R (oneOr vs) H) := rfl
@[go_sem] theorem RetAQ_ret : RetAQ P rs R .ret e H = (∃ vs, aResults P e H rs = some vs ∧ R (oneOr vs) H) := rfl
@[go_sem] theorem RetQ_nrm : RetQ P rs v .nrm e H = ((aResults P e H rs).map (fun vs => san (oneOr vs)) = some v) := rfl
@[go_sem] theorem RetQ_ret : RetQ P rs v .ret e H = ((aResults P e H rs).map (fun vs => san (oneOr vs)) = some v) := rfl
@[go_sem] theorem RetHQ_nrm : RetHQ P rs R .nrm e H = (∃ vs, aResults P e H rs = some vs ∧ R (san (oneOr vs)) H) := rfl
@[go_sem] theorem RetHQ_ret : RetHQ P rs R .ret e H = (∃ vs, aResults P e H rs = some vs ∧ R (san (oneOr vs)) H) := rfl
@[go_sem] theorem res_nil : aResults P e H [] = some [] := rfl
def resK (x : Option AV) (r : Option (List AV)) : Option (List AV) :=
 match x, r with
 | some v, some vs => some (v :: vs)
 | _, _ => none
@[go_sem] theorem res_tmp (t : Tmp) : aResults P e H (.tmp t :: rs) = resK (some (gget .bad e t)) (aResults P e H rs) := rfl
@[go_sem] theorem res_cell (a : Tmp) (t : TypeId) : aResults P e H (.cell a t :: rs) = resK ((aLoad P t (gget .bad e a) H).map (·.1)) (aResults P e H rs) := rfl
@[go_sem] theorem resK_some (x : AV) (xs : List AV) : resK (some x) (some xs) = some (x :: xs) := rfl
@[go_sem] theorem oneOr_one (x : AV) : oneOr [x] = x := rfl
@[go_sem] theorem oneOr_nil : oneOr [] = .tup [] := rfl
@[go_sem] theorem oneOr_two (x y : AV) (l : List AV) : oneOr (x :: y :: l) = .tup (x :: y :: l) := rfl
@[go_sem] theorem san_lit (u : Value) : san (.lit u) = .lit u := by simp only [san]
@[go_sem] theorem san_sl (o : Own) (es : List (List AV)) : san (.sl o es) = .sl .sh (sanLL es) := by simp only [san]
@[go_sem] theorem san_bf (f : FuncId) (cs : List AV) : san (.bf f cs) = .bf f (sanL cs) := by simp only [san]
@[go_sem] theorem san_fn (f : FuncId) (cs : List AV) : san (.fn f cs) = .fn f (sanL cs) := by simp only [san]
@[go_sem] theorem san_ifc (t : TypeId) (v : AV) : san (.ifc t v) = .ifc t (san v) := by simp only [san]
@[go_sem] theorem san_agg (cs : List AV) : san (.agg cs) = .agg (sanL cs) := by simp only [san]
@[go_sem] theorem san_tup (cs : List AV) : san (.tup cs) = .tup (sanL cs) := by simp only [san]
@[go_sem] theorem sanL_nil : sanL [] = [] := rfl
@[go_sem] theorem sanL_cons (x : AV) (l : List AV) : sanL (x :: l) = san x :: sanL l := rfl
@[go_sem] theorem sanLL_nil : sanLL [] = [] := rfl
@[go_sem] theorem sanLL_cons (x : List AV) (l : List (List AV)) : sanLL (x :: l) = sanL x :: sanLL l := rfl
theorem sanLL_app (a b : List (List AV)) : sanLL (a ++ b) = sanLL a ++ sanLL b := by simp [sanLL_map]
/-- A list of elements that say nothing of memory. -/
theorem sanLL_of {α : Type} (f : α → List AV) (h : ∀ x, sanL (f x) = f x) (l : List α) : sanLL (l.map f) = l.map f := by
 rw [sanLL_map]; simp [h, Function.comp_def]
theorem runFn_of_XS {fn : Func} {code : Code} (hb : fn.body = some code) {args : List AV} (hn : args.length ≤ fn.ntmps) {x : Ex} {e1 : List AV} {H1 : Heap}
  (h : XS P c code args H x e1 H1) (hx : x = .nrm ∨ x = .ret) {vs : List AV} (hv : aResults P e1 H1 fn.results.toList = some vs) : ∀ o : AV → AV, ∃ k, runFn P (call P c k) c.imp k fn args H o = some (.ret (o (oneOr vs)) H1) := by
 intro o
 obtain ⟨k, hk⟩ := h.exec
 obtain ⟨n, hn'⟩ := exec_fuel _ _ _ _ _ hk
 have h2 : exec P (call P c (max k n)) c.imp k code args H = some (x, e1, H1) := exec_mono (call_le (Nat.le_max_right k n)) _ _ _ _ _ hn' _ (Nat.le_refl _)
 have h3 := exec_mono (KLe.refl _) _ _ _ _ _ h2 (max k n) (Nat.le_max_left k n)
 refine ⟨max k n, ?_⟩
 unfold runFn
 rcases hx with rfl | rfl <;> simp only [hb, hn, if_true, h3, hv]
/-- A function that leaves its caller's memory alone. -/
theorem calls_pure {f : FuncId} {fn : Func} {code : Code} {args : List AV} (ht : c.told f = none) (hf : c.fn f = some fn) (hi : c.imp f = false) (hb : fn.body = some code) (hn : Nat.ble args.length fn.ntmps = true)
  (h : W P c code [] (sanL args) Heap.empty (RetQ P fn.results.toList v)) (H : Heap) (ha : c.arr f = false := by rfl) : calls P c f args H = some (.ret v H) := by
 have hth : c.th f = none := by simp only [Cfg.th, hi]
 obtain ⟨x, e1, H1, hx, hq⟩ := h
 rw [Fin_nil] at hq
 have hq' : (x = .nrm ∨ x = .ret) ∧ (aResults P e1 H1 fn.results.toList).map (fun vs => san (oneOr vs)) = some v := by
  cases x <;> first | exact ⟨.inl rfl, hq⟩ | exact ⟨.inr rfl, hq⟩ | exact hq.elim
 cases hv : aResults P e1 H1 fn.results.toList with
 | none => simp [hv] at hq'
 | some vs =>
  have hvv : san (oneOr vs) = v := by have := hq'.2; rw [hv] at this; simpa using this
  obtain ⟨k, hk⟩ := runFn_of_XS hb (by rw [length_sanL]; exact Nat.le_of_ble_eq_true hn) hx hq'.1 hv san
  refine calls_iff.2 ⟨k + 1, ?_⟩
  simp only [call, ht, hth, hf, hi, ha, hk, hvv]
/-- A function that may write to its caller's memory. -/
theorem calls_imp {f : FuncId} {fn : Func} {code : Code} {args : List AV} (ht : c.told f = none) (hf : c.fn f = some fn) (hi : c.imp f = true) (hb : fn.body = some code) (hn : Nat.ble args.length fn.ntmps = true)
  (h : W P c code [] args H (RetHQ P fn.results.toList R)) (htr : c.trim f = none := by rfl) (hto : c.tolH f = none := by rfl) (ha : c.arr f = false := by rfl) : ∃ v H', calls P c f args H = some (.ret v H') ∧ R v H' := by
 obtain ⟨x, e1, H1, hx, hq⟩ := h
 rw [Fin_nil] at hq
 have hq' : (x = .nrm ∨ x = .ret) ∧ ∃ vs, aResults P e1 H1 fn.results.toList = some vs ∧ R (san (oneOr vs)) H1 := by
  cases x <;> first | exact ⟨.inl rfl, hq⟩ | exact ⟨.inr rfl, hq⟩ | exact hq.elim
 obtain ⟨hx2, vs, hv, hr⟩ := hq'
 obtain ⟨k, hk⟩ := runFn_of_XS hb (Nat.le_of_ble_eq_true hn) hx hx2 hv san
 have hth : c.th f = none := by simp only [Cfg.th, hi, hto]
 refine ⟨_, _, calls_iff.2 ⟨k + 1, ?_⟩, hr⟩
 simp only [call, ht, hth, hf, hi, ha, hk, htr, trimK]
/-- A function that keeps arrays in what it answers. -/
theorem calls_arr {f : FuncId} {fn : Func} {code : Code} {args : List AV} (ht : c.told f = none) (hf : c.fn f = some fn) (hi : c.imp f = true) (hb : fn.body = some code) (hn : Nat.ble args.length fn.ntmps = true)
  (h : W P c code [] args H (RetAQ P fn.results.toList R)) (hto : c.tolH f = none := by rfl) (ha : c.arr f = true := by rfl) : ∃ v H', calls P c f args H = some (.ret v H') ∧ R v H' := by
 obtain ⟨x, e1, H1, hx, hq⟩ := h
 rw [Fin_nil] at hq
 have hq' : (x = .nrm ∨ x = .ret) ∧ ∃ vs, aResults P e1 H1 fn.results.toList = some vs ∧ R (oneOr vs) H1 := by
  cases x <;> first | exact ⟨.inl rfl, hq⟩ | exact ⟨.inr rfl, hq⟩ | exact hq.elim
 obtain ⟨hx2, vs, hv, hr⟩ := hq'
 obtain ⟨k, hk⟩ := runFn_of_XS hb (Nat.le_of_ble_eq_true hn) hx hx2 hv id
 have hth : c.th f = none := by simp only [Cfg.th, hi, hto]
 refine ⟨_, _, calls_iff.2 ⟨k + 1, ?_⟩, hr⟩
 simp only [call, ht, hth, hf, hi, ha, hk]
 rfl
/-- A function that leaves its caller's memory alone, and whose own arrays are read out at its end. -/
theorem calls_frz {f : FuncId} {fn : Func} {code : Code} {args : List AV} (ht : c.told f = none) (hf : c.fn f = some fn) (hi : c.imp f = false) (hb : fn.body = some code) (hn : Nat.ble args.length fn.ntmps = true)
  (h : W P c code [] (sanL args) Heap.empty (RetAQ P fn.results.toList fun x H1 => san (frz H1 x) = v)) (H : Heap) (ha : c.arr f = true := by rfl) : calls P c f args H = some (.ret v H) := by
 have hth : c.th f = none := by simp only [Cfg.th, hi]
 obtain ⟨x, e1, H1, hx, hq⟩ := h
 rw [Fin_nil] at hq
 have hq' : (x = .nrm ∨ x = .ret) ∧ ∃ vs, aResults P e1 H1 fn.results.toList = some vs ∧ san (frz H1 (oneOr vs)) = v := by
  cases x <;> first | exact ⟨.inl rfl, hq⟩ | exact ⟨.inr rfl, hq⟩ | exact hq.elim
 obtain ⟨hx2, vs, hv, hr⟩ := hq'
 obtain ⟨k, hk⟩ := runFn_of_XS hb (by rw [length_sanL]; exact Nat.le_of_ble_eq_true hn) hx hx2 hv id
 refine calls_iff.2 ⟨k + 1, ?_⟩
 simp only [call, ht, hth, hf, hi, ha, hk, id, hr]
/-- A function that is told, with what it does to memory. -/
theorem calls_tolH {f : FuncId} {args : List AV} {h : List AV → Heap → Option (AV × List U)} {us : List U} (ht : c.told f = none) (hi : c.imp f = true) (hto : c.tolH f = some h) (hv : h args H = some (v, us)) :
  calls P c f args H = some (.ret v (appU { H with next := H.next + 1 } us)) := by
 have hth : c.th f = some h := by simp only [Cfg.th, hi, hto]
 exact calls_iff.2 ⟨1, by simp only [call, ht, hth, hv]⟩
/-- A function that is told outright. -/
theorem calls_told {f : FuncId} {args : List AV} {h : List AV → Option AV} (ht : c.told f = some h) (hv : h (sanL args) = some v) (H : Heap) : calls P c f args H = some (.ret v H) :=
 calls_iff.2 ⟨1, by simp only [call, ht, hv]⟩
/-- Appending in place or to nothing. -/
def OwnOk (H : Heap) (o : Own) (e : TypeId) (sz : Nat) : Prop :=
 match o with
 | .nil => True
 | .own s e' z => e' = e ∧ z = sz ∧ H.isLive s = true
 | _ => False
theorem append_ok {t : TypeId} {e : TypeId} {sz bs : Nat} {o o' : Own} {es xs : List (List AV)} {x : List AV} {id : Nat} (ht : tElem P t = some (e, sz, bs)) (ho : OwnOk H o e sz) (hx : x.length = sz) (hs : (sz == 0) = false)
  (hz : zeroOk P e sz = true) (hb : (es.length + (xs.length + 1)) * bs ≤ 140737488355328) (hl : es.length + (xs.length + 1) ≤ 140737488355328) (hmu : mutT e = false := by rfl) :
  ∃ us rs, aAppend P t (.sl o es) (.sl o' (x :: xs)) H id = some (.sl (.own id e sz) (es ++ sanLL (x :: xs)), us, rs) ∧ OwnOk (appU H us) (.own id e sz) e sz ∧ (appU H us).next = H.next := by
 have hne : sz ≠ 0 := by simpa using hs
 have hs' : 0 < sz := by omega
 cases o with
 | nil =>
  refine ⟨[.live id true], [], ?_, ?_, ?_⟩
  ·simp only [aAppend, ht]; rw [if_pos ⟨hx, hs', hz, hb, hl⟩, if_neg (by rw [hmu]; exact Bool.false_ne_true)]
  ·simp [OwnOk, appU, U.app]
  ·simp [appU, U.app]
 | own k e' z =>
  obtain ⟨rfl, rfl, h3⟩ := ho
  refine ⟨[.live k false, .live id true], [k], ?_, ?_, ?_⟩
  ·simp only [aAppend, ht]; rw [if_pos ⟨hx, hs', hz, hb, hl⟩, if_pos (by simp [h3])]
  ·simp [OwnOk, appU, U.app]
  ·simp [appU, U.app]
 | sh => exact ho.elim
 | ex => exact ho.elim
end
end Go.Proofs.YtnoahchdmkpleaaGreat.VA

/-! Vc4 -/
namespace Go.Proofs.YtnoahchdmkpleaaGreat.VA
open Go Go.RowKit
set_option linter.unusedSimpArgs false

attribute [go_sem] Heap.get_put Heap.isLive_put Heap.next_put Heap.isLive_setLive Heap.get_setLive Heap.next_setLive Heap.get_empty Heap.isLive_empty Heap.next_empty
section
variable {P : Program} {H : Heap} {id : Nat}
def laid1 (o : Option (List AV)) : Option (List AV) := o
@[go_sem] theorem lay_some (off size : Nat) (v cells : List AV) :
  lay (some (off, size)) v cells = if v.length = size ∧ off + size ≤ cells.length ∧ v.all AV.one = true then some (cells.take off ++ (v ++ cells.drop (off + size))) else none := rfl
attribute [go_sem] List.all_cons List.all_nil List.take_zero List.take_nil List.drop_nil List.drop_zero List.take_succ_cons List.drop_succ_cons Bool.and_true Bool.true_and and_self if_true
def stoK (n : Option Nat) (cs : Option (List AV)) (r off : Nat) (v : List AV) : Option (List U) :=
 match n, cs with
 | some n, some cs => (lay (some (off, n)) v cs).map fun cs => [.box r cs]
 | _, _ => none
@[go_sem] theorem store_eq (t : TypeId) (r off : Nat) (v : AV) : aStore P t (.ptr r off) v H = stoK (tSize P t) (H.get r) r off v.cells := by
 simp only [aStore, stoK]
 cases tSize P t with
 | none => rfl
 | some n =>
  cases hg : H.get r with
  | none => simp only [hg]
  | some cs =>
   simp only [hg, lay]
   split <;> rfl
@[go_sem] theorem stoK_some (n : Nat) (cs : List AV) (r off : Nat) (v : List AV) : stoK (some n) (some cs) r off v = (lay (some (off, n)) v cs).map fun cs => [.box r cs] := rfl
def ldK (b : Option Bool) (n : Option Nat) (cs : Option (List AV)) (r off : Nat) : Option (AV × List Nat) :=
 match b, n, cs with
 | some true, some n, some cs => if off + n ≤ cs.length then some (.agg ((cs.drop off).take n), [r]) else none
 | some false, _, some cs => (cs[off]?).map fun v => (v, [r])
 | _, _, _ => none
@[go_sem] theorem load_eq (t : TypeId) (r off : Nat) : aLoad P t (.ptr r off) H = ldK (tAgg P t) (tSize P t) (H.get r) r off := by
 simp only [aLoad, ldK]
 cases tAgg P t with
 | none => rfl
 | some b =>
  cases b with
  | true =>
   cases tSize P t with
   | none => rfl
   | some n => cases hg : H.get r <;> simp only [hg]
  | false =>
   cases hg : H.get r with
   | none => cases tSize P t <;> rfl
   | some cs =>
    simp only
    cases cs[off]? <;> cases tSize P t <;> rfl
@[go_sem] theorem ldK_true (n : Nat) (cs : List AV) (r off : Nat) : ldK (some true) (some n) (some cs) r off = if off + n ≤ cs.length then some (.agg ((cs.drop off).take n), [r]) else none := rfl
@[go_sem] theorem ldK_false (n : Option Nat) (cs : List AV) (r off : Nat) : ldK (some false) n (some cs) r off = (cs[off]?).map fun v => (v, [r]) := by cases n <;> rfl
def leK (b : Option Bool) (n : Option Nat) (cs : List AV) : Option (AV × List Nat) :=
 match b, n with
 | some true, some n => if n ≤ cs.length then some (.agg (cs.take n), []) else none
 | some false, _ => (cs[0]?).map fun v => (v, [])
 | _, _ => none
@[go_sem] theorem load_ep_eq (t : TypeId) (cs : List AV) : aLoad P t (.ep cs) H = leK (tAgg P t) (tSize P t) cs := by
 simp only [aLoad, leK]
 cases tAgg P t with
 | none => rfl
 | some b =>
  cases b with
  | true => cases tSize P t <;> rfl
  | false => cases tSize P t <;> cases cs <;> rfl
@[go_sem] theorem leK_true (n : Nat) (cs : List AV) : leK (some true) (some n) cs = if n ≤ cs.length then some (.agg (cs.take n), []) else none := rfl
@[go_sem] theorem leK_false (n : Option Nat) (cs : List AV) : leK (some false) n cs = (cs[0]?).map fun v => (v, []) := by cases n <;> rfl

/-! ### appending -/
def ownUs (o : Own) (id : Nat) : List U :=
 match o with
 | .own k _ _ => [.live k false, .live id true]
 | _ => [.live id true]
def ownRs (o : Own) : List Nat :=
 match o with
 | .own k _ _ => [k]
 | _ => []
theorem append_eq {t : TypeId} {e : TypeId} {sz bs : Nat} {o o' : Own} {es xs : List (List AV)} {x : List AV} (ht : tElem P t = some (e, sz, bs)) (hz : zeroOk P e sz = true) (hs : 0 < sz)
  (hb : (es.length + (xs.length + 1)) * bs ≤ 140737488355328) (hl : es.length + (xs.length + 1) ≤ 140737488355328) (hx : x.length = sz) (H : Heap) (id : Nat) (ho : OwnOk H o e sz) (hmu : mutT e = false := by rfl) :
  aAppend P t (.sl o es) (.sl o' (x :: xs)) H id = some (.sl (.own id e sz) (es ++ sanLL (x :: xs)), ownUs o id, ownRs o) := by
 cases o with
 | nil => simp only [aAppend, ht]; rw [if_pos ⟨hx, hs, hz, hb, hl⟩, if_neg (by rw [hmu]; exact Bool.false_ne_true)]; rfl
 | own k e' z =>
  obtain ⟨rfl, rfl, h3⟩ := ho
  simp only [aAppend, ht]; rw [if_pos ⟨hx, hs, hz, hb, hl⟩, if_pos (by simp [h3])]; rfl
 | sh => exact ho.elim
 | ex => exact ho.elim
@[go_sem] theorem ownUs_get (o : Own) (r : Nat) : (appU H (ownUs o id)).get r = H.get r := by cases o <;> rfl
@[go_sem] theorem ownUs_next (o : Own) : (appU H (ownUs o id)).next = H.next := by cases o <;> rfl
@[go_sem] theorem OwnOk_ownUs (o : Own) (e : TypeId) (sz : Nat) : OwnOk (appU H (ownUs o id)) (.own id e sz) e sz = True := by
 apply eq_true
 cases o <;> simp [ownUs, appU, U.app, OwnOk]
@[go_sem] theorem OwnOk_up (n : Nat) (o : Own) (e : TypeId) (sz : Nat) : OwnOk (H.up n) o e sz = OwnOk H o e sz := by cases o <;> rfl
@[go_sem] theorem OwnOk_put (r : Nat) (cs : List AV) (o : Own) (e : TypeId) (sz : Nat) : OwnOk (H.put r cs) o e sz = OwnOk H o e sz := by cases o <;> rfl
@[go_sem] theorem OwnOk_nil (e : TypeId) (sz : Nat) : OwnOk H .nil e sz = True := rfl
/-- A literal of one element. -/
theorem build1 {t : TypeId} {e : TypeId} {sz bs : Nat} (ht : tElem P t = some (e, sz, bs)) (hs : sz ≤ 16777216) {z : List AV} (hz : tZero P e = some z) (hz1 : z.length = sz) (hz2 : z.all AV.one = true) (v : AV)
  (h1 : v.cells.length = sz) (h2 : v.cells.all AV.one = true) : aBuildSlice P t 1 [(0, v)] = some (.sl .ex [v.cells]) := by
 simp only [aBuildSlice, ht, hz]
 rw [if_pos (by omega), if_pos ⟨hz1, hz2⟩]
 simp only [aFill]
 have : (List.replicate 1 z).flatten = z := by simp
 rw [this, if_pos ⟨h1, by omega, h2⟩]
 simp only [Nat.zero_mul, Nat.zero_add, List.take_zero, List.nil_append]
 rw [List.drop_of_length_le (by omega), List.append_nil]
 simp only [chunk]
 rw [List.take_of_length_le (by omega)]
/-- An empty literal. -/
theorem build0 {t : TypeId} {e : TypeId} {sz bs : Nat} (ht : tElem P t = some (e, sz, bs)) {z : List AV} (hz : tZero P e = some z) (hz1 : z.length = sz) (hz2 : z.all AV.one = true) : aBuildSlice P t 0 [] = some (.sl .ex []) := by
 simp only [aBuildSlice, ht, hz]
 rw [if_pos (by omega), if_pos ⟨hz1, hz2⟩]
 rfl
/-- Appending to a literal without elements. -/
theorem append_ex {t : TypeId} {e : TypeId} {sz bs : Nat} {o' : Own} {xs : List (List AV)} {x : List AV} (ht : tElem P t = some (e, sz, bs)) (hz : zeroOk P e sz = true) (hs : 0 < sz)
  (hb : (0 + (xs.length + 1)) * bs ≤ 140737488355328) (hl : 0 + (xs.length + 1) ≤ 140737488355328) (hx : x.length = sz) (H : Heap) (id : Nat) :
  aAppend P t (.sl .ex []) (.sl o' (x :: xs)) H id = some (.sl (.own id e sz) (sanLL (x :: xs)), [.live id true], []) := by
 simp only [aAppend, ht]; rw [if_pos ⟨hx, hs, hz, hb, hl⟩]; rfl
end
/-! ### where new variables are named ahead -/
section
variable {P : Program} {ρ : Operand → AV} {H : Heap} {id : Nat}
@[go_sem] theorem hd_load (t : TypeId) (x : Operand) : astepD P true ρ H id (.load t x) = astep P ρ H id (.load t x) := rfl
@[go_sem] theorem hd_store (t : TypeId) (x y : Operand) : astepD P true ρ H id (.store t x y) = astep P ρ H id (.store t x y) := rfl
@[go_sem] theorem hd_box (t : TypeId) (x : Operand) : astepD P true ρ H id (.box t x) = astep P ρ H id (.box t x) := rfl
@[go_sem] theorem hd_fieldAddr (t : TypeId) (x : Operand) (k : Nat) : astepD P true ρ H id (.fieldAddr t x k) = astep P ρ H id (.fieldAddr t x k) := rfl
@[go_sem] theorem hd_indexAddr (t : TypeId) (x y : Operand) : astepD P true ρ H id (.indexAddr t x y) = astep P ρ H id (.indexAddr t x y) := rfl
@[go_sem] theorem hd_move (x : Operand) : astepD P true ρ H id (.move x) = astep P ρ H id (.move x) := rfl
@[go_sem] theorem hd_assign (x : Operand) : astepD P true ρ H id (.assign x) = astep P ρ H id (.assign x) := rfl
@[go_sem] theorem hd_extract (x : Operand) (k : Nat) : astepD P true ρ H id (.extract x k) = astep P ρ H id (.extract x k) := rfl
@[go_sem] theorem hd_pick (x y z : Operand) : astepD P true ρ H id (.pick x y z) = astep P ρ H id (.pick x y z) := rfl
@[go_sem] theorem hd_binOp (op : BinOp) (t : TypeId) (x y : Operand) (t' : TypeId) : astepD P true ρ H id (.binOp op t x y t') = astep P ρ H id (.binOp op t x y t') := rfl
@[go_sem] theorem hd_unOp (op : UnOp) (t : TypeId) (x : Operand) : astepD P true ρ H id (.unOp op t x) = astep P ρ H id (.unOp op t x) := rfl
@[go_sem] theorem hd_build (t : TypeId) (ps : Array (Nat × Operand)) : astepD P true ρ H id (.build t ps) = astep P ρ H id (.build t ps) := rfl
@[go_sem] theorem hd_buildSlice (t : TypeId) (n : Nat) (ps : Array (Nat × Operand)) : astepD P true ρ H id (.buildSlice t n ps) = astep P ρ H id (.buildSlice t n ps) := rfl
@[go_sem] theorem hd_makeFunc (f : Fn) (a b : Array Operand) : astepD P true ρ H id (.makeFunc f a b) = astep P ρ H id (.makeFunc f a b) := rfl
@[go_sem] theorem hd_slice (t : TypeId) (x : Operand) (lo hi mx : Option Operand) : astepD P true ρ H id (.slice t x lo hi mx) = astep P ρ H id (.slice t x lo hi mx) := rfl
@[go_sem] theorem hd_nilCheck (x : Operand) : astepD P true ρ H id (.nilCheck x) = astep P ρ H id (.nilCheck x) := rfl
@[go_sem] theorem hd_convert (s d : TypeId) (x : Operand) : astepD P true ρ H id (.convert s d x) = astep P ρ H id (.convert s d x) := rfl
@[go_sem] theorem hd_makeInterface (t : TypeId) (x : Operand) : astepD P true ρ H id (.makeInterface t x) = astep P ρ H id (.makeInterface t x) := rfl
@[go_sem] theorem hd_panic (x : Operand) : astepD P true ρ H id (.panic x) = astep P ρ H id (.panic x) := rfl
@[go_sem] theorem hd_call (c : Call) : astepD P true ρ H id (.call c) = astep P ρ H id (.call c) := rfl
@[go_sem] theorem alh_same {z : List AV} (h : eqL z z = true) : alh (some z) (some z) id = some (.val (.ptr id 0) [] [id]) := by simp only [alh, h, if_true]
@[go_sem] theorem eqL_nil : eqL [] [] = true := rfl
@[go_sem] theorem eqL_int (k : IntKind) (n : Int) (l m : List AV) : eqL (.lit (.int k n) :: l) (.lit (.int k n) :: m) = eqL l m := by simp [eqL, eqA, eqV]
@[go_sem] theorem eqL_bool (b : Bool) (l m : List AV) : eqL (.lit (.bool b) :: l) (.lit (.bool b) :: m) = eqL l m := by simp [eqL, eqA, eqV]
@[go_sem] theorem eqL_string (b : ByteArray) (l m : List AV) : eqL (.lit (.string b) :: l) (.lit (.string b) :: m) = eqL l m := by simp [eqL, eqA, eqV]
@[go_sem] theorem eqL_slnil (l m : List AV) : eqL (.sl .nil [] :: l) (.sl .nil [] :: m) = eqL l m := by simp [eqL, eqA, eqO, eqLL]
end
end Go.Proofs.YtnoahchdmkpleaaGreat.VA
