/- What is proved: the abstract interpreter (VA) against the model's own machine: what it answers for a call is what the call comes to. No condition but that the table it is given is the program's. -/
import Derived.Test.YtiiaajajhkdemaaVb6
import Derived.LoopN
namespace Go.Proofs.Ytiiaajajhkdemaa.VA
open Go Go.RowKit
set_option linter.unusedSimpArgs false

/-- Is a function's code such that the interpreter may go over it? -/
def codeOk (n : Nat) : Code → Bool
  | .region _ ops d => ops.toList.all (dstOk n) && (!d || drawOk ops)
  | .seq a b => codeOk n a && codeOk n b
  | .cond _ a b => codeOk n a && codeOk n b
  | .block _ a => codeOk n a
  | .loop a => codeOk n a
  | .scope a => codeOk n a
  | _ => true
theorem exec_sound {P : Program} {K : Calling} {imp : FuncId → Bool} (hK : KOk P K imp) (hm : P.follows .mixedOrders = true) {n : Nat} : ∀ (k : Nat) (c : Code) (e : List AV) (H : Heap) (ex : Ex) (e' : List AV) (H' : Heap),
    exec P K imp k c e H = some (ex, e', H') → codeOk n c = true → ∀ (g : Gh) (a : Act) (w : World), Inv g H w → EnvRel g w e a.tmps → a.tmps.size = n → Top g H.next → ∀ Q : Exit → Act → World → Prop,
    (∀ g' x a' w', Past H.next g w g' H' w' → a'.defers = a.defers → a'.tmps.size = n → ExRel g' w' x a' ex e' → Q x a' w') →
    c.wp P Q a w ∧ ∀ body, c = .loop body → Code.rounds P body Q k a w := by
  intro k
  induction k with
  | zero => intro c e H ex e' H' h; simp [exec] at h
  | succ k ih =>
    intro c e H ex e' H' h hc g a w hi he hn ht Q hQ
    have hrefl : Past H.next g w g H w := ⟨Ext.refl g w, hi, ht, New.refl _ _, Nat.le_refl _⟩
    cases c with
    | skip =>
      simp only [exec, Option.some.injEq, Prod.mk.injEq] at h
      obtain ⟨rfl, rfl, rfl⟩ := h
      exact ⟨wp_skip (hQ g _ a w hrefl rfl hn ⟨rfl, he⟩), fun b hb => by cases hb⟩
    | label l =>
      simp only [exec, Option.some.injEq, Prod.mk.injEq] at h
      obtain ⟨rfl, rfl, rfl⟩ := h
      exact ⟨wp_label (hQ g _ a w hrefl rfl hn ⟨rfl, he⟩), fun b hb => by cases hb⟩
    | exit id =>
      simp only [exec, Option.some.injEq, Prod.mk.injEq] at h
      obtain ⟨rfl, rfl, rfl⟩ := h
      exact ⟨wp_exit (hQ g _ a w hrefl rfl hn ⟨rfl, he⟩), fun b hb => by cases hb⟩
    | ret =>
      simp only [exec, Option.some.injEq, Prod.mk.injEq] at h
      obtain ⟨rfl, rfl, rfl⟩ := h
      exact ⟨wp_ret (hQ g _ a w hrefl rfl hn ⟨rfl, he⟩), fun b hb => by cases hb⟩
    | goto l => simp [exec] at h
    | refuse why => simp [exec] at h
    | rangeFunc f ps as b => simp [exec] at h
    | region id ops d =>
      refine ⟨?_, fun b hb => by cases hb⟩
      simp only [exec] at h
      simp only [codeOk, Bool.and_eq_true, Bool.or_eq_true, Bool.not_eq_true'] at hc
      have hds : ∀ o, o ∈ ops.toList → dstOk n o = true := List.all_eq_true.1 hc.1
      cases d with
      | false =>
        simp only [runRegion] at h
        refine wp_region ?_
        have := runOps_sound hK (base := H.next) (n := n) ops.toList 0 e { H with next := H.next + ops.size } ex e' H' h (by simp) hds g a w (hi.next (fun _ => rfl) (fun _ => rfl)) he hn (ht.mono (by simp)) ?_ (by simp) Q ?_
        · rw [Array.length_toList] at this
          rw [List.range_eq_range']
          exact this
        · intro j h1 h2
          have := ht (H.next + j) (by omega)
          exact (hi.next (H' := { H with next := H.next + ops.size }) (fun _ => rfl) (fun _ => rfl)).fresh_of this.1 this.2
        · intro g' x a' w' hp hd hs hx
          exact hQ g' x a' w' hp hd hs hx
      | true =>
        simp only [runRegion] at h
        split at h
        · cases h
        · rename_i tr pk e1 H1 hrun
          split at h
          · rename_i hok
            have hdo : drawOk ops = true := by simpa using hc.2
            refine draw_sound hK hm hdo hds hrun hok hi he hn ht Q ?_ ?_
            · intro hpk g' a' w' hp hd hs hen
              subst hpk
              simp only [Option.some.injEq, Prod.mk.injEq] at h
              obtain ⟨rfl, rfl, rfl⟩ := h
              exact hQ g' _ a' w' hp hd hs ⟨rfl, hen⟩
            · intro kk v Hp hpk g' a' w' u hp hd hs hrel
              subst hpk
              simp only [Option.some.injEq, Prod.mk.injEq] at h
              obtain ⟨rfl, rfl, rfl⟩ := h
              exact hQ g' _ a' w' hp hd hs ⟨u, rfl, hrel⟩
          · cases h
    | seq x y =>
      refine ⟨?_, fun b hb => by cases hb⟩
      simp only [codeOk, Bool.and_eq_true] at hc
      simp only [exec] at h
      refine wp_seq ?_
      cases hx : exec P K imp k x e H with
      | none => rw [hx] at h; cases h
      | some r =>
        obtain ⟨ex1, e1, H1⟩ := r
        rw [hx] at h
        refine (ih x e H ex1 e1 H1 hx hc.1 g a w hi he hn ht _ ?_).1
        intro g' x' a' w' hp hd hs hr
        cases ex1 with
        | nrm =>
          obtain ⟨rfl, hen⟩ := hr
          simp only at h
          exact (ih y e1 H1 ex e' H' h hc.2 g' a' w' hp.inv hen hs hp.top Q (fun g2 x2 a2 w2 hp2 hd2 hs2 hr2 => hQ g2 x2 a2 w2 (hp.trans hp2 hp.next) (by rw [hd2, hd]) hs2 hr2)).1
        | exit id =>
          simp only [Option.some.injEq, Prod.mk.injEq] at h
          obtain ⟨rfl, rfl, rfl⟩ := h
          obtain ⟨rfl, hen⟩ := hr
          exact hQ g' _ a' w' hp hd hs ⟨rfl, hen⟩
        | ret =>
          simp only [Option.some.injEq, Prod.mk.injEq] at h
          obtain ⟨rfl, rfl, rfl⟩ := h
          obtain ⟨rfl, hen⟩ := hr
          exact hQ g' _ a' w' hp hd hs ⟨rfl, hen⟩
        | pan v =>
          simp only [Option.some.injEq, Prod.mk.injEq] at h
          obtain ⟨rfl, rfl, rfl⟩ := h
          obtain ⟨u, rfl, hen⟩ := hr
          exact hQ g' _ a' w' hp hd hs ⟨u, rfl, hen⟩
    | cond cc x y =>
      refine ⟨?_, fun b hb => by cases hb⟩
      simp only [codeOk, Bool.and_eq_true] at hc
      simp only [exec] at h
      have hr := he.eval cc
      split at h
      · rename_i hb
        rw [hb] at hr
        exact wp_cond_true hr.lit_inv (ih x e H ex e' H' h hc.1 g a w hi he hn ht Q hQ).1
      · rename_i hb
        rw [hb] at hr
        exact wp_cond_false hr.lit_inv (ih y e H ex e' H' h hc.2 g a w hi he hn ht Q hQ).1
      · cases h
    | block id x =>
      refine ⟨?_, fun b hb => by cases hb⟩
      simp only [codeOk] at hc
      simp only [exec] at h
      refine wp_block ?_
      cases hx : exec P K imp k x e H with
      | none => rw [hx] at h; cases h
      | some r =>
        obtain ⟨ex1, e1, H1⟩ := r
        rw [hx] at h
        refine (ih x e H ex1 e1 H1 hx hc g a w hi he hn ht _ ?_).1
        intro g' x' a' w' hp hd hs hr
        cases ex1 with
        | nrm =>
          simp only [Option.some.injEq, Prod.mk.injEq] at h
          obtain ⟨rfl, rfl, rfl⟩ := h
          obtain ⟨rfl, hen⟩ := hr
          exact hQ g' _ a' w' hp hd hs ⟨rfl, hen⟩
        | exit j =>
          obtain ⟨rfl, hen⟩ := hr
          simp only at h
          simp only [Exit.inBlock]
          split at h
          · rename_i hj
            simp only [Option.some.injEq, Prod.mk.injEq] at h
            obtain ⟨rfl, rfl, rfl⟩ := h
            rw [if_pos hj]
            exact hQ g' _ a' w' hp hd hs ⟨rfl, hen⟩
          · rename_i hj
            simp only [Option.some.injEq, Prod.mk.injEq] at h
            obtain ⟨rfl, rfl, rfl⟩ := h
            rw [if_neg hj]
            exact hQ g' _ a' w' hp hd hs ⟨rfl, hen⟩
        | ret =>
          simp only [Option.some.injEq, Prod.mk.injEq] at h
          obtain ⟨rfl, rfl, rfl⟩ := h
          obtain ⟨rfl, hen⟩ := hr
          exact hQ g' _ a' w' hp hd hs ⟨rfl, hen⟩
        | pan v =>
          simp only [Option.some.injEq, Prod.mk.injEq] at h
          obtain ⟨rfl, rfl, rfl⟩ := h
          obtain ⟨u, rfl, hen⟩ := hr
          exact hQ g' _ a' w' hp hd hs ⟨u, rfl, hen⟩
    | loop x =>
      simp only [codeOk] at hc
      simp only [exec] at h
      have hrounds : Code.rounds P x Q (k + 1) a w := by
        rw [rounds_succ]
        cases hx : exec P K imp k x e H with
        | none => rw [hx] at h; cases h
        | some r =>
          obtain ⟨ex1, e1, H1⟩ := r
          rw [hx] at h
          refine (ih x e H ex1 e1 H1 hx hc g a w hi he hn ht _ ?_).1
          intro g' x' a' w' hp hd hs hr
          cases ex1 with
          | nrm =>
            obtain ⟨rfl, hen⟩ := hr
            simp only at h
            exact (ih (.loop x) e1 H1 ex e' H' h (by simpa [codeOk] using hc) g' a' w' hp.inv hen hs hp.top Q
              (fun g2 x2 a2 w2 hp2 hd2 hs2 hr2 => hQ g2 x2 a2 w2 (hp.trans hp2 hp.next) (by rw [hd2, hd]) hs2 hr2)).2 x rfl
          | exit id =>
            simp only [Option.some.injEq, Prod.mk.injEq] at h
            obtain ⟨rfl, rfl, rfl⟩ := h
            obtain ⟨rfl, hen⟩ := hr
            exact hQ g' _ a' w' hp hd hs ⟨rfl, hen⟩
          | ret =>
            simp only [Option.some.injEq, Prod.mk.injEq] at h
            obtain ⟨rfl, rfl, rfl⟩ := h
            obtain ⟨rfl, hen⟩ := hr
            exact hQ g' _ a' w' hp hd hs ⟨rfl, hen⟩
          | pan v =>
            simp only [Option.some.injEq, Prod.mk.injEq] at h
            obtain ⟨rfl, rfl, rfl⟩ := h
            obtain ⟨u, rfl, hen⟩ := hr
            exact hQ g' _ a' w' hp hd hs ⟨u, rfl, hen⟩
      refine ⟨wp_loop_rounds (k + 1) hrounds, fun b hb => ?_⟩
      simp only [Code.loop.injEq] at hb
      subst hb
      exact hrounds
    | scope x =>
      refine ⟨?_, fun b hb => by cases hb⟩
      simp only [codeOk] at hc
      simp only [exec] at h
      refine wp_scope_straight (ih x e H ex e' H' h hc g a w hi he hn ht _ ?_).1
      intro g' x' a' w' hp hd hs hr
      have hq := hQ g' x' a' w' hp hd hs hr
      cases ex with
      | nrm => obtain ⟨rfl, hen⟩ := hr; exact hq
      | exit id => obtain ⟨rfl, hen⟩ := hr; exact hq
      | ret => obtain ⟨rfl, hen⟩ := hr; exact hq
      | pan v => obtain ⟨u, rfl, hen⟩ := hr; exact hq

/-! ### results -/
def resF (tmps : Array Value) : ResultVar → Sem Value
  | .tmp t => pure (tmps.getD t undef)
  | .cell a t => do loadVar t (← asAddr (tmps.getD a undef))
theorem results_eq (fn : Func) (tmps : Array Value) : results fn tmps = (do
    let vs ← fn.results.mapM (resF tmps)
    pure (if h : vs.size = 1 then vs[0] else .tuple vs)) := rfl
theorem aResult_sound {P : Program} {g : Gh} {H : Heap} {w : World} {e : List AV} {tmps : Array Value} {r : ResultVar} {v : AV} (h : aResult P e H r = some v) (hi : Inv g H w) (he : EnvRel g w e tmps) :
    ∃ u, (resF tmps r).run P w = .ok u w ∧ Rel g w v u := by
  cases r with
  | tmp t =>
    simp only [aResult, Option.some.injEq] at h
    subst h
    exact ⟨_, rfl, he t⟩
  | cell a t =>
    simp only [aResult] at h
    cases hl : aLoad P t (gget .bad e a) H with
    | none => simp [hl] at h
    | some p =>
      obtain ⟨z, rs⟩ := p
      simp [hl] at h
      subst h
      obtain ⟨u, h1, h2⟩ := aLoad_sound hl hi (he a)
      refine ⟨u, ?_, h2⟩
      have hr := he a
      simp only [Instr.loadAt] at h1
      have : ∃ ad, tmps.getD a undef = .pointer (some ad) := by
        generalize tmps.getD a undef = v at hr
        generalize gget .bad e a = x at hr hl
        cases hr with
        | ptr r off b hb => exact ⟨_, rfl⟩
        | ep cs b off f hv hc hrr => exact ⟨_, rfl⟩
        | _ => unfold aLoad at hl; split at hl <;> simp at hl
      obtain ⟨ad, hv⟩ := this
      simp only [resF]
      rw [hv] at h1 ⊢
      simpa [asAddr, Instr.sureAddr] using h1
theorem aResults_sound {P : Program} {g : Gh} {H : Heap} {w : World} {e : List AV} {tmps : Array Value} (hi : Inv g H w) (he : EnvRel g w e tmps) : ∀ (l : List ResultVar) (vs : List AV), aResults P e H l = some vs →
    ∃ us, (l.mapM (resF tmps)).run P w = .ok us w ∧ RelL g w vs us
  | [], vs, h => by simp [aResults] at h; subst h; exact ⟨[], rfl, RelL.nil g w⟩
  | r :: l, vs, h => by
    simp only [aResults] at h
    split at h
    · rename_i v vs' h1 h2
      simp only [Option.some.injEq] at h
      subst h
      obtain ⟨u, q1, q2⟩ := aResult_sound h1 hi he
      obtain ⟨us, q3, q4⟩ := aResults_sound hi he l vs' h2
      refine ⟨u :: us, ?_, RelL.cons q2 q4⟩
      simp only [List.mapM_cons, Sem.run_bind, q1, Result.andThen_ok, q3, Sem.run_pure]
    · cases h
theorem results_sound {P : Program} {g : Gh} {H : Heap} {w : World} {e : List AV} {tmps : Array Value} {fn : Func} {vs : List AV} (h : aResults P e H fn.results.toList = some vs) (hi : Inv g H w) (he : EnvRel g w e tmps) :
    ∃ u, (results fn tmps).run P w = .ok u w ∧ Rel g w (oneOr vs) u := by
  obtain ⟨us, h1, h2⟩ := aResults_sound hi he _ _ h
  rw [results_eq]
  simp only [Sem.run_bind, Array.mapM_eq_mapM_toList, Sem.run_map, h1, Result.andThen_ok, Sem.run_pure]
  refine ⟨_, rfl, ?_⟩
  cases vs with
  | nil =>
    cases us with
    | nil => exact .tup [] _ rfl (by simp)
    | cons u us => exact absurd h2.1 (by simp)
  | cons v vs =>
    cases us with
    | nil => exact absurd h2.1 (by simp)
    | cons u us =>
      cases vs with
      | nil =>
        cases us with
        | nil => simpa [oneOr] using h2.head
        | cons u' us => exact absurd h2.1 (by simp)
      | cons v' vs =>
        cases us with
        | nil => exact absurd h2.1 (by simp)
        | cons u' us =>
          simp only [oneOr]
          rw [dif_neg (by simp)]
          exact Rel.mk_tup (by simpa using h2)
end Go.Proofs.Ytiiaajajhkdemaa.VA
