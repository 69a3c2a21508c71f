/- What is proved: a region whose order is the text's, in the abstract interpreter (VA), against the model's own rules. No condition. -/
import Derived.Test.YtiiaajajhkdemaaVb2
namespace Go.Proofs.Ytiiaajajhkdemaa.VA
open Go Go.RowKit

def Top (g : Gh) (N : Nat) : Prop := ∀ r, N ≤ r → g.box r = none ∧ g.own r = none
def New (N : Nat) (g g' : Gh) : Prop := ∀ r, r < N → g'.box r = g.box r ∧ g'.own r = g.own r
theorem New.refl (N : Nat) (g : Gh) : New N g g := fun _ _ => ⟨rfl, rfl⟩
theorem New.trans {N : Nat} {g g1 g2 : Gh} (h : New N g g1) (k : New N g1 g2) : New N g g2 := fun r hr => ⟨(k r hr).1.trans (h r hr).1, (k r hr).2.trans (h r hr).2⟩
theorem New.mono {N M : Nat} {g g' : Gh} (h : New N g g') (hm : M ≤ N) : New M g g' := fun r hr => h r (Nat.lt_of_lt_of_le hr hm)
theorem Top.mono {N M : Nat} {g : Gh} (h : Top g N) (hm : N ≤ M) : Top g M := fun r hr => h r (Nat.le_trans hm hr)
/-- From one state to a later one. -/
structure Past (N : Nat) (g : Gh) (w : World) (g' : Gh) (H' : Heap) (w' : World) : Prop where
  ext : Ext g w g' w'
  inv : Inv g' H' w'
  top : Top g' H'.next
  new : New N g g'
  next : N ≤ H'.next
theorem Past.trans {N M : Nat} {g g1 g2 : Gh} {H1 H2 : Heap} {w w1 w2 : World} (h : Past N g w g1 H1 w1) (k : Past M g1 w1 g2 H2 w2) (hM : N ≤ M) : Past N g w g2 H2 w2 :=
  ⟨h.ext.trans k.ext, k.inv, k.top, h.new.trans (k.new.mono hM), Nat.le_trans hM k.next⟩
def oneEntry (u : Value) : List PanicEntry := [{ v := u, recovered := false }]
def CPost (g : Gh) (N : Nat) (w : World) : CR → Ending → World → Prop
  | .ret v H', en, w' => ∃ u g', en = .returned u ∧ Past N g w g' H' w' ∧ Rel g' w' v u
  | .pan v H', en, w' => ∃ u g', en = .panicked (oneEntry u) ∧ Past N g w g' H' w' ∧ Rel g' w' v u
structure KOk (P : Program) (K : Calling) (imp : FuncId → Bool) : Prop where
  calls : ∀ f args H r, K f args H = some r → ∀ g w (vs : Array Value), Inv g H w → Top g H.next → RelL g w args vs.toList →
    (callFunc f vs).run P w = .ok (.enter f vs) w ∧ Calls P f vs w (CPost g H.next w r)
  pure : ∀ f args H r, imp f = false → K f args H = some r → ∃ v, r = .ret v H ∧ ∀ H2, K f args H2 = some (.ret v H2)
def ExRel (g : Gh) (w : World) (x : Exit) (a : Act) : Ex → List AV → Prop
  | .nrm, e => x = .normal ∧ EnvRel g w e a.tmps
  | .exit id, e => x = .exit id ∧ EnvRel g w e a.tmps
  | .ret, e => x = .ret ∧ EnvRel g w e a.tmps
  | .pan v, _ => ∃ u, x = .panic (oneEntry u) ∧ Rel g w v u
theorem appU_next (H : Heap) (us : List U) : (appU H us).next = H.next := by
  induction us generalizing H with
  | nil => rfl
  | cons u us ih => simp only [appU]; rw [ih]; cases u <;> rfl
theorem aWanted_sound {ops : Array Oper} {e : List AV} {o : Oper} {b : Bool} {g : Gh} {w : World} {tmps : Array Value} (h : aWanted ops e o = some b) (he : EnvRel g w e tmps) :
    Region.wanted o (yielded ops tmps) = b := by
  unfold aWanted at h
  unfold Region.wanted
  split at h
  · rename_i hg
    rw [hg]
    simpa using h
  · rename_i j want hg
    rw [hg]
    simp only
    unfold yielded
    split at h
    · rename_i d hd
      rw [hd]
      have hr := he d
      simp only [Option.bind_some]
      split at h
      · rename_i b' hb
        rw [hb] at hr
        have hv := hr.lit_inv
        simp only [Option.some.injEq] at h
        subst h
        by_cases hlt : d < tmps.size
        · simp [hlt] at hv
          simp [hlt, hv]
        · simp [hlt, undef] at hv
      · rename_i hb
        rw [hb] at hr
        simp only [Option.some.injEq] at h
        subst h
        obtain ⟨vs, hv, _⟩ := hr.tup_inv
        by_cases hlt : d < tmps.size
        · simp [hlt] at hv
          simp [hlt, hv]
        · simp [hlt]
      · cases h
    · rename_i hd
      rw [hd]
      simpa using h
def dstOk (n : Nat) (o : Oper) : Bool :=
  match o.dst with
  | some d => decide (d < n)
  | none => true
theorem dstOk_spec {n : Nat} {o : Oper} (h : dstOk n o = true) : ∀ d, o.dst = some d → d < n := by
  intro d hd
  simpa [dstOk, hd] using h
theorem Inv.next {g : Gh} {H H' : Heap} {w : World} (h : Inv g H w) (hg : ∀ r, H'.get r = H.get r) (hl : ∀ s, H'.isLive s = H.isLive s) : Inv g H' w :=
  ⟨h.lo, h.fresh, h.boxB, h.boxI, fun r cs hr => h.box r cs (by rw [← hg]; exact hr), fun s hs => h.live s (by rw [← hl]; exact hs), fun s s' b x y h1 h2 => h.liveI s s' b x y (by rw [← hl]; exact h1) (by rw [← hl]; exact h2)⟩
/-- One operation that is wanted, whatever stands behind it. -/
theorem oper_sound {P : Program} {K : Calling} {imp : FuncId → Bool} (hK : KOk P K imp) {e : List AV} {H : Heap} {g : Gh} {a : Act} {w : World} {o : Oper} {id N : Nat} {r : Sr}
    (h : astep P (aeval e) H id o.op = some r) (hi : Inv g H w) (he : EnvRel g w e a.tmps) (ht : Top g H.next) (hf : Fresh g H id) (hN : N ≤ H.next) (hid : N ≤ id) (hidt : id < H.next)
    (hd : ∀ d, o.dst = some d → d < a.tmps.size) {next : Act → World → Prop} {Q : Exit → Act → World → Prop}
    (hval : ∀ v us rs, r = .val v us rs → ∀ g' u w', Past N g w g' (appU H us) w' → (∀ k, k ≠ id → g'.box k = g.box k ∧ g'.own k = g.own k) → EnvRel g' w' (aput e o.dst v) (a.put o.dst u).tmps → next (a.put o.dst u) w')
    (hcall : ∀ f args, r = .call f args → ∃ c, K f args H = some c ∧
      (∀ v H', c = .ret v H' → ∀ g' u w', Past H.next g w g' H' w' → EnvRel g' w' (aput e o.dst v) (a.put o.dst u).tmps → next (a.put o.dst u) w') ∧
      (∀ v H', c = .pan v H' → ∀ g' u w', Past H.next g w g' H' w' → Rel g' w' v u → Q (.panic (oneEntry u)) a w'))
    (hpan : ∀ v, r = .pan v → ∀ u, Rel g w v u → Q (.panic (oneEntry u)) a w) : o.wp P a w next Q := by
  have hs := astep_sound (o := o) (ρ' := a.eval) h hi hf (fun x => he.eval x)
  unfold Oper.wp
  cases r with
  | val v us rs =>
    obtain ⟨g', w', nx, u, h1, h2, h3, h4, h5, h6⟩ := hs
    rw [h1]
    have hp : Past N g w g' (appU H us) w' := by
      refine ⟨h3, h4, ?_, fun r hr => h6 r (by omega), by rw [appU_next]; exact hN⟩
      intro r hr
      rw [appU_next] at hr
      rw [(h6 r (by omega)).1, (h6 r (by omega)).2]
      exact ht r hr
    have hrel : EnvRel g' w' (aput e o.dst v) (a.put o.dst u).tmps := (he.ext h3).put hd h5
    rcases h2 with rfl | ⟨rfl, rfl⟩
    · exact hval v us rs rfl g' u w' hp h6 hrel
    · exact hval v us rs rfl g' undef w' hp h6 hrel
  | call f args =>
    obtain ⟨vs, h1, h2⟩ := hs
    obtain ⟨c, hc, hret, hpn⟩ := hcall f args rfl
    obtain ⟨q1, q2⟩ := hK.calls f args H c hc g w vs hi ht h2
    rw [h1, q1]
    refine q2.mono fun en w' hpost => ?_
    cases c with
    | ret v H' =>
      obtain ⟨u, g', rfl, hp, hr⟩ := hpost
      exact hret v H' rfl g' u w' hp ((he.ext hp.ext).put hd hr)
    | pan v H' =>
      obtain ⟨u, g', rfl, hp, hr⟩ := hpost
      exact hpn v H' rfl g' u w' hp hr
  | pan v =>
    obtain ⟨u, h1, h2⟩ := hs
    rw [h1]
    exact hpan v rfl u h2
theorem runOps_sound {P : Program} {K : Calling} {imp : FuncId → Bool} (hK : KOk P K imp) {ops : Array Oper} {base n : Nat} : ∀ (os : List Oper) (i : Nat) (e : List AV) (H : Heap) (ex : Ex) (e' : List AV) (H' : Heap),
    runOps P K ops base os i e H = some (ex, e', H') → os = ops.toList.drop i → (∀ o, o ∈ os → dstOk n o = true) → ∀ (g : Gh) (a : Act) (w : World), Inv g H w → EnvRel g w e a.tmps → a.tmps.size = n → Top g H.next →
    (∀ j, i ≤ j → j < i + os.length → Fresh g H (base + j)) → base + i + os.length ≤ H.next → ∀ Q : Exit → Act → World → Prop,
    (∀ g' x a' w', Past base g w g' H' w' → a'.defers = a.defers → a'.tmps.size = n → ExRel g' w' x a' ex e' → Q x a' w') → wpOps P ops Q (List.range' i os.length) a w := by
  intro os
  induction os with
  | nil =>
    intro i e H ex e' H' h _ _ g a w hi he hn ht _ hb Q hQ
    simp only [runOps, Option.some.injEq, Prod.mk.injEq] at h
    obtain ⟨rfl, rfl, rfl⟩ := h
    exact hQ g .normal a w ⟨Ext.refl g w, hi, ht, New.refl _ _, by simp at hb; omega⟩ rfl hn ⟨rfl, he⟩
  | cons o os ih =>
    intro i e H ex e' H' h hos hd g a w hi he hn ht hf hb Q hQ
    have hoi : ops[i]? = some o := by
      have : (ops.toList.drop i)[0]? = some o := by rw [← hos]; rfl
      simpa using this
    have hos' : os = ops.toList.drop (i + 1) := by
      have : (o :: os).tail = (ops.toList.drop i).tail := by rw [hos]
      simpa using this
    have hlen : (o :: os).length = os.length + 1 := rfl
    rw [hlen] at hf hb ⊢
    rw [List.range'_succ]
    simp only [wpOps, hoi]
    have hdo : ∀ d, o.dst = some d → d < a.tmps.size := by rw [hn]; exact dstOk_spec (hd o (List.mem_cons_self ..))
    have hd' : ∀ o', o' ∈ os → dstOk n o' = true := fun o' ho' => hd o' (List.mem_cons_of_mem _ ho')
    simp only [runOps] at h
    cases hw : aWanted ops e o with
    | none => simp [hw] at h
    | some b =>
      rw [aWanted_sound hw he]
      simp only [hw] at h
      cases b with
      | false =>
        simp only at h
        rw [if_neg (by simp)]
        exact ih (i + 1) _ H ex e' H' h hos' hd' g (a.put o.dst undef) w hi (he.put hdo (.tup [] #[] rfl (by simp))) (by rw [size_put]; exact hn) ht
          (fun j h1 h2 => hf j (by omega) (by omega)) (by omega) Q (fun g' x a' w' hp hdf hsz hx => hQ g' x a' w' hp (by rw [hdf, defers_put]) hsz hx)
      | true =>
        simp only at h
        rw [if_pos rfl]
        left
        cases hst : astep P (aeval e) H (base + i) o.op with
        | none => simp [hst] at h
        | some r =>
          simp only [hst] at h
          refine oper_sound hK (N := base) hst hi he ht (hf i (Nat.le_refl _) (by omega)) (by omega) (by omega) (by omega) hdo ?_ ?_ ?_
          · intro v us rs hr g' u w' hp hk hrel
            subst hr
            simp only at h
            refine ih (i + 1) _ (appU H us) ex e' H' h hos' hd' g' (a.put o.dst u) w' hp.inv hrel (by rw [size_put]; exact hn) hp.top ?_ (by rw [appU_next]; omega) Q
              (fun g2 x a' w2 hp2 hdf hsz hx => hQ g2 x a' w2 (hp.trans hp2 (Nat.le_refl _)) (by rw [hdf, defers_put]) hsz hx)
            intro j h1 h2
            obtain ⟨q1, q2, _, _⟩ := hf j (by omega) (by omega)
            have := hk (base + j) (by omega)
            exact hp.inv.fresh_of (by rw [this.1]; exact q1) (by rw [this.2]; exact q2)
          · intro f args hr
            subst hr
            simp only at h
            cases hc : K f args H with
            | none => simp [hc] at h
            | some c =>
              simp only [hc] at h
              refine ⟨c, rfl, ?_, ?_⟩
              · intro v H1 hcr g' u w' hp hrel
                subst hcr
                simp only at h
                have hpb : Past base g w g' H1 w' := ⟨hp.ext, hp.inv, hp.top, hp.new.mono (by omega), by have := hp.next; omega⟩
                refine ih (i + 1) _ H1 ex e' H' h hos' hd' g' (a.put o.dst u) w' hp.inv hrel (by rw [size_put]; exact hn) hp.top ?_ (by have := hp.next; omega) Q
                  (fun g2 x a' w2 hp2 hdf hsz hx => hQ g2 x a' w2 (hpb.trans hp2 (Nat.le_refl _)) (by rw [hdf, defers_put]) hsz hx)
                intro j h1 h2
                obtain ⟨q1, q2, _, _⟩ := hf j (by omega) (by omega)
                have := hp.new (base + j) (by omega)
                exact hp.inv.fresh_of (by rw [this.1]; exact q1) (by rw [this.2]; exact q2)
              · intro v H1 hcr g' u w' hp hrel
                subst hcr
                simp only [Option.some.injEq, Prod.mk.injEq] at h
                obtain ⟨rfl, rfl, rfl⟩ := h
                exact hQ g' _ a w' ⟨hp.ext, hp.inv, hp.top, hp.new.mono (by omega), by have := hp.next; omega⟩ rfl hn ⟨u, rfl, hrel⟩
          · intro v hr u hrel
            subst hr
            simp only [Option.some.injEq, Prod.mk.injEq] at h
            obtain ⟨rfl, rfl, rfl⟩ := h
            exact hQ g _ a w ⟨Ext.refl g w, hi, ht, New.refl _ _, by omega⟩ rfl hn ⟨u, rfl, hrel⟩
end Go.Proofs.Ytiiaajajhkdemaa.VA
