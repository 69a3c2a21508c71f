/- What is proved: what a region that draws its order has done, operation by operation, in the abstract interpreter (VA). No condition. -/
import Derived.Test.YtiiaajajhkdemaaVb4
namespace Go.Proofs.Ytiiaajajhkdemaa.VA
open Go Go.RowKit
set_option linter.unusedSimpArgs false

theorem map_parts {ρ ρ' : Operand → AV} (ps : Array (Nat × Operand)) (h : ∀ x, x ∈ ps.toList.map (·.2) → ρ x = ρ' x) :
    ps.toList.map (fun p => (p.1, ρ p.2)) = ps.toList.map (fun p => (p.1, ρ' p.2)) :=
  List.map_congr_left fun p hp => by rw [h p.2 (List.mem_map.2 ⟨p, hp, rfl⟩)]
theorem aPure_congr {P : Program} {ρ ρ' : Operand → AV} {op : Op} (h : ∀ x, x ∈ op.operands → ρ x = ρ' x) : aPure P ρ op = aPure P ρ' op := by
  cases op <;> simp only [Op.operands] at h <;> simp only [aPure]
  case move x => rw [h x (by simp)]
  case assign x => rw [h x (by simp)]
  case pick c a b => rw [h c (by simp), h a (by simp), h b (by simp)]
  case build t ps => rw [map_parts ps (fun x hx => h x (by simpa using hx))]
  case nilCheck x => rw [h x (by simp)]
  case binOp op xt x y yt => rw [h x (by simp), h y (by simp)]
  case unOp op xt x => rw [h x (by simp)]
  case convert s d x => rw [h x (by simp)]
  case makeInterface t x => rw [h x (by simp)]
  case makeFunc fn first caps =>
    cases fn <;> simp only [aPure]
    rw [List.map_congr_left (fun x hx => h x (by simp; exact .inr (by simpa using hx)))]
  case slice t x lo hi mx =>
    cases mx <;> simp only [aPure]
    rw [h x (by simp)]
    have h1 : lo.map ρ = lo.map ρ' := by cases lo <;> simp_all
    have h2 : hi.map ρ = hi.map ρ' := by cases hi <;> simp_all
    rw [h1, h2]
  case fieldAddr t x k => rw [h x (by simp)]
  case field t x k => rw [h x (by simp)]
  case indexAddr t x i => rw [h x (by simp), h i (by simp)]
  case index t x i => rw [h x (by simp), h i (by simp)]
  case extract x i => rw [h x (by simp)]
  case call c =>
    obtain ⟨callee, args, argTypes⟩ := c
    have hargs : ∀ x, x ∈ args.toList → ρ x = ρ' x := fun x hx => h x (by simp [Call.operands]; exact .inr (by simpa using hx))
    cases callee <;> (try simp only [aPure])
    rename_i b
    cases b <;> (try simp only [aPure])
    case len =>
      split <;> simp_all
    case min =>
      split <;> simp_all
    case max =>
      split <;> simp_all
theorem astep_congr {P : Program} {ρ ρ' : Operand → AV} {H : Heap} {id : Nat} {op : Op} (h : ∀ x, x ∈ op.operands → ρ x = ρ' x) : astep P ρ H id op = astep P ρ' H id op := by
  have hp := aPure_congr (P := P) h
  cases op <;> simp only [Op.operands] at h <;> simp only [astep] <;> try rw [hp]
  case box t x => rw [h x (by simp)]
  case buildSlice t n ps => rw [map_parts ps (fun x hx => h x (by simpa using hx))]
  case load t x => rw [h x (by simp)]
  case store t x v => rw [h x (by simp), h v (by simp)]
  case panic x => rw [h x (by simp)]
  case call c =>
    obtain ⟨callee, args, argTypes⟩ := c
    have hargs : ∀ x, x ∈ args.toList → ρ x = ρ' x := fun x hx => h x (by simp [Call.operands]; exact .inr (by simpa using hx))
    cases callee
    case value f =>
      have hf : ρ f = ρ' f := h f (by simp [Call.operands])
      simp only [astep]
      rw [hf, List.map_congr_left hargs]
    case builtin b =>
      cases b <;> (try simp only [astep]) <;> (try rw [hp])
      case append =>
        split <;> simp_all
    case invoke r m => simp only [astep]; rw [hp]
theorem aLoad_congr {P : Program} {t : TypeId} {x z : AV} {H H' : Heap} {rs : List Nat} (h : aLoad P t x H = some (z, rs)) (hk : ∀ k, k ∈ rs → H'.get k = H.get k) : aLoad P t x H' = some (z, rs) := by
  unfold aLoad at h ⊢
  split at h
  · rename_i ha
    try simp only [ha]
    split at h
    · rename_i n r off hs
      try simp only [hs]
      split at h
      · rename_i cs hcs
        split at h
        · rename_i hle
          simp only [Option.some.injEq, Prod.mk.injEq] at h
          obtain ⟨rfl, rfl⟩ := h
          simp only [hk r (by simp), hcs, if_pos hle]
        · cases h
      · cases h
    · rename_i n cs hs
      try simp only [hs]
      exact h
    · cases h
  · rename_i ha
    try simp only [ha]
    split at h
    · rename_i r off
      split at h
      · rename_i cs hcs
        split at h
        · rename_i v hv
          simp only [Option.some.injEq, Prod.mk.injEq] at h
          obtain ⟨rfl, rfl⟩ := h
          simp only [hk r (by simp), hcs, hv]
        · cases h
      · cases h
    · exact h
    · cases h
  · cases h
theorem aStore_congr {P : Program} {t : TypeId} {x z : AV} {H H' : Heap} {us : List U} (h : aStore P t x z H = some us) (hk : ∀ u, u ∈ us → H'.get u.key = H.get u.key) : aStore P t x z H' = some us := by
  unfold aStore at h ⊢
  split at h
  · rename_i n r off hs
    try simp only [hs]
    split at h
    · rename_i cs hcs
      split at h
      · rename_i hle
        simp only [Option.some.injEq] at h
        have hr : H'.get r = H.get r := hk (.box r _) (by rw [← h]; exact List.mem_cons_self ..)
        simp only [hr, hcs, if_pos hle, h]
      · cases h
    · cases h
  · cases h
theorem aAppend_congr {P : Program} {t : TypeId} {s x z : AV} {H H' : Heap} {us : List U} {rs : List Nat} {id : Nat} (h : aAppend P t s x H id = some (z, us, rs)) (hk : ∀ k, k ∈ rs → H'.isLive k = H.isLive k) :
    aAppend P t s x H' id = some (z, us, rs) := by
  unfold aAppend at h ⊢
  split at h
  · rename_i e sz by_ o es ox xs het
    try simp only [het]
    split at h
    · exact h
    · rename_i x0 xs'
      split at h
      · rename_i hc
        try simp only [if_pos hc]
        split at h
        · exact h
        · exact h
        · rename_i k e' sz'
          split at h
          · rename_i hl
            simp only [Option.some.injEq, Prod.mk.injEq] at h
            have := hk k (by rw [← h.2.2]; simp)
            rw [if_pos (by rw [this]; exact hl)]
            simp only [h.1, h.2.1, h.2.2]
          · cases h
        · cases h
      · cases h
  · cases h
def Sr.keys : Sr → List Nat
  | .val _ us rs => rs ++ us.map U.key
  | _ => []
theorem astep_heap {P : Program} {ρ : Operand → AV} {H H' : Heap} {id : Nat} {op : Op} {r : Sr} (h : astep P ρ H id op = some r) (hk : ∀ k, k ∈ r.keys → obs H' k = obs H k) : astep P ρ H' id op = some r := by
  have hg : ∀ k, k ∈ r.keys → H'.get k = H.get k := fun k hkk => by have := hk k hkk; simp only [obs, Prod.mk.injEq] at this; exact this.1
  have hl : ∀ k, k ∈ r.keys → H'.isLive k = H.isLive k := fun k hkk => by have := hk k hkk; simp only [obs, Prod.mk.injEq] at this; exact this.2
  cases op <;> simp only [astep] at h ⊢ <;> try exact h
  case load t x =>
    cases hb : aLoad P t (ρ x) H with
    | none => simp [hb] at h
    | some p =>
      obtain ⟨v, rs⟩ := p
      simp [hb] at h
      subst h
      rw [aLoad_congr hb (fun k hkk => hg k (by simp [Sr.keys, hkk]))]
      rfl
  case store t x v =>
    cases hb : aStore P t (ρ x) (ρ v) H with
    | none => simp [hb] at h
    | some us =>
      simp [hb] at h
      subst h
      rw [aStore_congr hb (fun u hu => hg u.key (by simp [Sr.keys]; exact ⟨u, hu, rfl⟩))]
      rfl
  case call c =>
    obtain ⟨callee, args, argTypes⟩ := c
    cases callee <;> (try simp only [astep] at h ⊢) <;> (try exact h)
    rename_i b
    cases b <;> (try simp only [astep] at h ⊢) <;> (try exact h)
    split at h
    · rename_i s x t t' hargs hts
      try simp only [hargs, hts]
      split at h
      · rename_i htt
        try rw [if_pos htt]
        cases hb : aAppend P t (ρ s) (ρ x) H id with
        | none => simp [hb] at h
        | some p =>
          obtain ⟨v, us, rs⟩ := p
          simp [hb] at h
          subst h
          rw [aAppend_congr hb (fun k hkk => hl k (by simp [Sr.keys, hkk]))]
          rfl
      · cases h
    · cases h
theorem aWanted_congr {ops : Array Oper} {e e' : List AV} {o : Oper} (h : ∀ d, d ∈ o.looksAt ops → gget .bad e' d = gget .bad e d) : aWanted ops e' o = aWanted ops e o := by
  unfold aWanted
  cases hg : o.guard with
  | none => rfl
  | some p =>
    obtain ⟨j, want⟩ := p
    simp only
    cases hd : (ops[j]?).bind (·.dst) with
    | none => rfl
    | some d => simp only; rw [h d (by simp [Oper.looksAt, hg, hd])]
theorem aeval_congr {ops : Array Oper} {e e' : List AV} {o : Oper} (h : ∀ d, d ∈ o.looksAt ops → gget .bad e' d = gget .bad e d) (x : Operand) (hx : x ∈ o.op.operands) : aeval e' x = aeval e x := by
  cases x with
  | tmp t =>
    refine h t ?_
    unfold Oper.looksAt
    exact List.mem_append_left _ (List.mem_filterMap.2 ⟨.tmp t, by simpa using hx, rfl⟩)
  | _ => rfl
/-- What is known of operation number i. -/
def Spec (P : Program) (K : Calling) (imp : FuncId → Bool) (ops : Array Oper) (base : Nat) (o : Oper) (i : Nat) (L : List AV) (G : Heap) (pk : Option (Nat × AV × Heap)) : Tr → Prop
  | .dead => ∃ k x, pk = some (k, x) ∧ anc ops k i = true
  | .pan => ∃ v Hp, pk = some (i, v, Hp) ∧ aWanted ops L o = some true ∧
      ((astep P (aeval L) G (base + i) o.op = some (.pan v) ∧ Hp = G) ∨ ∃ f args, astep P (aeval L) G (base + i) o.op = some (.call f args) ∧ imp f = true ∧ K f args G = some (.pan v Hp))
  | .val v us rs => (aWanted ops L o = some false ∧ v = .tup [] ∧ us = [] ∧ rs = []) ∨ (aWanted ops L o = some true ∧ (astep P (aeval L) G (base + i) o.op = some (.val v us rs) ∨
      ∃ f args H', astep P (aeval L) G (base + i) o.op = some (.call f args) ∧ imp f = false ∧ K f args G = some (.ret v H') ∧ us = [] ∧ rs = []))
  | .call v Hb Ha => aWanted ops L o = some true ∧ Hb = G ∧ ∃ f args, astep P (aeval L) G (base + i) o.op = some (.call f args) ∧ imp f = true ∧ K f args G = some (.ret v Ha)
theorem runTr_spec {P : Program} {K : Calling} {imp : FuncId → Bool} {ops : Array Oper} {base : Nat} {op : Nat → Oper} {t : Nat → Tr} {e0 : List AV} {H0 : Heap} (hop : ∀ j o, ops[j]? = some o → op j = o) :
    ∀ (os : List Oper) (i : Nat) (pk : Option (Nat × AV × Heap)) (e : List AV) (H : Heap) (tr : List Tr) (pk' : Option (Nat × AV × Heap)) (e' : List AV) (H' : Heap),
    runTr P K imp ops base os i pk e H = some (tr, pk', e', H') → os = ops.toList.drop i → (∀ j, j < os.length → t (i + j) = tr.getD j .dead) → e = eAt op t full e0 i → H = hAt t full H0 i →
    (∀ k x, pk = some (k, x) → k < i) →
    (∀ j, i ≤ j → j < i + os.length → Spec P K imp ops base (op j) j (eAt op t full e0 j) (hAt t full H0 j) pk' (t j) ∧ (∀ k x, pk' = some (k, x) → k < j → loud (t j) = false)) ∧
      e' = eAt op t full e0 (i + os.length) ∧ H' = hAt t full H0 (i + os.length) ∧ (∀ x, pk = some x → pk' = some x) ∧
      (∀ k x, pk' = some (k, x) → pk = some (k, x) ∨ (i ≤ k ∧ k < i + os.length ∧ t k = .pan)) := by
  intro os
  induction os with
  | nil =>
    intro i pk e H tr pk' e' H' h _ _ he hH _
    simp only [runTr, Option.some.injEq, Prod.mk.injEq] at h
    obtain ⟨rfl, rfl, rfl, rfl⟩ := h
    exact ⟨fun j h1 h2 => absurd h2 (by simp; omega), by simpa using he, by simpa using hH, fun x h => h, fun k x h => .inl h⟩
  | cons o os ih =>
    intro i pk e H tr pk' e' H' h hos ht he hH hpk
    have hoi : op i = o := by
      refine hop i o ?_
      have : (ops.toList.drop i)[0]? = some o := by rw [← hos]; rfl
      simpa using this
    have hos' : os = ops.toList.drop (i + 1) := by
      have : (o :: os).tail = (ops.toList.drop i).tail := by rw [hos]
      simpa using this
    have hlen : (o :: os).length = os.length + 1 := rfl
    -- one step, then the rest
    have go : ∀ (t0 : Tr) (pk1 : Option (Nat × AV × Heap)) (tr1 : List Tr), runTr P K imp ops base os (i + 1) pk1 (putT o t0 e) (appT t0 H) = some (tr1, pk', e', H') → tr = t0 :: tr1 →
        (∀ k x, pk1 = some (k, x) → k < i + 1) → (∀ x, pk = some x → pk1 = some x) → (∀ k x, pk1 = some (k, x) → pk = some (k, x) ∨ (k = i ∧ t0 = .pan)) →
        ((∀ x, pk1 = some x → pk' = some x) → (∀ k x, pk' = some (k, x) → k < i → pk = some (k, x)) → Spec P K imp ops base o i e H pk' t0 ∧ (∀ k x, pk' = some (k, x) → k < i → loud t0 = false)) →
        (∀ j, i ≤ j → j < i + (o :: os).length → Spec P K imp ops base (op j) j (eAt op t full e0 j) (hAt t full H0 j) pk' (t j) ∧ (∀ k x, pk' = some (k, x) → k < j → loud (t j) = false)) ∧
          e' = eAt op t full e0 (i + (o :: os).length) ∧ H' = hAt t full H0 (i + (o :: os).length) ∧ (∀ x, pk = some x → pk' = some x) ∧
          (∀ k x, pk' = some (k, x) → pk = some (k, x) ∨ (i ≤ k ∧ k < i + (o :: os).length ∧ t k = .pan)) := by
      intro t0 pk1 tr1 hrun htr hp1 hp2 hp3 hspec
      have hti : t i = t0 := by have := ht 0 (by simp); rw [htr] at this; simpa using this
      have h1 : putT o t0 e = eAt op t full e0 (i + 1) := by
        simp only [eAt]
        rw [if_pos (full_eq i), hti, hoi, ← he]
      have h2 : appT t0 H = hAt t full H0 (i + 1) := by
        simp only [hAt]
        rw [if_pos (full_eq i), hti, ← hH]
      obtain ⟨q1, q2, q3, q4, q5⟩ := ih (i + 1) pk1 _ _ tr1 pk' e' H' hrun hos' (fun j hj => by
        have := ht (j + 1) (by simp; omega)
        rw [htr] at this
        rw [show i + 1 + j = i + (j + 1) by omega, this]
        simp) h1 h2 hp1
      obtain ⟨s1, s2⟩ := hspec q4 (fun k x hx hk => by
        rcases q5 k x hx with h3 | ⟨h3, _⟩
        · rcases hp3 k x h3 with h4 | ⟨h4, _⟩
          · exact h4
          · omega
        · omega)
      refine ⟨?_, by rw [hlen, q2]; congr 1; omega, by rw [hlen, q3]; congr 1; omega, fun x hx => q4 x (hp2 x hx), ?_⟩
      · intro j hj1 hj2
        by_cases hji : j = i
        · subst hji
          rw [hti, hoi, ← he, ← hH]
          exact ⟨s1, s2⟩
        · exact q1 j (by omega) (by rw [hlen] at hj2; omega)
      · intro k x hx
        rcases q5 k x hx with h3 | ⟨h3, h4, h5⟩
        · rcases hp3 k x h3 with h4 | ⟨h4, h5⟩
          · exact .inl h4
          · exact .inr ⟨by omega, by rw [hlen]; omega, by rw [h4, hti, h5]⟩
        · exact .inr ⟨by omega, by rw [hlen]; omega, h5⟩
    simp only [runTr] at h
    -- an operation that leaves 'pk' alone
    have stay : ∀ (t0 : Tr) (tr1 : List Tr), runTr P K imp ops base os (i + 1) pk (putT o t0 e) (appT t0 H) = some (tr1, pk', e', H') → tr = t0 :: tr1 → (pk.isSome = true → loud t0 = false) →
        ((∀ x, pk = some x → pk' = some x) → Spec P K imp ops base o i e H pk' t0) → _ :=
      fun t0 tr1 hrun htr hld hsp => go t0 pk tr1 hrun htr (fun k x hx => Nat.lt_succ_of_lt (hpk k x hx)) (fun x hx => hx) (fun k x hx => .inl hx)
        (fun q4 q5 => ⟨hsp q4, fun k x hx hk => hld (by rw [q5 k x hx hk]; rfl)⟩)
    -- one that panics
    have stop : ∀ (v : AV) (Hp : Heap) (tr1 : List Tr), pk = none → runTr P K imp ops base os (i + 1) (some (i, v, Hp)) e H = some (tr1, pk', e', H') → tr = .pan :: tr1 →
        (pk' = some (i, v, Hp) → Spec P K imp ops base o i e H pk' .pan) → _ :=
      fun v Hp tr1 hn hrun htr hsp => go .pan (some (i, v, Hp)) tr1 hrun htr (fun k x hx => by simp at hx; omega) (fun x hx => by rw [hn] at hx; cases hx)
        (fun k x hx => by simp at hx; exact .inr ⟨hx.1.symm, rfl⟩) (fun q4 _ => ⟨hsp (q4 _ rfl), fun _ _ _ _ => rfl⟩)
    by_cases hdead : behind ops pk i = true
    · -- dead
      rw [if_pos hdead] at h
      split at h
      · rename_i tr1 r1 hrun
        simp only [Option.some.injEq, Prod.mk.injEq] at h
        obtain ⟨rfl, rfl⟩ := h
        refine stay .dead tr1 hrun rfl (fun _ => rfl) (fun q4 => ?_)
        cases hpk0 : pk with
        | none => rw [hpk0] at hdead; simp [behind] at hdead
        | some y =>
          obtain ⟨k, x⟩ := y
          rw [hpk0] at hdead
          exact ⟨k, x, q4 _ hpk0, hdead⟩
      · cases h
    · rw [if_neg hdead] at h
      cases hw : aWanted ops e o with
      | none => simp [hw] at h
      | some b =>
        simp only [hw] at h
        cases b with
        | false =>
          simp only at h
          split at h
          · rename_i tr1 r1 hrun
            simp only [Option.some.injEq, Prod.mk.injEq] at h
            obtain ⟨rfl, rfl⟩ := h
            exact stay (.val (.tup []) [] []) tr1 hrun rfl (fun _ => rfl) (fun _ => .inl ⟨hw, rfl, rfl, rfl⟩)
          · cases h
        | true =>
          simp only at h
          cases hst : astep P (aeval e) H (base + i) o.op with
          | none => simp [hst] at h
          | some r =>
            simp only [hst] at h
            cases r with
            | val v us rs =>
              simp only at h
              split at h
              · cases h
              · rename_i hnl
                split at h
                · rename_i tr1 r1 hrun
                  simp only [Option.some.injEq, Prod.mk.injEq] at h
                  obtain ⟨rfl, rfl⟩ := h
                  refine stay (.val v us rs) tr1 hrun rfl (fun hs => ?_) (fun _ => .inr ⟨hw, .inl hst⟩)
                  simp only [loud, Bool.not_eq_false']
                  cases hus : us.isEmpty with
                  | true => rfl
                  | false => exact absurd ⟨hs, hus⟩ hnl
                · cases h
            | pan v =>
              simp only at h
              split at h
              · cases h
              · rename_i hnone
                have hn : pk = none := by cases hq : pk with | none => rfl | some y => rw [hq] at hnone; exact absurd rfl hnone
                split at h
                · rename_i tr1 r1 hrun
                  simp only [Option.some.injEq, Prod.mk.injEq] at h
                  obtain ⟨rfl, rfl⟩ := h
                  exact stop v H tr1 hn hrun rfl (fun hp => ⟨v, H, hp, hw, .inl ⟨hst, rfl⟩⟩)
                · cases h
            | call f args =>
              simp only at h
              split at h
              · rename_i himp
                split at h
                · cases h
                · rename_i hnone
                  have hn : pk = none := by cases hq : pk with | none => rfl | some y => rw [hq] at hnone; exact absurd rfl hnone
                  cases hc : K f args H with
                  | none => simp [hc] at h
                  | some c =>
                    simp only [hc] at h
                    cases c with
                    | ret v H1 =>
                      simp only at h
                      split at h
                      · rename_i tr1 r1 hrun
                        simp only [Option.some.injEq, Prod.mk.injEq] at h
                        obtain ⟨rfl, rfl⟩ := h
                        exact stay (.call v H H1) tr1 hrun rfl (fun hs => by rw [hn] at hs; cases hs) (fun _ => ⟨hw, rfl, f, args, hst, himp, hc⟩)
                      · cases h
                    | pan v H1 =>
                      simp only at h
                      split at h
                      · rename_i tr1 r1 hrun
                        simp only [Option.some.injEq, Prod.mk.injEq] at h
                        obtain ⟨rfl, rfl⟩ := h
                        exact stop v H1 tr1 hn hrun rfl (fun hp => ⟨v, H1, hp, hw, .inr ⟨f, args, hst, himp, hc⟩⟩)
                      · cases h
              · rename_i himp
                have himp' : imp f = false := by simpa using himp
                split at h
                · rename_i v H1 hc
                  split at h
                  · rename_i tr1 r1 hrun
                    simp only [Option.some.injEq, Prod.mk.injEq] at h
                    obtain ⟨rfl, rfl⟩ := h
                    exact stay (.val v [] []) tr1 hrun rfl (fun _ => rfl) (fun _ => .inr ⟨hw, .inr ⟨f, args, H1, hst, himp', hc, rfl, rfl⟩⟩)
                  · cases h
                · cases h
end Go.Proofs.Ytiiaajajhkdemaa.VA
