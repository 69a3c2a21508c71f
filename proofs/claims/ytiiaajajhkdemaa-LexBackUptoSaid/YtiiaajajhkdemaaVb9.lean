/- What is proved: more fuel changes no answer of the abstract interpreter (VA), and what it answers with all its calls at hand it answers with some fuel. No condition. -/
import Derived.Test.YtiiaajajhkdemaaVb8
namespace Go.Proofs.Ytiiaajajhkdemaa.VA
open Go Go.RowKit
set_option linter.unusedSimpArgs false

def KLe (K K' : Calling) : Prop := ∀ f args H r, K f args H = some r → K' f args H = some r
theorem runOps_mono {P : Program} {K K' : Calling} (hK : KLe K K') {ops : Array Oper} {base : Nat} : ∀ (os : List Oper) (i : Nat) (e : List AV) (H : Heap) (r : Ex × List AV × Heap),
    runOps P K ops base os i e H = some r → runOps P K' ops base os i e H = some r := by
  intro os
  induction os with
  | nil => intro i e H r h; exact h
  | cons o os ih =>
    intro i e H r h
    simp only [runOps] at h ⊢
    split at h
    · cases h
    · exact ih _ _ _ _ h
    · split at h
      · cases h
      · exact ih _ _ _ _ h
      · exact h
      · rename_i f args hst
        cases hc : K f args H with
        | none => rw [hc] at h; cases h
        | some c =>
          rw [hc] at h
          rw [hK _ _ _ _ hc]
          cases c with
          | ret v H' => exact ih _ _ _ _ h
          | pan v H' => exact h
theorem runTr_mono {P : Program} {K K' : Calling} (hK : KLe K K') {imp : FuncId → Bool} {ops : Array Oper} {base : Nat} : ∀ (os : List Oper) (i : Nat) (pk : Option (Nat × AV × Heap)) (e : List AV) (H : Heap) (r : List Tr × Option (Nat × AV × Heap) × List AV × Heap),
    runTr P K imp ops base os i pk e H = some r → runTr P K' imp ops base os i pk e H = some r := by
  intro os
  induction os with
  | nil => intro i pk e H r h; exact h
  | cons o os ih =>
    intro i pk e H r h
    have next : ∀ {i : Nat} {pk : Option (Nat × AV × Heap)} {e : List AV} {H : Heap} {t0 : Tr} {r : List Tr × Option (Nat × AV × Heap) × List AV × Heap},
        (match runTr P K imp ops base os i pk e H with | some (tr, r) => some (t0 :: tr, r) | none => none) = some r →
        (match runTr P K' imp ops base os i pk e H with | some (tr, r) => some (t0 :: tr, r) | none => none) = some r := by
      intro i pk e H t0 r h
      cases hr : runTr P K imp ops base os i pk e H with
      | none => rw [hr] at h; cases h
      | some x => rw [ih _ _ _ _ _ hr]; rw [hr] at h; exact h
    simp only [runTr] at h ⊢
    by_cases hb : behind ops pk i = true
    · rw [if_pos hb] at h ⊢
      exact next h
    · rw [if_neg hb] at h ⊢
      split at h
      · cases h
      · exact next h
      · split at h
        · cases h
        · split at h
          · cases h
          · rename_i hcc
            rw [if_neg hcc]
            exact next h
        · split at h
          · cases h
          · rename_i hcc
            rw [if_neg hcc]
            exact next h
        · rename_i f args hst
          split at h
          · rename_i himp
            rw [if_pos himp]
            split at h
            · cases h
            · rename_i hcc
              rw [if_neg hcc]
              cases hc : K f args H with
              | none => rw [hc] at h; cases h
              | some c =>
                rw [hc] at h
                rw [hK _ _ _ _ hc]
                cases c with
                | ret v H' => exact next h
                | pan v H' => exact next h
          · rename_i himp
            rw [if_neg himp]
            cases hc : K f args H with
            | none => rw [hc] at h; cases h
            | some c =>
              rw [hc] at h
              rw [hK _ _ _ _ hc]
              cases c with
              | ret v H' => exact next h
              | pan v H' => cases h
theorem runRegion_mono {P : Program} {K K' : Calling} (hK : KLe K K') {imp : FuncId → Bool} {ops : Array Oper} {d : Bool} {e : List AV} {H : Heap} {r : Ex × List AV × Heap}
    (h : runRegion P K imp ops d e H = some r) : runRegion P K' imp ops d e H = some r := by
  cases d with
  | false => exact runOps_mono hK _ _ _ _ _ h
  | true =>
    simp only [runRegion] at h ⊢
    cases hr : runTr P K imp ops H.next ops.toList 0 none e { H with next := H.next + ops.size } with
    | none => rw [hr] at h; cases h
    | some x => rw [runTr_mono hK _ _ _ _ _ _ hr]; rw [hr] at h; exact h
theorem exec_mono {P : Program} {K K' : Calling} (hK : KLe K K') {imp : FuncId → Bool} : ∀ (k : Nat) (c : Code) (e : List AV) (H : Heap) (r : Ex × List AV × Heap), exec P K imp k c e H = some r →
    ∀ k', k ≤ k' → exec P K' imp k' c e H = some r := by
  intro k
  induction k with
  | zero => intro c e H r h; simp [exec] at h
  | succ k ih =>
    intro c e H r h k' hk
    obtain ⟨k', rfl⟩ : ∃ m, k' = m + 1 := ⟨k' - 1, by omega⟩
    have hk' : k ≤ k' := by omega
    cases c <;> simp only [exec] at h ⊢ <;> try exact h
    case region id ops d => exact runRegion_mono hK h
    case seq x y =>
      cases hx : exec P K imp k x e H with
      | none => rw [hx] at h; cases h
      | some r1 =>
        rw [ih x e H r1 hx k' hk']
        rw [hx] at h
        obtain ⟨ex1, e1, H1⟩ := r1
        cases ex1 with
        | nrm => exact ih y e1 H1 r h k' hk'
        | _ => exact h
    case cond cc x y =>
      split at h
      · exact ih x e H r h k' hk'
      · exact ih y e H r h k' hk'
      · cases h
    case block id x =>
      cases hx : exec P K imp k x e H with
      | none => rw [hx] at h; cases h
      | some r1 =>
        rw [ih x e H r1 hx k' hk']
        rw [hx] at h
        exact h
    case loop x =>
      cases hx : exec P K imp k x e H with
      | none => rw [hx] at h; cases h
      | some r1 =>
        rw [ih x e H r1 hx k' hk']
        rw [hx] at h
        obtain ⟨ex1, e1, H1⟩ := r1
        cases ex1 with
        | nrm => exact ih (.loop x) e1 H1 r h k' hk'
        | _ => exact h
    case scope x => exact ih x e H r h k' hk'
theorem runFn_mono {P : Program} {K K' : Calling} (hK : KLe K K') {imp : FuncId → Bool} {k k' : Nat} (hk : k ≤ k') {fn : Func} {args : List AV} {H : Heap} {r : CR} (h : runFn P K imp k fn args H = some r) :
    runFn P K' imp k' fn args H = some r := by
  unfold runFn at h ⊢
  split at h
  · cases h
  · rename_i code hb
    try simp only [hb]
    split at h
    · rename_i hl
      rw [if_pos hl]
      cases hx : exec P K imp k code args H with
      | none => rw [hx] at h; cases h
      | some r1 =>
        rw [exec_mono hK k code args H r1 hx k' hk]
        rw [hx] at h
        exact h
    · cases h
theorem call_mono {P : Program} {c : Cfg} : ∀ k, KLe (call P c k) (call P c (k + 1)) := by
  intro k
  induction k with
  | zero => intro f args H r h; simp [call] at h
  | succ k ih =>
    intro f args H r h
    rw [call] at h ⊢
    split at h
    · rename_i ht htold
      try simp only [htold]
      exact h
    · rename_i htold
      try simp only [htold]
      split at h
      · cases h
      · rename_i fn hfn
        try simp only [hfn]
        split at h
        · rename_i himp
          try simp only [himp]
          exact runFn_mono ih (Nat.le_succ _) h
        · rename_i himp
          try simp only [himp]
          split at h
          · rename_i v H' hrun
            rw [runFn_mono ih (Nat.le_succ _) hrun]
            exact h
          · cases h
theorem call_le {P : Program} {c : Cfg} {k k' : Nat} (h : k ≤ k') : KLe (call P c k) (call P c k') := by
  induction h with
  | refl => exact fun _ _ _ _ h => h
  | step _ ih => exact fun f args H r h => call_mono _ f args H r (ih f args H r h)
/-- All calls, with whatever fuel they want. -/
noncomputable def calls (P : Program) (c : Cfg) : Calling := fun f args H =>
  open Classical in if h : ∃ r k, call P c k f args H = some r then some h.choose else none
theorem calls_iff {P : Program} {c : Cfg} {f : FuncId} {args : List AV} {H : Heap} {r : CR} : calls P c f args H = some r ↔ ∃ k, call P c k f args H = some r := by
  unfold calls
  constructor
  · intro h
    split at h
    · rename_i hex
      simp only [Option.some.injEq] at h
      rw [← h]
      exact hex.choose_spec
    · cases h
  · rintro ⟨k, hk⟩
    have hex : ∃ r k, call P c k f args H = some r := ⟨r, k, hk⟩
    rw [dif_pos hex]
    obtain ⟨k', hk'⟩ := hex.choose_spec
    have h1 := call_le (Nat.le_max_left k k') _ _ _ _ hk
    have h2 := call_le (Nat.le_max_right k k') _ _ _ _ hk'
    rw [h1] at h2
    exact h2.symm
/-- What is answered with all calls is answered with some fuel. -/
theorem runOps_fuel {P : Program} {c : Cfg} {ops : Array Oper} {base : Nat} : ∀ (os : List Oper) (i : Nat) (e : List AV) (H : Heap) (r : Ex × List AV × Heap),
    runOps P (calls P c) ops base os i e H = some r → ∃ n, runOps P (call P c n) ops base os i e H = some r := by
  intro os
  induction os with
  | nil => intro i e H r h; exact ⟨0, h⟩
  | cons o os ih =>
    intro i e H r h
    simp only [runOps] at h ⊢
    split at h
    · cases h
    · exact ih _ _ _ _ h
    · split at h
      · cases h
      · exact ih _ _ _ _ h
      · exact ⟨0, h⟩
      · rename_i f args hst
        cases hc : calls P c f args H with
        | none => rw [hc] at h; cases h
        | some cr =>
          rw [hc] at h
          obtain ⟨k, hk⟩ := calls_iff.1 hc
          cases cr with
          | pan v H' => exact ⟨k, by rw [hk]; exact h⟩
          | ret v H' =>
            obtain ⟨n, hn⟩ := ih _ _ _ _ h
            refine ⟨max k n, ?_⟩
            rw [call_le (Nat.le_max_left k n) _ _ _ _ hk]
            exact runOps_mono (call_le (Nat.le_max_right k n)) _ _ _ _ _ hn
theorem runTr_fuel {P : Program} {c : Cfg} {imp : FuncId → Bool} {ops : Array Oper} {base : Nat} : ∀ (os : List Oper) (i : Nat) (pk : Option (Nat × AV × Heap)) (e : List AV) (H : Heap) (r : List Tr × Option (Nat × AV × Heap) × List AV × Heap),
    runTr P (calls P c) imp ops base os i pk e H = some r → ∃ n, runTr P (call P c n) imp ops base os i pk e H = some r := by
  intro os
  induction os with
  | nil => intro i pk e H r h; exact ⟨0, h⟩
  | cons o os ih =>
    intro i pk e H r h
    have next : ∀ (k : Nat) {i : Nat} {pk : Option (Nat × AV × Heap)} {e : List AV} {H : Heap} {t0 : Tr} {r : List Tr × Option (Nat × AV × Heap) × List AV × Heap},
        (match runTr P (calls P c) imp ops base os i pk e H with | some (tr, r) => some (t0 :: tr, r) | none => none) = some r →
        ∃ n, k ≤ n ∧ (match runTr P (call P c n) imp ops base os i pk e H with | some (tr, r) => some (t0 :: tr, r) | none => none) = some r := by
      intro k i pk e H t0 r h
      cases hr : runTr P (calls P c) imp ops base os i pk e H with
      | none => rw [hr] at h; cases h
      | some x =>
        obtain ⟨n, hn⟩ := ih _ _ _ _ _ hr
        refine ⟨max k n, Nat.le_max_left .., ?_⟩
        rw [runTr_mono (call_le (Nat.le_max_right k n)) _ _ _ _ _ _ hn]
        rw [hr] at h
        exact h
    simp only [runTr] at h ⊢
    by_cases hb : behind ops pk i = true
    · simp only [if_pos hb] at h ⊢
      obtain ⟨n, _, hn⟩ := next 0 h
      exact ⟨n, hn⟩
    · simp only [if_neg hb] at h ⊢
      split at h
      · cases h
      · obtain ⟨n, _, hn⟩ := next 0 h
        exact ⟨n, hn⟩
      · split at h
        · cases h
        · split at h
          · cases h
          · rename_i hcc
            simp only [if_neg hcc]
            obtain ⟨n, _, hn⟩ := next 0 h
            exact ⟨n, hn⟩
        · split at h
          · cases h
          · rename_i hcc
            simp only [if_neg hcc]
            obtain ⟨n, _, hn⟩ := next 0 h
            exact ⟨n, hn⟩
        · rename_i f args hst
          split at h
          · rename_i himp
            simp only [if_pos himp]
            split at h
            · cases h
            · rename_i hcc
              simp only [if_neg hcc]
              cases hc : calls P c f args H with
              | none => rw [hc] at h; cases h
              | some cr =>
                rw [hc] at h
                obtain ⟨k, hk⟩ := calls_iff.1 hc
                cases cr with
                | ret v H' =>
                  obtain ⟨n, hkn, hn⟩ := next k h
                  refine ⟨n, ?_⟩
                  rw [call_le hkn _ _ _ _ hk]
                  exact hn
                | pan v H' =>
                  obtain ⟨n, hkn, hn⟩ := next k h
                  refine ⟨n, ?_⟩
                  rw [call_le hkn _ _ _ _ hk]
                  exact hn
          · rename_i himp
            simp only [if_neg himp]
            cases hc : calls P c f args H with
            | none => rw [hc] at h; cases h
            | some cr =>
              rw [hc] at h
              obtain ⟨k, hk⟩ := calls_iff.1 hc
              cases cr with
              | ret v H' =>
                obtain ⟨n, hkn, hn⟩ := next k h
                refine ⟨n, ?_⟩
                rw [call_le hkn _ _ _ _ hk]
                exact hn
              | pan v H' => cases h
theorem runRegion_fuel {P : Program} {c : Cfg} {imp : FuncId → Bool} {ops : Array Oper} {d : Bool} {e : List AV} {H : Heap} {r : Ex × List AV × Heap}
    (h : runRegion P (calls P c) imp ops d e H = some r) : ∃ n, runRegion P (call P c n) imp ops d e H = some r := by
  cases d with
  | false => exact runOps_fuel _ _ _ _ _ h
  | true =>
    simp only [runRegion] at h ⊢
    cases hr : runTr P (calls P c) imp ops H.next ops.toList 0 none e { H with next := H.next + ops.size } with
    | none => rw [hr] at h; cases h
    | some x =>
      obtain ⟨n, hn⟩ := runTr_fuel _ _ _ _ _ _ hr
      refine ⟨n, ?_⟩
      rw [hn]
      rw [hr] at h
      exact h
theorem exec_fuel {P : Program} {c : Cfg} {imp : FuncId → Bool} : ∀ (k : Nat) (cd : Code) (e : List AV) (H : Heap) (r : Ex × List AV × Heap), exec P (calls P c) imp k cd e H = some r →
    ∃ n, exec P (call P c n) imp k cd e H = some r := by
  intro k
  induction k with
  | zero => intro cd e H r h; simp [exec] at h
  | succ k ih =>
    intro cd e H r h
    have two : ∀ {x y : Code} {e1 : List AV} {H1 : Heap} {n : Nat} {r r1 : Ex × List AV × Heap}, exec P (call P c n) imp k x e H = some r1 → exec P (calls P c) imp k y e1 H1 = some r →
        ∃ m, exec P (call P c m) imp k x e H = some r1 ∧ exec P (call P c m) imp k y e1 H1 = some r := by
      intro x y e1 H1 n r r1 h1 h2
      obtain ⟨m, hm⟩ := ih _ _ _ _ h2
      exact ⟨max n m, exec_mono (call_le (Nat.le_max_left n m)) _ _ _ _ _ h1 _ (Nat.le_refl _), exec_mono (call_le (Nat.le_max_right n m)) _ _ _ _ _ hm _ (Nat.le_refl _)⟩
    cases cd <;> simp only [exec] at h ⊢ <;> try exact ⟨0, h⟩
    case region id ops d => exact runRegion_fuel h
    case seq x y =>
      cases hx : exec P (calls P c) imp k x e H with
      | none => rw [hx] at h; cases h
      | some r1 =>
        obtain ⟨n, hn⟩ := ih x e H r1 hx
        rw [hx] at h
        obtain ⟨ex1, e1, H1⟩ := r1
        cases ex1 with
        | nrm =>
          obtain ⟨m, h1, h2⟩ := two hn h
          exact ⟨m, by rw [h1]; exact h2⟩
        | _ => exact ⟨n, by rw [hn]; exact h⟩
    case cond cc x y =>
      split at h
      · exact ih x e H r h
      · exact ih y e H r h
      · cases h
    case block id x =>
      cases hx : exec P (calls P c) imp k x e H with
      | none => rw [hx] at h; cases h
      | some r1 =>
        obtain ⟨n, hn⟩ := ih x e H r1 hx
        rw [hx] at h
        exact ⟨n, by rw [hn]; exact h⟩
    case loop x =>
      cases hx : exec P (calls P c) imp k x e H with
      | none => rw [hx] at h; cases h
      | some r1 =>
        obtain ⟨n, hn⟩ := ih x e H r1 hx
        rw [hx] at h
        obtain ⟨ex1, e1, H1⟩ := r1
        cases ex1 with
        | nrm =>
          obtain ⟨m, h1, h2⟩ := two hn h
          exact ⟨m, by rw [h1]; exact h2⟩
        | _ => exact ⟨n, by rw [hn]; exact h⟩
    case scope x => exact ih x e H r h
end Go.Proofs.Ytiiaajajhkdemaa.VA
