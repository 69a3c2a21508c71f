/- What is proved: what a region that draws its order comes to in the abstract interpreter (VA) hangs on no order: the plain part, over lists of operations and what they have done. No condition. -/
import Derived.Test.YtiiaajajhkdemaaVb3
namespace Go.Proofs.Ytiiaajajhkdemaa.VA
open Go Go.RowKit

/-! ### which operations wait for which -/
theorem testBit_foldl (acc : Array Nat) (j : Nat) : ∀ (l : List Edge) (s : Nat),
    (l.foldl (fun s e => if Region.binds .any e = true then s ||| 2 ^ e.on ||| acc.getD e.on 0 else s) s).testBit j = true →
      s.testBit j = true ∨ ∃ e, e ∈ l ∧ Region.binds .any e = true ∧ (e.on = j ∨ (acc.getD e.on 0).testBit j = true)
  | [], s, h => .inl h
  | e :: l, s, h => by
    simp only [List.foldl_cons] at h
    rcases testBit_foldl acc j l _ h with h1 | ⟨e', h1, h2⟩
    · split at h1
      · rename_i hb
        simp only [Nat.testBit_or, Bool.or_eq_true, Nat.testBit_two_pow, decide_eq_true_eq] at h1
        rcases h1 with (h1 | h1) | h1
        · exact .inl h1
        · exact .inr ⟨e, List.mem_cons_self .., hb, .inl h1⟩
        · exact .inr ⟨e, List.mem_cons_self .., hb, .inr h1⟩
      · exact .inl h1
    · exact .inr ⟨e', List.mem_cons_of_mem _ h1, h2⟩
/-- Whatever is done, what it waits for is done. -/
def Shut (ops : Array Oper) (S : Nat → Bool) : Prop := ∀ i o, ops[i]? = some o → S i = true → ∀ e, e ∈ o.after → Region.binds .any e = true → S e.on = true
theorem anc_shut {ops : Array Oper} {S : Nat → Bool} (hS : Shut ops S) {i j : Nat} {o : Oper} (ho : ops[i]? = some o) (hp : ∀ e, e ∈ o.after → Region.binds .any e = true → S e.on = true)
    (h : anc ops j i = true) : S j = true := by
  unfold anc Region.before at h
  rw [← Array.foldl_toList] at h
  have key : ∀ (l : List Oper) (m : Nat) (acc : Array Nat), acc.size = m → (∀ k, l[k]? = ops[m + k]?) →
      (∀ i o, i < m → ops[i]? = some o → ∀ j, (acc.getD i 0).testBit j = true → (∀ e, e ∈ o.after → Region.binds .any e = true → S e.on = true) → S j = true) →
      (∀ i o, i < m + l.length → ops[i]? = some o → ∀ j, ((l.foldl (fun acc o =>
        acc.push (o.after.foldl (fun s e => if Region.binds .any e = true then s ||| 2 ^ e.on ||| acc.getD e.on 0 else s) 0)) acc).getD i 0).testBit j = true →
          (∀ e, e ∈ o.after → Region.binds .any e = true → S e.on = true) → S j = true) := by
    intro l
    induction l with
    | nil => intro m acc hs _ hacc i o hi ho; exact hacc i o (by simpa using hi) ho
    | cons o l ih =>
      intro m acc hs hl hacc
      simp only [List.foldl_cons]
      have := ih (m + 1) (acc.push (o.after.foldl (fun s e => if Region.binds .any e = true then s ||| 2 ^ e.on ||| acc.getD e.on 0 else s) 0)) (by simp [hs])
        (fun k => by have := hl (k + 1); rw [List.getElem?_cons_succ] at this; rw [this]; congr 1; omega) ?_
      · intro i o' hi
        exact this i o' (by simp at hi ⊢; omega)
      · intro i o' hi ho' j hj hp
        by_cases him : i < m
        · refine hacc i o' him ho' j ?_ hp
          simp only [Array.getD_eq_getD_getElem?] at hj ⊢
          rwa [Array.getElem?_push_lt (by omega), ← Array.getElem?_eq_getElem] at hj
        · have hime : i = m := by omega
          subst hime
          have hoo : o' = o := by
            have := hl 0
            simp only [List.getElem?_cons_zero, Nat.add_zero] at this
            rw [ho'] at this
            exact (Option.some.inj this).symm
          subst hoo
          simp only [Array.getD_eq_getD_getElem?] at hj
          rw [← hs, Array.getElem?_push_size] at hj
          simp only [Option.getD_some] at hj
          rw [← Array.foldl_toList] at hj
          rcases testBit_foldl acc j o'.after.toList 0 (by simpa using hj) with h1 | ⟨e, h1, h2, h3⟩
          · simp at h1
          · have hse := hp e (by simpa using h1) h2
            rcases h3 with h3 | h3
            · rw [← h3]; exact hse
            · by_cases hlt : e.on < i
              · cases hoe : ops[e.on]? with
                | none =>
                  exfalso
                  have h4 : ops.size ≤ e.on := by simpa using hoe
                  have h5 := (Array.getElem?_eq_some_iff.1 ho').1
                  omega
                | some oe => exact hacc e.on oe hlt hoe j h3 (hS e.on oe hoe hse)
              · rw [Array.getD_eq_getD_getElem?, Array.getElem?_eq_none (by omega)] at h3
                simp at h3
  have hi := (Array.getElem?_eq_some_iff.1 ho).1
  exact key ops.toList 0 #[] rfl (fun k => by simp) (fun i o hi => by omega) i o (by simpa using hi) ho j h hp
def drawOk (ops : Array Oper) : Bool :=
  (List.range ops.size).all fun j =>
    ((ops.getD j default).after.all fun e => !Region.binds .any e || decide (e.on < j)) &&
    (List.range j).all fun i => anc ops i j || (ops.getD i default).apart ops (ops.getD j default)

/-! ### the states on the way -/
def putT (o : Oper) (t : Tr) (e : List AV) : List AV :=
  match t with
  | .val v _ _ | .call v _ _ => aput e o.dst v
  | _ => e
def appT (t : Tr) (H : Heap) : Heap :=
  match t with
  | .val _ us _ => appU H us
  | .call _ _ Ha => Ha
  | _ => H
def eAt (op : Nat → Oper) (t : Nat → Tr) (S : Nat → Bool) (e : List AV) : Nat → List AV
  | 0 => e
  | n + 1 => if S n = true then putT (op n) (t n) (eAt op t S e n) else eAt op t S e n
def hAt (t : Nat → Tr) (S : Nat → Bool) (H : Heap) : Nat → Heap
  | 0 => H
  | n + 1 => if S n = true then appT (t n) (hAt t S H n) else hAt t S H n
def full : Nat → Bool := fun _ => true
def upTo (i : Nat) : Nat → Bool := fun j => decide (j < i)
theorem full_eq (n : Nat) : full n = true := rfl
theorem upTo_lt {i n : Nat} (h : n < i) : upTo i n = true := decide_eq_true h
theorem upTo_ge {i n : Nat} (h : i ≤ n) : ¬ upTo i n = true := by simp [upTo]; omega
theorem gget_aput (e : List AV) (dst : Option Tmp) (v : AV) (s : Nat) : gget .bad (aput e dst v) s = if dst = some s then v else gget .bad e s := by
  cases dst with
  | none => simp [aput]
  | some d => simp [aput, gget_gset]
theorem gget_putT (o : Oper) (t : Tr) (e : List AV) (s : Nat) (h : o.dst ≠ some s) : gget .bad (putT o t e) s = gget .bad e s := by
  cases t <;> simp [putT, gget_aput, h]
theorem gget_putT_congr (o : Oper) (t : Tr) (e e' : List AV) (s : Nat) (h : gget .bad e s = gget .bad e' s) : gget .bad (putT o t e) s = gget .bad (putT o t e') s := by
  cases t <;> simp [putT, gget_aput, h]
theorem eAt_congr {op : Nat → Oper} {t : Nat → Tr} {e : List AV} {S S' : Nat → Bool} {s : Nat} : ∀ (n : Nat), (∀ j, j < n → (op j).dst = some s → S j = S' j) → gget .bad (eAt op t S e n) s = gget .bad (eAt op t S' e n) s
  | 0, _ => rfl
  | n + 1, h => by
    have ih := eAt_congr (op := op) (t := t) (e := e) (S := S) (S' := S') (s := s) n (fun j hj => h j (by omega))
    simp only [eAt]
    by_cases hd : (op n).dst = some s
    · rw [h n (by omega) hd]
      split
      · exact gget_putT_congr _ _ _ _ _ ih
      · exact ih
    · split <;> split <;> simp [gget_putT _ _ _ _ hd, ih]
theorem eAt_last {op : Nat → Oper} {t : Nat → Tr} {e : List AV} {S : Nat → Bool} {s i : Nat} {v : AV} (hi : S i = true) (hd : (op i).dst = some s) (hv : ∀ e', gget .bad (putT (op i) (t i) e') s = v) :
    ∀ (n : Nat), i < n → (∀ j, i < j → j < n → S j = true → (op j).dst ≠ some s) → gget .bad (eAt op t S e n) s = v
  | 0, h, _ => by omega
  | n + 1, h, hl => by
    simp only [eAt]
    by_cases hin : i = n
    · subst hin; rw [if_pos hi]; exact hv _
    · have ih := eAt_last (e := e) hi hd hv n (by omega) (fun j h1 h2 => hl j h1 (by omega))
      split
      · rename_i hs
        rw [gget_putT _ _ _ _ (hl n (by omega) (by omega) hs)]
        exact ih
      · exact ih
theorem eAt_upTo {op : Nat → Oper} {t : Nat → Tr} {e : List AV} {i : Nat} : ∀ (n : Nat), i ≤ n → eAt op t (upTo i) e n = eAt op t full e i := by
  have low : ∀ n, n ≤ i → eAt op t (upTo i) e n = eAt op t full e n := by
    intro n
    induction n with
    | zero => intro _; rfl
    | succ n ih =>
      intro hn
      simp only [eAt]
      rw [if_pos (upTo_lt (by omega)), if_pos (full_eq n), ih (by omega)]
  intro n
  induction n with
  | zero =>
    intro h
    obtain rfl : i = 0 := by omega
    rfl
  | succ n ih =>
    intro h
    by_cases hin : i = n + 1
    · subst hin; exact low _ (Nat.le_refl _)
    · simp only [eAt]
      rw [if_neg (upTo_ge (by omega))]
      exact ih (by omega)
theorem eAt_all {op : Nat → Oper} {t : Nat → Tr} {e : List AV} {S : Nat → Bool} : ∀ (n : Nat), (∀ j, j < n → S j = true) → eAt op t S e n = eAt op t full e n
  | 0, _ => rfl
  | n + 1, h => by simp only [eAt]; rw [if_pos (h n (by omega)), if_pos (full_eq n), eAt_all n (fun j hj => h j (by omega))]

/-! ### memory on the way -/
def obs (H : Heap) (k : Nat) : Option (List AV) × Bool := (H.get k, H.isLive k)
def loud : Tr → Bool
  | .val _ us _ => !us.isEmpty
  | .call _ _ _ => true
  | _ => false
theorem obs_app_other (H : Heap) (u : U) (k : Nat) (h : u.key ≠ k) : obs (u.app H) k = obs H k := by
  cases u <;> simp_all [obs, U.app, U.key]
theorem obs_app_congr (H H' : Heap) (u : U) (k : Nat) (h : obs H k = obs H' k) : obs (u.app H) k = obs (u.app H') k := by
  simp only [obs, Prod.mk.injEq] at h
  cases u <;> simp [obs, U.app, h.1, h.2]
theorem obs_appU_other (us : List U) : ∀ (H : Heap) (k : Nat), (∀ u, u ∈ us → u.key ≠ k) → obs (appU H us) k = obs H k := by
  induction us with
  | nil => intro H k _; rfl
  | cons u us ih =>
    intro H k h
    simp only [appU]
    rw [ih _ _ (fun u' hu => h u' (List.mem_cons_of_mem _ hu)), obs_app_other _ _ _ (h u (List.mem_cons_self ..))]
theorem obs_appU_congr (us : List U) : ∀ (H H' : Heap) (k : Nat), obs H k = obs H' k → obs (appU H us) k = obs (appU H' us) k := by
  induction us with
  | nil => intro H H' k h; exact h
  | cons u us ih => intro H H' k h; exact ih _ _ _ (obs_app_congr _ _ _ _ h)
/-- Where a call is done, all that was loud ahead of it is. -/
def CL (t : Nat → Tr) (S : Nat → Bool) (n : Nat) : Prop := ∀ i v Hb Ha, i < n → t i = .call v Hb Ha → S i = true → ∀ j, j < i → loud (t j) = true → S j = true
theorem hAt_congr {t : Nat → Tr} {H : Heap} {k : Nat} : ∀ (n : Nat) (S S' : Nat → Bool), CL t S n → CL t S' n →
    (∀ i v Hb Ha, i < n → t i = .call v Hb Ha → Hb = hAt t full H i) →
    (∀ j v us rs, j < n → t j = .val v us rs → (∃ u, u ∈ us ∧ u.key = k) → S j = S' j) → (∀ j v Hb Ha, j < n → t j = .call v Hb Ha → S j = S' j ∨ obs Hb k = obs Ha k) →
    obs (hAt t S H n) k = obs (hAt t S' H n) k := by
  intro n
  induction n with
  | zero => intro S S' _ _ _ _ _; rfl
  | succ n ih =>
    intro S S' hS hS' hG hv hc
    have cl : ∀ {S : Nat → Bool}, CL t S (n + 1) → CL t S n := fun h i v Hb Ha hi => h i v Hb Ha (by omega)
    have hih := ih S S' (cl hS) (cl hS') (fun i v Hb Ha hi => hG i v Hb Ha (by omega)) (fun j v us rs hj => hv j v us rs (by omega)) (fun j v Hb Ha hj => hc j v Hb Ha (by omega))
    simp only [hAt]
    cases ht : t n with
    | val v us rs =>
      by_cases hk : ∃ u, u ∈ us ∧ u.key = k
      · rw [hv n v us rs (by omega) ht hk]
        split
        · exact obs_appU_congr us _ _ _ hih
        · exact hih
      · have hne : ∀ u, u ∈ us → u.key ≠ k := fun u hu he => hk ⟨u, hu, he⟩
        split <;> split <;> simp [appT, obs_appU_other us _ _ hne, hih]
    | call v Hb Ha =>
      -- one has the call done, the other not: the call keeps k
      have one : ∀ (A B : Nat → Bool), CL t A (n + 1) → CL t B (n + 1) → A n = true → obs Hb k = obs Ha k →
          (∀ j v us rs, j < n + 1 → t j = .val v us rs → (∃ u, u ∈ us ∧ u.key = k) → A j = B j) → (∀ j v Hb Ha, j < n + 1 → t j = .call v Hb Ha → A j = B j ∨ obs Hb k = obs Ha k) →
          obs Ha k = obs (hAt t B H n) k := by
        intro A B hA hB hAn hkeep hv hc
        rw [← hkeep, hG n v Hb Ha (by omega) ht]
        refine ih full B (fun i v Hb Ha _ _ _ j _ _ => rfl) (cl hB) (fun i v Hb Ha hi => hG i v Hb Ha (by omega)) ?_ ?_
        · intro j v' us rs hj htj hu
          have hAj : A j = true := hA n v Hb Ha (by omega) ht hAn j hj (by
            rw [htj]
            obtain ⟨u, hu, _⟩ := hu
            cases us with
            | nil => cases hu
            | cons _ _ => rfl)
          rw [← hv j v' us rs (by omega) htj hu, hAj]
          rfl
        · intro j v' Hb' Ha' hj htj
          have hAj : A j = true := hA n v Hb Ha (by omega) ht hAn j hj (by rw [htj]; rfl)
          rcases hc j v' Hb' Ha' (by omega) htj with h | h
          · exact .inl (by rw [← h, hAj]; rfl)
          · exact .inr h
      rcases hc n v Hb Ha (by omega) ht with hss | hkeep
      · rw [hss]
        split
        · rfl
        · exact hih
      · cases h1 : S n <;> cases h2 : S' n
        · simpa using hih
        · simp only [Bool.false_eq_true, if_false, if_true, appT]
          exact (one S' S hS' hS h2 hkeep (fun j v us rs hj h3 h4 => (hv j v us rs hj h3 h4).symm) (fun j v Hb Ha hj h3 => (hc j v Hb Ha hj h3).imp Eq.symm (fun h => h))).symm
        · simp only [Bool.false_eq_true, if_false, if_true, appT]
          exact one S S' hS hS' h1 hkeep hv hc
        · rfl
    | pan => split <;> split <;> exact hih
    | dead => split <;> split <;> exact hih
theorem hAt_next {t : Nat → Tr} {H : Heap} {S S' : Nat → Bool} : ∀ (n : Nat), (∀ j v Hb Ha, j < n → t j = .call v Hb Ha → S j = S' j) → (hAt t S H n).next = (hAt t S' H n).next
  | 0, _ => rfl
  | n + 1, h => by
    have ih := hAt_next (H := H) (S := S) (S' := S') n (fun j v Hb Ha hj => h j v Hb Ha (by omega))
    simp only [hAt]
    cases ht : t n with
    | val v us rs => split <;> split <;> simp [appT, appU_next, ih]
    | call v Hb Ha => rw [h n v Hb Ha (by omega) ht]; split <;> first | rfl | exact ih
    | pan => split <;> split <;> exact ih
    | dead => split <;> split <;> exact ih
/-- The very memory, where all that is loud agrees. -/
theorem hAt_eq {t : Nat → Tr} {H : Heap} {S S' : Nat → Bool} : ∀ (n : Nat), (∀ j, j < n → loud (t j) = true → S j = S' j) → hAt t S H n = hAt t S' H n
  | 0, _ => rfl
  | n + 1, h => by
    have ih := hAt_eq (H := H) (S := S) (S' := S') n (fun j hj => h j (by omega))
    simp only [hAt]
    by_cases hl : loud (t n) = true
    · rw [h n (by omega) hl, ih]
    · have hid : ∀ H', appT (t n) H' = H' := by
        intro H'
        cases ht : t n with
        | val v us rs =>
          rw [ht] at hl
          cases us with
          | nil => rfl
          | cons _ _ => exact absurd rfl hl
        | call v Hb Ha => rw [ht] at hl; exact absurd rfl hl
        | pan => rfl
        | dead => rfl
      simp only [hid, ite_self]
      exact ih
theorem hAt_upTo {t : Nat → Tr} {H : Heap} {i : Nat} : ∀ (n : Nat), i ≤ n → hAt t (upTo i) H n = hAt t full H i := by
  have low : ∀ n, n ≤ i → hAt t (upTo i) H n = hAt t full H n := by
    intro n
    induction n with
    | zero => intro _; rfl
    | succ n ih =>
      intro hn
      simp only [hAt]
      rw [if_pos (upTo_lt (by omega)), if_pos (full_eq n), ih (by omega)]
  intro n
  induction n with
  | zero =>
    intro h
    obtain rfl : i = 0 := by omega
    rfl
  | succ n ih =>
    intro h
    by_cases hin : i = n + 1
    · subst hin; exact low _ (Nat.le_refl _)
    · simp only [hAt]
      rw [if_neg (upTo_ge (by omega))]
      exact ih (by omega)
end Go.Proofs.Ytiiaajajhkdemaa.VA
