/- What is proved: what a region that draws its order comes to in the abstract interpreter (VA) hangs on no order: the plain part, over lists of operations and what they have done. No condition.
What is proved: what a region that draws its order has done, operation by operation, in the abstract interpreter (VA). No condition.
What is proved: a region that draws its order, in the abstract interpreter (VA), against the model's own rules, for every order. No condition.
What is proved: the abstract interpreter (VA) against the model's own machine: what it answers for a call is what the call comes to. No condition but that the table it is given is the program's.
What is proved: what the abstract interpreter (VA) answers for a call is what the call comes to, for every world that its arguments mean something in. No condition but that its table is the program's.
What is proved: more fuel changes no answer of the abstract interpreter (VA), and what it answers with all its calls at hand it answers with some fuel. No condition.
What is proved: rules by which one shows what the abstract interpreter (VA) answers, code piece by code piece. No condition.
What is proved: what each operation does in the abstract interpreter (VA), as equations to rewrite with, and how a function's body tells its calls. No condition. -/
import Derived.Test.YtghhkbigmmjanaaGreatDoorM1
import Derived.LoopN
/-! Vb4 -/
namespace Go.Proofs.YtghhkbigmmjanaaGreatDoor.VA
open Go Go.RowKit

/-! ### which operations wait for which -/
theorem testBit_foldl (acc : Array Nat) (j : Nat) : ∀ (l : List Edge) (s : Nat),
    (l.foldl (fun s e => if Region.binds .any e = true then s ||| 2 ^ e.on ||| acc.getD e.on 0 else s) s).testBit j = true →
      s.testBit j = true ∨ ∃ e, e ∈ l ∧ Region.binds .any e = true ∧ (e.on = j ∨ (acc.getD e.on 0).testBit j = true)
  | [], s, h => .inl h
  | e :: l, s, h => by
    simp only [List.foldl_cons] at h
    rcases testBit_foldl acc j l _ h with h1 | ⟨e', h1, h2⟩
    · split at h1
      · rename_i hb
        simp only [Nat.testBit_or, Bool.or_eq_true, Nat.testBit_two_pow, decide_eq_true_eq] at h1
        rcases h1 with (h1 | h1) | h1
        · exact .inl h1
        · exact .inr ⟨e, List.mem_cons_self .., hb, .inl h1⟩
        · exact .inr ⟨e, List.mem_cons_self .., hb, .inr h1⟩
      · exact .inl h1
    · exact .inr ⟨e', List.mem_cons_of_mem _ h1, h2⟩
/-- Whatever is done, what it waits for is done. -/
def Shut (ops : Array Oper) (S : Nat → Bool) : Prop := ∀ i o, ops[i]? = some o → S i = true → ∀ e, e ∈ o.after → Region.binds .any e = true → S e.on = true
theorem anc_shut {ops : Array Oper} {S : Nat → Bool} (hS : Shut ops S) {i j : Nat} {o : Oper} (ho : ops[i]? = some o) (hp : ∀ e, e ∈ o.after → Region.binds .any e = true → S e.on = true)
    (h : anc ops j i = true) : S j = true := by
  unfold anc Region.before at h
  rw [← Array.foldl_toList] at h
  have key : ∀ (l : List Oper) (m : Nat) (acc : Array Nat), acc.size = m → (∀ k, l[k]? = ops[m + k]?) →
      (∀ i o, i < m → ops[i]? = some o → ∀ j, (acc.getD i 0).testBit j = true → (∀ e, e ∈ o.after → Region.binds .any e = true → S e.on = true) → S j = true) →
      (∀ i o, i < m + l.length → ops[i]? = some o → ∀ j, ((l.foldl (fun acc o =>
        acc.push (o.after.foldl (fun s e => if Region.binds .any e = true then s ||| 2 ^ e.on ||| acc.getD e.on 0 else s) 0)) acc).getD i 0).testBit j = true →
          (∀ e, e ∈ o.after → Region.binds .any e = true → S e.on = true) → S j = true) := by
    intro l
    induction l with
    | nil => intro m acc hs _ hacc i o hi ho; exact hacc i o (by simpa using hi) ho
    | cons o l ih =>
      intro m acc hs hl hacc
      simp only [List.foldl_cons]
      have := ih (m + 1) (acc.push (o.after.foldl (fun s e => if Region.binds .any e = true then s ||| 2 ^ e.on ||| acc.getD e.on 0 else s) 0)) (by simp [hs])
        (fun k => by have := hl (k + 1); rw [List.getElem?_cons_succ] at this; rw [this]; congr 1; omega) ?_
      · intro i o' hi
        exact this i o' (by simp at hi ⊢; omega)
      · intro i o' hi ho' j hj hp
        by_cases him : i < m
        · refine hacc i o' him ho' j ?_ hp
          simp only [Array.getD_eq_getD_getElem?] at hj ⊢
          rwa [Array.getElem?_push_lt (by omega), ← Array.getElem?_eq_getElem] at hj
        · have hime : i = m := by omega
          subst hime
          have hoo : o' = o := by
            have := hl 0
            simp only [List.getElem?_cons_zero, Nat.add_zero] at this
            rw [ho'] at this
            exact (Option.some.inj this).symm
          subst hoo
          simp only [Array.getD_eq_getD_getElem?] at hj
          rw [← hs, Array.getElem?_push_size] at hj
          simp only [Option.getD_some] at hj
          rw [← Array.foldl_toList] at hj
          rcases testBit_foldl acc j o'.after.toList 0 (by simpa using hj) with h1 | ⟨e, h1, h2, h3⟩
          · simp at h1
          · have hse := hp e (by simpa using h1) h2
            rcases h3 with h3 | h3
            · rw [← h3]; exact hse
            · by_cases hlt : e.on < i
              · cases hoe : ops[e.on]? with
                | none =>
                  exfalso
                  have h4 : ops.size ≤ e.on := by simpa using hoe
                  have h5 := (Array.getElem?_eq_some_iff.1 ho').1
                  omega
                | some oe => exact hacc e.on oe hlt hoe j h3 (hS e.on oe hoe hse)
              · rw [Array.getD_eq_getD_getElem?, Array.getElem?_eq_none (by omega)] at h3
                simp at h3
  have hi := (Array.getElem?_eq_some_iff.1 ho).1
  exact key ops.toList 0 #[] rfl (fun k => by simp) (fun i o hi => by omega) i o (by simpa using hi) ho j h hp
def drawOk (ops : Array Oper) : Bool :=
  (List.range ops.size).all fun j =>
    ((ops.getD j default).after.all fun e => !Region.binds .any e || decide (e.on < j)) &&
    (List.range j).all fun i => anc ops i j || (ops.getD i default).apart ops (ops.getD j default)

/-! ### the states on the way -/
def putT (o : Oper) (t : Tr) (e : List AV) : List AV :=
  match t with
  | .val v _ _ | .call v _ _ => aput e o.dst v
  | _ => e
def appT (t : Tr) (H : Heap) : Heap :=
  match t with
  | .val _ us _ => appU H us
  | .call _ _ Ha => Ha
  | _ => H
def eAt (op : Nat → Oper) (t : Nat → Tr) (S : Nat → Bool) (e : List AV) : Nat → List AV
  | 0 => e
  | n + 1 => if S n = true then putT (op n) (t n) (eAt op t S e n) else eAt op t S e n
def hAt (t : Nat → Tr) (S : Nat → Bool) (H : Heap) : Nat → Heap
  | 0 => H
  | n + 1 => if S n = true then appT (t n) (hAt t S H n) else hAt t S H n
def full : Nat → Bool := fun _ => true
def upTo (i : Nat) : Nat → Bool := fun j => decide (j < i)
theorem full_eq (n : Nat) : full n = true := rfl
theorem upTo_lt {i n : Nat} (h : n < i) : upTo i n = true := decide_eq_true h
theorem upTo_ge {i n : Nat} (h : i ≤ n) : ¬ upTo i n = true := by simp [upTo]; omega
theorem gget_aput (e : List AV) (dst : Option Tmp) (v : AV) (s : Nat) : gget .bad (aput e dst v) s = if dst = some s then v else gget .bad e s := by
  cases dst with
  | none => simp [aput]
  | some d => simp [aput, gget_gset]
theorem gget_putT (o : Oper) (t : Tr) (e : List AV) (s : Nat) (h : o.dst ≠ some s) : gget .bad (putT o t e) s = gget .bad e s := by
  cases t <;> simp [putT, gget_aput, h]
theorem gget_putT_congr (o : Oper) (t : Tr) (e e' : List AV) (s : Nat) (h : gget .bad e s = gget .bad e' s) : gget .bad (putT o t e) s = gget .bad (putT o t e') s := by
  cases t <;> simp [putT, gget_aput, h]
theorem eAt_congr {op : Nat → Oper} {t : Nat → Tr} {e : List AV} {S S' : Nat → Bool} {s : Nat} : ∀ (n : Nat), (∀ j, j < n → (op j).dst = some s → S j = S' j) → gget .bad (eAt op t S e n) s = gget .bad (eAt op t S' e n) s
  | 0, _ => rfl
  | n + 1, h => by
    have ih := eAt_congr (op := op) (t := t) (e := e) (S := S) (S' := S') (s := s) n (fun j hj => h j (by omega))
    simp only [eAt]
    by_cases hd : (op n).dst = some s
    · rw [h n (by omega) hd]
      split
      · exact gget_putT_congr _ _ _ _ _ ih
      · exact ih
    · split <;> split <;> simp [gget_putT _ _ _ _ hd, ih]
theorem eAt_last {op : Nat → Oper} {t : Nat → Tr} {e : List AV} {S : Nat → Bool} {s i : Nat} {v : AV} (hi : S i = true) (hd : (op i).dst = some s) (hv : ∀ e', gget .bad (putT (op i) (t i) e') s = v) :
    ∀ (n : Nat), i < n → (∀ j, i < j → j < n → S j = true → (op j).dst ≠ some s) → gget .bad (eAt op t S e n) s = v
  | 0, h, _ => by omega
  | n + 1, h, hl => by
    simp only [eAt]
    by_cases hin : i = n
    · subst hin; rw [if_pos hi]; exact hv _
    · have ih := eAt_last (e := e) hi hd hv n (by omega) (fun j h1 h2 => hl j h1 (by omega))
      split
      · rename_i hs
        rw [gget_putT _ _ _ _ (hl n (by omega) (by omega) hs)]
        exact ih
      · exact ih
theorem eAt_upTo {op : Nat → Oper} {t : Nat → Tr} {e : List AV} {i : Nat} : ∀ (n : Nat), i ≤ n → eAt op t (upTo i) e n = eAt op t full e i := by
  have low : ∀ n, n ≤ i → eAt op t (upTo i) e n = eAt op t full e n := by
    intro n
    induction n with
    | zero => intro _; rfl
    | succ n ih =>
      intro hn
      simp only [eAt]
      rw [if_pos (upTo_lt (by omega)), if_pos (full_eq n), ih (by omega)]
  intro n
  induction n with
  | zero =>
    intro h
    obtain rfl : i = 0 := by omega
    rfl
  | succ n ih =>
    intro h
    by_cases hin : i = n + 1
    · subst hin; exact low _ (Nat.le_refl _)
    · simp only [eAt]
      rw [if_neg (upTo_ge (by omega))]
      exact ih (by omega)
theorem eAt_all {op : Nat → Oper} {t : Nat → Tr} {e : List AV} {S : Nat → Bool} : ∀ (n : Nat), (∀ j, j < n → S j = true) → eAt op t S e n = eAt op t full e n
  | 0, _ => rfl
  | n + 1, h => by simp only [eAt]; rw [if_pos (h n (by omega)), if_pos (full_eq n), eAt_all n (fun j hj => h j (by omega))]

/-! ### memory on the way -/
def obs (H : Heap) (k : Nat) : Option (List AV) × Bool := (H.get k, H.isLive k)
def loud : Tr → Bool
  | .val _ us _ => !us.isEmpty
  | .call _ _ _ => true
  | _ => false
theorem obs_app_other (H : Heap) (u : U) (k : Nat) (h : u.key ≠ k) : obs (u.app H) k = obs H k := by
  cases u <;> simp_all [obs, U.app, U.key]
theorem obs_app_congr (H H' : Heap) (u : U) (k : Nat) (h : obs H k = obs H' k) : obs (u.app H) k = obs (u.app H') k := by
  simp only [obs, Prod.mk.injEq] at h
  cases u <;> simp [obs, U.app, h.1, h.2]
theorem obs_appU_other (us : List U) : ∀ (H : Heap) (k : Nat), (∀ u, u ∈ us → u.key ≠ k) → obs (appU H us) k = obs H k := by
  induction us with
  | nil => intro H k _; rfl
  | cons u us ih =>
    intro H k h
    simp only [appU]
    rw [ih _ _ (fun u' hu => h u' (List.mem_cons_of_mem _ hu)), obs_app_other _ _ _ (h u (List.mem_cons_self ..))]
theorem obs_appU_congr (us : List U) : ∀ (H H' : Heap) (k : Nat), obs H k = obs H' k → obs (appU H us) k = obs (appU H' us) k := by
  induction us with
  | nil => intro H H' k h; exact h
  | cons u us ih => intro H H' k h; exact ih _ _ _ (obs_app_congr _ _ _ _ h)
/-- Where a call is done, all that was loud ahead of it is. -/
def CL (t : Nat → Tr) (S : Nat → Bool) (n : Nat) : Prop := ∀ i v Hb Ha, i < n → t i = .call v Hb Ha → S i = true → ∀ j, j < i → loud (t j) = true → S j = true
theorem hAt_congr {t : Nat → Tr} {H : Heap} {k : Nat} : ∀ (n : Nat) (S S' : Nat → Bool), CL t S n → CL t S' n →
    (∀ i v Hb Ha, i < n → t i = .call v Hb Ha → Hb = hAt t full H i) →
    (∀ j v us rs, j < n → t j = .val v us rs → (∃ u, u ∈ us ∧ u.key = k) → S j = S' j) → (∀ j v Hb Ha, j < n → t j = .call v Hb Ha → S j = S' j ∨ obs Hb k = obs Ha k) →
    obs (hAt t S H n) k = obs (hAt t S' H n) k := by
  intro n
  induction n with
  | zero => intro S S' _ _ _ _ _; rfl
  | succ n ih =>
    intro S S' hS hS' hG hv hc
    have cl : ∀ {S : Nat → Bool}, CL t S (n + 1) → CL t S n := fun h i v Hb Ha hi => h i v Hb Ha (by omega)
    have hih := ih S S' (cl hS) (cl hS') (fun i v Hb Ha hi => hG i v Hb Ha (by omega)) (fun j v us rs hj => hv j v us rs (by omega)) (fun j v Hb Ha hj => hc j v Hb Ha (by omega))
    simp only [hAt]
    cases ht : t n with
    | val v us rs =>
      by_cases hk : ∃ u, u ∈ us ∧ u.key = k
      · rw [hv n v us rs (by omega) ht hk]
        split
        · exact obs_appU_congr us _ _ _ hih
        · exact hih
      · have hne : ∀ u, u ∈ us → u.key ≠ k := fun u hu he => hk ⟨u, hu, he⟩
        split <;> split <;> simp [appT, obs_appU_other us _ _ hne, hih]
    | call v Hb Ha =>
      -- one has the call done, the other not: the call keeps k
      have one : ∀ (A B : Nat → Bool), CL t A (n + 1) → CL t B (n + 1) → A n = true → obs Hb k = obs Ha k →
          (∀ j v us rs, j < n + 1 → t j = .val v us rs → (∃ u, u ∈ us ∧ u.key = k) → A j = B j) → (∀ j v Hb Ha, j < n + 1 → t j = .call v Hb Ha → A j = B j ∨ obs Hb k = obs Ha k) →
          obs Ha k = obs (hAt t B H n) k := by
        intro A B hA hB hAn hkeep hv hc
        rw [← hkeep, hG n v Hb Ha (by omega) ht]
        refine ih full B (fun i v Hb Ha _ _ _ j _ _ => rfl) (cl hB) (fun i v Hb Ha hi => hG i v Hb Ha (by omega)) ?_ ?_
        · intro j v' us rs hj htj hu
          have hAj : A j = true := hA n v Hb Ha (by omega) ht hAn j hj (by
            rw [htj]
            obtain ⟨u, hu, _⟩ := hu
            cases us with
            | nil => cases hu
            | cons _ _ => rfl)
          rw [← hv j v' us rs (by omega) htj hu, hAj]
          rfl
        · intro j v' Hb' Ha' hj htj
          have hAj : A j = true := hA n v Hb Ha (by omega) ht hAn j hj (by rw [htj]; rfl)
          rcases hc j v' Hb' Ha' (by omega) htj with h | h
          · exact .inl (by rw [← h, hAj]; rfl)
          · exact .inr h
      rcases hc n v Hb Ha (by omega) ht with hss | hkeep
      · rw [hss]
        split
        · rfl
        · exact hih
      · cases h1 : S n <;> cases h2 : S' n
        · simpa using hih
        · simp only [Bool.false_eq_true, if_false, if_true, appT]
          exact (one S' S hS' hS h2 hkeep (fun j v us rs hj h3 h4 => (hv j v us rs hj h3 h4).symm) (fun j v Hb Ha hj h3 => (hc j v Hb Ha hj h3).imp Eq.symm (fun h => h))).symm
        · simp only [Bool.false_eq_true, if_false, if_true, appT]
          exact one S S' hS hS' h1 hkeep hv hc
        · rfl
    | pan => split <;> split <;> exact hih
    | dead => split <;> split <;> exact hih
theorem hAt_next {t : Nat → Tr} {H : Heap} {S S' : Nat → Bool} : ∀ (n : Nat), (∀ j v Hb Ha, j < n → t j = .call v Hb Ha → S j = S' j) → (hAt t S H n).next = (hAt t S' H n).next
  | 0, _ => rfl
  | n + 1, h => by
    have ih := hAt_next (H := H) (S := S) (S' := S') n (fun j v Hb Ha hj => h j v Hb Ha (by omega))
    simp only [hAt]
    cases ht : t n with
    | val v us rs => split <;> split <;> simp [appT, appU_next, ih]
    | call v Hb Ha => rw [h n v Hb Ha (by omega) ht]; split <;> first | rfl | exact ih
    | pan => split <;> split <;> exact ih
    | dead => split <;> split <;> exact ih
/-- The very memory, where all that is loud agrees. -/
theorem hAt_eq {t : Nat → Tr} {H : Heap} {S S' : Nat → Bool} : ∀ (n : Nat), (∀ j, j < n → loud (t j) = true → S j = S' j) → hAt t S H n = hAt t S' H n
  | 0, _ => rfl
  | n + 1, h => by
    have ih := hAt_eq (H := H) (S := S) (S' := S') n (fun j hj => h j (by omega))
    simp only [hAt]
    by_cases hl : loud (t n) = true
    · rw [h n (by omega) hl, ih]
    · have hid : ∀ H', appT (t n) H' = H' := by
        intro H'
        cases ht : t n with
        | val v us rs =>
          rw [ht] at hl
          cases us with
          | nil => rfl
          | cons _ _ => exact absurd rfl hl
        | call v Hb Ha => rw [ht] at hl; exact absurd rfl hl
        | pan => rfl
        | dead => rfl
      simp only [hid, ite_self]
      exact ih
theorem hAt_upTo {t : Nat → Tr} {H : Heap} {i : Nat} : ∀ (n : Nat), i ≤ n → hAt t (upTo i) H n = hAt t full H i := by
  have low : ∀ n, n ≤ i → hAt t (upTo i) H n = hAt t full H n := by
    intro n
    induction n with
    | zero => intro _; rfl
    | succ n ih =>
      intro hn
      simp only [hAt]
      rw [if_pos (upTo_lt (by omega)), if_pos (full_eq n), ih (by omega)]
  intro n
  induction n with
  | zero =>
    intro h
    obtain rfl : i = 0 := by omega
    rfl
  | succ n ih =>
    intro h
    by_cases hin : i = n + 1
    · subst hin; exact low _ (Nat.le_refl _)
    · simp only [hAt]
      rw [if_neg (upTo_ge (by omega))]
      exact ih (by omega)
end Go.Proofs.YtghhkbigmmjanaaGreatDoor.VA

/-! Vb5 -/
namespace Go.Proofs.YtghhkbigmmjanaaGreatDoor.VA
open Go Go.RowKit
set_option linter.unusedSimpArgs false

theorem map_parts {ρ ρ' : Operand → AV} (ps : Array (Nat × Operand)) (h : ∀ x, x ∈ ps.toList.map (·.2) → ρ x = ρ' x) :
    ps.toList.map (fun p => (p.1, ρ p.2)) = ps.toList.map (fun p => (p.1, ρ' p.2)) :=
  List.map_congr_left fun p hp => by rw [h p.2 (List.mem_map.2 ⟨p, hp, rfl⟩)]
theorem aPure_congr {P : Program} {ρ ρ' : Operand → AV} {op : Op} (h : ∀ x, x ∈ op.operands → ρ x = ρ' x) : aPure P ρ op = aPure P ρ' op := by
  cases op <;> simp only [Op.operands] at h <;> simp only [aPure]
  case move x => rw [h x (by simp)]
  case assign x => rw [h x (by simp)]
  case pick c a b => rw [h c (by simp), h a (by simp), h b (by simp)]
  case build t ps => rw [map_parts ps (fun x hx => h x (by simpa using hx))]
  case nilCheck x => rw [h x (by simp)]
  case binOp op xt x y yt => rw [h x (by simp), h y (by simp)]
  case unOp op xt x => rw [h x (by simp)]
  case convert s d x => rw [h x (by simp)]
  case makeInterface t x => rw [h x (by simp)]
  case makeFunc fn first caps =>
    cases fn <;> simp only [aPure]
    rw [List.map_congr_left (fun x hx => h x (by simp; exact .inr (by simpa using hx)))]
  case slice t x lo hi mx =>
    cases mx <;> simp only [aPure]
    rw [h x (by simp)]
    have h1 : lo.map ρ = lo.map ρ' := by cases lo <;> simp_all
    have h2 : hi.map ρ = hi.map ρ' := by cases hi <;> simp_all
    rw [h1, h2]
  case fieldAddr t x k => rw [h x (by simp)]
  case field t x k => rw [h x (by simp)]
  case indexAddr t x i => rw [h x (by simp), h i (by simp)]
  case index t x i => rw [h x (by simp), h i (by simp)]
  case extract x i => rw [h x (by simp)]
  case call c =>
    obtain ⟨callee, args, argTypes⟩ := c
    have hargs : ∀ x, x ∈ args.toList → ρ x = ρ' x := fun x hx => h x (by simp [Call.operands]; exact .inr (by simpa using hx))
    cases callee <;> (try simp only [aPure])
    rename_i b
    cases b <;> (try simp only [aPure])
    case len =>
      split <;> simp_all
    case min =>
      split <;> simp_all
    case max =>
      split <;> simp_all
theorem astep_congr {P : Program} {ρ ρ' : Operand → AV} {H : Heap} {id : Nat} {op : Op} (h : ∀ x, x ∈ op.operands → ρ x = ρ' x) : astep P ρ H id op = astep P ρ' H id op := by
  have hp := aPure_congr (P := P) h
  cases op <;> simp only [Op.operands] at h <;> simp only [astep] <;> try rw [hp]
  case box t x => rw [h x (by simp)]
  case buildSlice t n ps => rw [map_parts ps (fun x hx => h x (by simpa using hx))]
  case load t x => rw [h x (by simp)]
  case store t x v => rw [h x (by simp), h v (by simp)]
  case panic x => rw [h x (by simp)]
  case call c =>
    obtain ⟨callee, args, argTypes⟩ := c
    have hargs : ∀ x, x ∈ args.toList → ρ x = ρ' x := fun x hx => h x (by simp [Call.operands]; exact .inr (by simpa using hx))
    cases callee
    case value f =>
      have hf : ρ f = ρ' f := h f (by simp [Call.operands])
      simp only [astep]
      rw [hf, List.map_congr_left hargs]
    case builtin b =>
      cases b <;> (try simp only [astep]) <;> (try rw [hp])
      case append =>
        split <;> simp_all
    case invoke r m => simp only [astep]; rw [hp]
theorem aLoad_congr {P : Program} {t : TypeId} {x z : AV} {H H' : Heap} {rs : List Nat} (h : aLoad P t x H = some (z, rs)) (hk : ∀ k, k ∈ rs → H'.get k = H.get k) : aLoad P t x H' = some (z, rs) := by
  unfold aLoad at h ⊢
  split at h
  · rename_i ha
    try simp only [ha]
    split at h
    · rename_i n r off hs
      try simp only [hs]
      split at h
      · rename_i cs hcs
        split at h
        · rename_i hle
          simp only [Option.some.injEq, Prod.mk.injEq] at h
          obtain ⟨rfl, rfl⟩ := h
          simp only [hk r (by simp), hcs, if_pos hle]
        · cases h
      · cases h
    · rename_i n cs hs
      try simp only [hs]
      exact h
    · cases h
  · rename_i ha
    try simp only [ha]
    split at h
    · rename_i r off
      split at h
      · rename_i cs hcs
        split at h
        · rename_i v hv
          simp only [Option.some.injEq, Prod.mk.injEq] at h
          obtain ⟨rfl, rfl⟩ := h
          simp only [hk r (by simp), hcs, hv]
        · cases h
      · cases h
    · exact h
    · cases h
  · cases h
theorem aStore_congr {P : Program} {t : TypeId} {x z : AV} {H H' : Heap} {us : List U} (h : aStore P t x z H = some us) (hk : ∀ u, u ∈ us → H'.get u.key = H.get u.key) : aStore P t x z H' = some us := by
  unfold aStore at h ⊢
  split at h
  · rename_i n r off hs
    try simp only [hs]
    split at h
    · rename_i cs hcs
      split at h
      · rename_i hle
        simp only [Option.some.injEq] at h
        have hr : H'.get r = H.get r := hk (.box r _) (by rw [← h]; exact List.mem_cons_self ..)
        simp only [hr, hcs, if_pos hle, h]
      · cases h
    · cases h
  · cases h
theorem aAppend_congr {P : Program} {t : TypeId} {s x z : AV} {H H' : Heap} {us : List U} {rs : List Nat} {id : Nat} (h : aAppend P t s x H id = some (z, us, rs)) (hk : ∀ k, k ∈ rs → H'.isLive k = H.isLive k) :
    aAppend P t s x H' id = some (z, us, rs) := by
  unfold aAppend at h ⊢
  split at h
  · rename_i e sz by_ o es ox xs het
    try simp only [het]
    split at h
    · exact h
    · rename_i x0 xs'
      split at h
      · rename_i hc
        try simp only [if_pos hc]
        split at h
        · exact h
        · exact h
        · rename_i k e' sz'
          split at h
          · rename_i hl
            simp only [Option.some.injEq, Prod.mk.injEq] at h
            have := hk k (by rw [← h.2.2]; simp)
            rw [if_pos (by rw [this]; exact hl)]
            simp only [h.1, h.2.1, h.2.2]
          · cases h
        · cases h
      · cases h
  · cases h
def Sr.keys : Sr → List Nat
  | .val _ us rs => rs ++ us.map U.key
  | _ => []
theorem astep_heap {P : Program} {ρ : Operand → AV} {H H' : Heap} {id : Nat} {op : Op} {r : Sr} (h : astep P ρ H id op = some r) (hk : ∀ k, k ∈ r.keys → obs H' k = obs H k) : astep P ρ H' id op = some r := by
  have hg : ∀ k, k ∈ r.keys → H'.get k = H.get k := fun k hkk => by have := hk k hkk; simp only [obs, Prod.mk.injEq] at this; exact this.1
  have hl : ∀ k, k ∈ r.keys → H'.isLive k = H.isLive k := fun k hkk => by have := hk k hkk; simp only [obs, Prod.mk.injEq] at this; exact this.2
  cases op <;> simp only [astep] at h ⊢ <;> try exact h
  case load t x =>
    cases hb : aLoad P t (ρ x) H with
    | none => simp [hb] at h
    | some p =>
      obtain ⟨v, rs⟩ := p
      simp [hb] at h
      subst h
      rw [aLoad_congr hb (fun k hkk => hg k (by simp [Sr.keys, hkk]))]
      rfl
  case store t x v =>
    cases hb : aStore P t (ρ x) (ρ v) H with
    | none => simp [hb] at h
    | some us =>
      simp [hb] at h
      subst h
      rw [aStore_congr hb (fun u hu => hg u.key (by simp [Sr.keys]; exact ⟨u, hu, rfl⟩))]
      rfl
  case call c =>
    obtain ⟨callee, args, argTypes⟩ := c
    cases callee <;> (try simp only [astep] at h ⊢) <;> (try exact h)
    rename_i b
    cases b <;> (try simp only [astep] at h ⊢) <;> (try exact h)
    split at h
    · rename_i s x t t' hargs hts
      try simp only [hargs, hts]
      split at h
      · rename_i htt
        try rw [if_pos htt]
        cases hb : aAppend P t (ρ s) (ρ x) H id with
        | none => simp [hb] at h
        | some p =>
          obtain ⟨v, us, rs⟩ := p
          simp [hb] at h
          subst h
          rw [aAppend_congr hb (fun k hkk => hl k (by simp [Sr.keys, hkk]))]
          rfl
      · cases h
    · cases h
theorem aWanted_congr {ops : Array Oper} {e e' : List AV} {o : Oper} (h : ∀ d, d ∈ o.looksAt ops → gget .bad e' d = gget .bad e d) : aWanted ops e' o = aWanted ops e o := by
  unfold aWanted
  cases hg : o.guard with
  | none => rfl
  | some p =>
    obtain ⟨j, want⟩ := p
    simp only
    cases hd : (ops[j]?).bind (·.dst) with
    | none => rfl
    | some d => simp only; rw [h d (by simp [Oper.looksAt, hg, hd])]
theorem aeval_congr {ops : Array Oper} {e e' : List AV} {o : Oper} (h : ∀ d, d ∈ o.looksAt ops → gget .bad e' d = gget .bad e d) (x : Operand) (hx : x ∈ o.op.operands) : aeval e' x = aeval e x := by
  cases x with
  | tmp t =>
    refine h t ?_
    unfold Oper.looksAt
    exact List.mem_append_left _ (List.mem_filterMap.2 ⟨.tmp t, by simpa using hx, rfl⟩)
  | _ => rfl
/-- What is known of operation number i. -/
def Spec (P : Program) (K : Calling) (imp : FuncId → Bool) (ops : Array Oper) (base : Nat) (o : Oper) (i : Nat) (L : List AV) (G : Heap) (pk : Option (Nat × AV × Heap)) : Tr → Prop
  | .dead => ∃ k x, pk = some (k, x) ∧ anc ops k i = true
  | .pan => ∃ v Hp, pk = some (i, v, Hp) ∧ aWanted ops L o = some true ∧
      ((astep P (aeval L) G (base + i) o.op = some (.pan v) ∧ Hp = G) ∨ ∃ f args, astep P (aeval L) G (base + i) o.op = some (.call f args) ∧ imp f = true ∧ K f args G = some (.pan v Hp))
  | .val v us rs => (aWanted ops L o = some false ∧ v = .tup [] ∧ us = [] ∧ rs = []) ∨ (aWanted ops L o = some true ∧ (astep P (aeval L) G (base + i) o.op = some (.val v us rs) ∨
      ∃ f args H', astep P (aeval L) G (base + i) o.op = some (.call f args) ∧ imp f = false ∧ K f args G = some (.ret v H') ∧ us = [] ∧ rs = []))
  | .call v Hb Ha => aWanted ops L o = some true ∧ Hb = G ∧ ∃ f args, astep P (aeval L) G (base + i) o.op = some (.call f args) ∧ imp f = true ∧ K f args G = some (.ret v Ha)
theorem runTr_spec {P : Program} {K : Calling} {imp : FuncId → Bool} {ops : Array Oper} {base : Nat} {op : Nat → Oper} {t : Nat → Tr} {e0 : List AV} {H0 : Heap} (hop : ∀ j o, ops[j]? = some o → op j = o) :
    ∀ (os : List Oper) (i : Nat) (pk : Option (Nat × AV × Heap)) (e : List AV) (H : Heap) (tr : List Tr) (pk' : Option (Nat × AV × Heap)) (e' : List AV) (H' : Heap),
    runTr P K imp ops base os i pk e H = some (tr, pk', e', H') → os = ops.toList.drop i → (∀ j, j < os.length → t (i + j) = tr.getD j .dead) → e = eAt op t full e0 i → H = hAt t full H0 i →
    (∀ k x, pk = some (k, x) → k < i) →
    (∀ j, i ≤ j → j < i + os.length → Spec P K imp ops base (op j) j (eAt op t full e0 j) (hAt t full H0 j) pk' (t j) ∧ (∀ k x, pk' = some (k, x) → k < j → loud (t j) = false)) ∧
      e' = eAt op t full e0 (i + os.length) ∧ H' = hAt t full H0 (i + os.length) ∧ (∀ x, pk = some x → pk' = some x) ∧
      (∀ k x, pk' = some (k, x) → pk = some (k, x) ∨ (i ≤ k ∧ k < i + os.length ∧ t k = .pan)) := by
  intro os
  induction os with
  | nil =>
    intro i pk e H tr pk' e' H' h _ _ he hH _
    simp only [runTr, Option.some.injEq, Prod.mk.injEq] at h
    obtain ⟨rfl, rfl, rfl, rfl⟩ := h
    exact ⟨fun j h1 h2 => absurd h2 (by simp; omega), by simpa using he, by simpa using hH, fun x h => h, fun k x h => .inl h⟩
  | cons o os ih =>
    intro i pk e H tr pk' e' H' h hos ht he hH hpk
    have hoi : op i = o := by
      refine hop i o ?_
      have : (ops.toList.drop i)[0]? = some o := by rw [← hos]; rfl
      simpa using this
    have hos' : os = ops.toList.drop (i + 1) := by
      have : (o :: os).tail = (ops.toList.drop i).tail := by rw [hos]
      simpa using this
    have hlen : (o :: os).length = os.length + 1 := rfl
    -- one step, then the rest
    have go : ∀ (t0 : Tr) (pk1 : Option (Nat × AV × Heap)) (tr1 : List Tr), runTr P K imp ops base os (i + 1) pk1 (putT o t0 e) (appT t0 H) = some (tr1, pk', e', H') → tr = t0 :: tr1 →
        (∀ k x, pk1 = some (k, x) → k < i + 1) → (∀ x, pk = some x → pk1 = some x) → (∀ k x, pk1 = some (k, x) → pk = some (k, x) ∨ (k = i ∧ t0 = .pan)) →
        ((∀ x, pk1 = some x → pk' = some x) → (∀ k x, pk' = some (k, x) → k < i → pk = some (k, x)) → Spec P K imp ops base o i e H pk' t0 ∧ (∀ k x, pk' = some (k, x) → k < i → loud t0 = false)) →
        (∀ j, i ≤ j → j < i + (o :: os).length → Spec P K imp ops base (op j) j (eAt op t full e0 j) (hAt t full H0 j) pk' (t j) ∧ (∀ k x, pk' = some (k, x) → k < j → loud (t j) = false)) ∧
          e' = eAt op t full e0 (i + (o :: os).length) ∧ H' = hAt t full H0 (i + (o :: os).length) ∧ (∀ x, pk = some x → pk' = some x) ∧
          (∀ k x, pk' = some (k, x) → pk = some (k, x) ∨ (i ≤ k ∧ k < i + (o :: os).length ∧ t k = .pan)) := by
      intro t0 pk1 tr1 hrun htr hp1 hp2 hp3 hspec
      have hti : t i = t0 := by have := ht 0 (by simp); rw [htr] at this; simpa using this
      have h1 : putT o t0 e = eAt op t full e0 (i + 1) := by
        simp only [eAt]
        rw [if_pos (full_eq i), hti, hoi, ← he]
      have h2 : appT t0 H = hAt t full H0 (i + 1) := by
        simp only [hAt]
        rw [if_pos (full_eq i), hti, ← hH]
      obtain ⟨q1, q2, q3, q4, q5⟩ := ih (i + 1) pk1 _ _ tr1 pk' e' H' hrun hos' (fun j hj => by
        have := ht (j + 1) (by simp; omega)
        rw [htr] at this
        rw [show i + 1 + j = i + (j + 1) by omega, this]
        simp) h1 h2 hp1
      obtain ⟨s1, s2⟩ := hspec q4 (fun k x hx hk => by
        rcases q5 k x hx with h3 | ⟨h3, _⟩
        · rcases hp3 k x h3 with h4 | ⟨h4, _⟩
          · exact h4
          · omega
        · omega)
      refine ⟨?_, by rw [hlen, q2]; congr 1; omega, by rw [hlen, q3]; congr 1; omega, fun x hx => q4 x (hp2 x hx), ?_⟩
      · intro j hj1 hj2
        by_cases hji : j = i
        · subst hji
          rw [hti, hoi, ← he, ← hH]
          exact ⟨s1, s2⟩
        · exact q1 j (by omega) (by rw [hlen] at hj2; omega)
      · intro k x hx
        rcases q5 k x hx with h3 | ⟨h3, h4, h5⟩
        · rcases hp3 k x h3 with h4 | ⟨h4, h5⟩
          · exact .inl h4
          · exact .inr ⟨by omega, by rw [hlen]; omega, by rw [h4, hti, h5]⟩
        · exact .inr ⟨by omega, by rw [hlen]; omega, h5⟩
    simp only [runTr] at h
    -- an operation that leaves 'pk' alone
    have stay : ∀ (t0 : Tr) (tr1 : List Tr), runTr P K imp ops base os (i + 1) pk (putT o t0 e) (appT t0 H) = some (tr1, pk', e', H') → tr = t0 :: tr1 → (pk.isSome = true → loud t0 = false) →
        ((∀ x, pk = some x → pk' = some x) → Spec P K imp ops base o i e H pk' t0) → _ :=
      fun t0 tr1 hrun htr hld hsp => go t0 pk tr1 hrun htr (fun k x hx => Nat.lt_succ_of_lt (hpk k x hx)) (fun x hx => hx) (fun k x hx => .inl hx)
        (fun q4 q5 => ⟨hsp q4, fun k x hx hk => hld (by rw [q5 k x hx hk]; rfl)⟩)
    -- one that panics
    have stop : ∀ (v : AV) (Hp : Heap) (tr1 : List Tr), pk = none → runTr P K imp ops base os (i + 1) (some (i, v, Hp)) e H = some (tr1, pk', e', H') → tr = .pan :: tr1 →
        (pk' = some (i, v, Hp) → Spec P K imp ops base o i e H pk' .pan) → _ :=
      fun v Hp tr1 hn hrun htr hsp => go .pan (some (i, v, Hp)) tr1 hrun htr (fun k x hx => by simp at hx; omega) (fun x hx => by rw [hn] at hx; cases hx)
        (fun k x hx => by simp at hx; exact .inr ⟨hx.1.symm, rfl⟩) (fun q4 _ => ⟨hsp (q4 _ rfl), fun _ _ _ _ => rfl⟩)
    by_cases hdead : behind ops pk i = true
    · -- dead
      rw [if_pos hdead] at h
      split at h
      · rename_i tr1 r1 hrun
        simp only [Option.some.injEq, Prod.mk.injEq] at h
        obtain ⟨rfl, rfl⟩ := h
        refine stay .dead tr1 hrun rfl (fun _ => rfl) (fun q4 => ?_)
        cases hpk0 : pk with
        | none => rw [hpk0] at hdead; simp [behind] at hdead
        | some y =>
          obtain ⟨k, x⟩ := y
          rw [hpk0] at hdead
          exact ⟨k, x, q4 _ hpk0, hdead⟩
      · cases h
    · rw [if_neg hdead] at h
      cases hw : aWanted ops e o with
      | none => simp [hw] at h
      | some b =>
        simp only [hw] at h
        cases b with
        | false =>
          simp only at h
          split at h
          · rename_i tr1 r1 hrun
            simp only [Option.some.injEq, Prod.mk.injEq] at h
            obtain ⟨rfl, rfl⟩ := h
            exact stay (.val (.tup []) [] []) tr1 hrun rfl (fun _ => rfl) (fun _ => .inl ⟨hw, rfl, rfl, rfl⟩)
          · cases h
        | true =>
          simp only at h
          cases hst : astep P (aeval e) H (base + i) o.op with
          | none => simp [hst] at h
          | some r =>
            simp only [hst] at h
            cases r with
            | val v us rs =>
              simp only at h
              split at h
              · cases h
              · rename_i hnl
                split at h
                · rename_i tr1 r1 hrun
                  simp only [Option.some.injEq, Prod.mk.injEq] at h
                  obtain ⟨rfl, rfl⟩ := h
                  refine stay (.val v us rs) tr1 hrun rfl (fun hs => ?_) (fun _ => .inr ⟨hw, .inl hst⟩)
                  simp only [loud, Bool.not_eq_false']
                  cases hus : us.isEmpty with
                  | true => rfl
                  | false => exact absurd ⟨hs, hus⟩ hnl
                · cases h
            | pan v =>
              simp only at h
              split at h
              · cases h
              · rename_i hnone
                have hn : pk = none := by cases hq : pk with | none => rfl | some y => rw [hq] at hnone; exact absurd rfl hnone
                split at h
                · rename_i tr1 r1 hrun
                  simp only [Option.some.injEq, Prod.mk.injEq] at h
                  obtain ⟨rfl, rfl⟩ := h
                  exact stop v H tr1 hn hrun rfl (fun hp => ⟨v, H, hp, hw, .inl ⟨hst, rfl⟩⟩)
                · cases h
            | call f args =>
              simp only at h
              split at h
              · rename_i himp
                split at h
                · cases h
                · rename_i hnone
                  have hn : pk = none := by cases hq : pk with | none => rfl | some y => rw [hq] at hnone; exact absurd rfl hnone
                  cases hc : K f args H with
                  | none => simp [hc] at h
                  | some c =>
                    simp only [hc] at h
                    cases c with
                    | ret v H1 =>
                      simp only at h
                      split at h
                      · rename_i tr1 r1 hrun
                        simp only [Option.some.injEq, Prod.mk.injEq] at h
                        obtain ⟨rfl, rfl⟩ := h
                        exact stay (.call v H H1) tr1 hrun rfl (fun hs => by rw [hn] at hs; cases hs) (fun _ => ⟨hw, rfl, f, args, hst, himp, hc⟩)
                      · cases h
                    | pan v H1 =>
                      simp only at h
                      split at h
                      · rename_i tr1 r1 hrun
                        simp only [Option.some.injEq, Prod.mk.injEq] at h
                        obtain ⟨rfl, rfl⟩ := h
                        exact stop v H1 tr1 hn hrun rfl (fun hp => ⟨v, H1, hp, hw, .inr ⟨f, args, hst, himp, hc⟩⟩)
                      · cases h
              · rename_i himp
                have himp' : imp f = false := by simpa using himp
                split at h
                · rename_i v H1 hc
                  split at h
                  · rename_i tr1 r1 hrun
                    simp only [Option.some.injEq, Prod.mk.injEq] at h
                    obtain ⟨rfl, rfl⟩ := h
                    exact stay (.val v [] []) tr1 hrun rfl (fun _ => rfl) (fun _ => .inr ⟨hw, .inr ⟨f, args, H1, hst, himp', hc, rfl, rfl⟩⟩)
                  · cases h
                · cases h
end Go.Proofs.YtghhkbigmmjanaaGreatDoor.VA

/-! Vb6 -/
namespace Go.Proofs.YtghhkbigmmjanaaGreatDoor.VA
open Go Go.RowKit
set_option linter.unusedSimpArgs false

theorem astep_quiet {P : Program} {ρ : Operand → AV} {H : Heap} {id : Nat} {o : Oper} {r : Sr} (ht : touchy o = false) (h : astep P ρ H id o.op = some r) : ∃ v, r = .val v [] [] := by
  obtain ⟨dst, op, type, pos, after, guard⟩ := o
  have pure : ∀ {x : Option AV}, x.map (fun v => Sr.val v [] []) = some r → ∃ v, r = .val v [] [] := by
    intro x hx
    cases x with
    | none => cases hx
    | some v => simp at hx; exact ⟨v, hx.symm⟩
  cases op <;> simp only [touchy, Bool.true_eq_false] at ht <;> simp only [astep] at h <;> try exact pure h
  case call c =>
    obtain ⟨callee, args, argTypes⟩ := c
    cases callee <;> (try simp only [touchy, Bool.true_eq_false] at ht) <;> (try exact pure h)
    rename_i b
    cases b <;> (try simp only [touchy, Bool.true_eq_false] at ht) <;> exact pure h
theorem mem_unord {ops : Array Oper} {i j : Nat} (hij : i < j) (hj : j < ops.size) (hi : touchy (ops.getD i default) = true) (hjt : touchy (ops.getD j default) = true) (ha : anc ops i j = false) : (i, j) ∈ unord ops := by
  unfold unord
  simp only [List.mem_flatMap, List.mem_filter, List.mem_range, List.mem_map, Bool.and_eq_true, decide_eq_true_eq, Bool.not_eq_true']
  exact ⟨j, ⟨hj, hjt⟩, i, ⟨⟨by omega, hi⟩, hij, ha⟩, rfl⟩
def isVal : Tr → Bool
  | .val _ _ _ | .call _ _ _ => true
  | _ => false
theorem drawOk_spec {ops : Array Oper} (h : drawOk ops = true) : (∀ j, j < ops.size → ∀ e, e ∈ (ops.getD j default).after → Region.binds .any e = true → e.on < j) ∧
    (∀ i j, i < j → j < ops.size → anc ops i j = true ∨ (ops.getD i default).apart ops (ops.getD j default) = true) := by
  simp only [drawOk, List.all_eq_true, List.mem_range, Bool.and_eq_true, Bool.or_eq_true] at h
  constructor
  · intro j hj e he hb
    have := (h j hj).1
    rw [Array.all_eq_true_iff_forall_mem] at this
    have := this e he
    simp [hb] at this
    exact this
  · intro i j hij hj
    exact (h j hj).2 i hij
theorem getD_of {ops : Array Oper} {i : Nat} {o : Oper} (h : ops[i]? = some o) : ops.getD i default = o := by simp [h]
theorem of_lt {ops : Array Oper} {i : Nat} (h : i < ops.size) : ops[i]? = some (ops.getD i default) := by simp [h]
set_option maxHeartbeats 2000000 in
theorem draw_sound {P : Program} {K : Calling} {imp : FuncId → Bool} (hK : KOk P K imp) (hm : P.follows .mixedOrders = true) {ops : Array Oper} {n rid : Nat} (hd : drawOk ops = true) (hds : ∀ o, o ∈ ops.toList → dstOk n o = true)
    {e e' : List AV} {H H2 : Heap} {tr : List Tr} {pk : Option (Nat × AV × Heap)} (hrun : runTr P K imp ops H.next ops.toList 0 none e { H with next := H.next + ops.size } = some (tr, pk, e', H2)) (hok : TrOk ops tr)
    {g : Gh} {a : Act} {w : World} (hi : Inv g H w) (he : EnvRel g w e a.tmps) (hn : a.tmps.size = n) (htop : Top g H.next) (Q : Exit → Act → World → Prop)
    (hQn : pk = none → ∀ g' a' w', Past H.next g w g' H2 w' → KeptL ops.toList a a' → a'.tmps.size = n → EnvRel g' w' e' a'.tmps → Q .normal a' w')
    (hQp : ∀ k v Hp, pk = some (k, v, Hp) → ∀ g' a' w' u, Past H.next g w g' Hp w' → KeptL ops.toList a a' → a'.tmps.size = n → Rel g' w' v u → Q (.panic (oneEntry u)) a' w') :
    (Code.region rid ops true).wp P Q a w := by
  obtain ⟨hback, hslot⟩ := drawOk_spec hd
  generalize hbase : H.next = base at *
  generalize hH0 : ({ H with next := base + ops.size } : Heap) = H0 at *
  let op : Nat → Oper := fun j => ops.getD j default
  let t : Nat → Tr := fun j => tr.getD j .dead
  have hop : ∀ j o, ops[j]? = some o → op j = o := fun j o h => getD_of h
  obtain ⟨hspec, hE, hHH, _, hpk⟩ := runTr_spec (P := P) (K := K) (imp := imp) (ops := ops) (base := base) (op := op) (t := t) (e0 := e) (H0 := H0) hop ops.toList 0 none e H0 tr pk e' H2 hrun (by simp) (fun j _ => by rw [Nat.zero_add]) rfl rfl (fun k x h => by cases h)
  simp only [Nat.zero_le, true_implies, Nat.zero_add, Array.length_toList] at hspec hE hHH hpk
  -- whoever waits for nobody lets alone
  have hquiet : ∀ i, i < ops.size → touchy (op i) = false → (∃ v, t i = .val v [] []) ∨ t i = .dead := by
    intro i hil ht
    have hs := (hspec i hil).1
    generalize t i = ti at hs
    cases ti with
    | dead => exact .inr rfl
    | pan =>
      obtain ⟨v, Hp, _, _, h | ⟨f, args, h, _⟩⟩ := hs
      · obtain ⟨v', hv⟩ := astep_quiet ht h.1; cases hv
      · obtain ⟨v', hv⟩ := astep_quiet ht h; cases hv
    | val v us rs =>
      left
      rcases hs with ⟨_, _, rfl, rfl⟩ | ⟨_, h | ⟨f, args, H', _, _, _, rfl, rfl⟩⟩
      · exact ⟨v, rfl⟩
      · obtain ⟨v', hv⟩ := astep_quiet ht h
        simp only [Sr.val.injEq] at hv
        obtain ⟨rfl, rfl, rfl⟩ := hv
        exact ⟨v, rfl⟩
      · exact ⟨v, rfl⟩
    | call v Hb Ha =>
      obtain ⟨_, _, f, args, h, _⟩ := hs
      obtain ⟨v', hv⟩ := astep_quiet ht h; cases hv
  have hNC : ∀ i j, i < j → j < ops.size → anc ops i j = false → NoConf (t i) (t j) := by
    intro i j hij hj ha
    have q1 : ∀ (x : Tr) (v : AV), NoConf (.val v [] []) x := by intro x v; cases x <;> simp [NoConf]
    have q2 : ∀ (x : Tr) (v : AV), NoConf x (.val v [] []) := by intro x v; cases x <;> simp [NoConf]
    have q3 : ∀ (x : Tr), NoConf .dead x := by intro x; cases x <;> simp [NoConf]
    have q4 : ∀ (x : Tr), NoConf x .dead := by intro x; cases x <;> simp [NoConf]
    cases h1 : touchy (op i) with
    | false =>
      rcases hquiet i (by omega) h1 with ⟨v, h⟩ | h
      · rw [h]; exact q1 _ _
      · rw [h]; exact q3 _
    | true =>
      cases h2 : touchy (op j) with
      | false =>
        rcases hquiet j hj h2 with ⟨v, h⟩ | h
        · rw [h]; exact q2 _ _
        · rw [h]; exact q4 _
      | true => exact hok (i, j) (mem_unord hij hj h1 h2 ha)
  have hHb : ∀ i v Hb Ha, i < ops.size → t i = .call v Hb Ha → Hb = hAt t full H0 i := by
    intro i v Hb Ha hil hti
    have hs := (hspec i hil).1
    rw [hti] at hs
    exact hs.2.1
  have hpan : ∀ k x, pk = some (k, x) → k < ops.size ∧ t k = .pan := by
    intro k x hx
    rcases hpk k x hx with h | ⟨_, h2, h3⟩
    · cases h
    · exact ⟨h2, h3⟩
  refine wp_region_any hm ?_
  have main : ∀ (fuel : Nat) (listed : Array Bool) (a1 : Act) (w1 : World) (S : Nat → Bool), listed.size = ops.size → (∀ j, S j = listed.getD j false) → Shut ops S → (∀ j, S j = true → isVal (t j) = true) →
      ((List.range ops.size).filter fun j => !S j).length ≤ fuel →
      (∃ g1, Past base g w g1 (hAt t S H0 ops.size) w1 ∧ EnvRel g1 w1 (eAt op t S e ops.size) a1.tmps ∧ (∀ j, j < ops.size → S j = false → Fresh g1 (hAt t S H0 ops.size) (base + j)) ∧ base + ops.size ≤ (hAt t S H0 ops.size).next) →
      a1.tmps.size = n → KeptL ops.toList a a1 → wpAny P .any ops Q fuel listed a1 w1 := by
    intro fuel
    induction fuel with
    | zero =>
      intro listed a1 w1 S hsz hS hshut hval hcnt hst hn1 hd1
      have hall : ∀ j, j < ops.size → S j = true := by
        intro j hj
        cases hSj : S j with
        | true => rfl
        | false =>
          exfalso
          have : j ∈ (List.range ops.size).filter fun j => !S j := by simp [hj, hSj]
          have := List.length_pos_of_mem this
          omega
      have hnone : pk = none := by
        cases hp : pk with
        | none => rfl
        | some kx =>
          exfalso
          obtain ⟨h1, h2⟩ := hpan kx.1 kx.2 hp
          have := hval kx.1 (hall kx.1 h1)
          rw [h2] at this; cases this
      have hr : Region.ready .any ops listed = [] := by
        rw [List.eq_nil_iff_forall_not_mem]
        intro j hj
        obtain ⟨h0, o, ho, _⟩ := mem_ready.1 hj
        have hlt := (Array.getElem?_eq_some_iff.1 ho).1
        have := hall j hlt
        rw [hS] at this
        simp only [Array.getD_eq_getD_getElem?] at this h0
        rw [Array.getElem?_eq_getElem (by omega)] at this h0
        simp at this h0
        rw [this] at h0; cases h0
      refine wpAny_done hr ?_ 0
      obtain ⟨g1, hp, hen, _, _⟩ := hst
      rw [eAt_all ops.size hall, ← hE] at hen
      rw [hAt_eq (S' := full) ops.size (fun j hj _ => by rw [hall j hj]; rfl), ← hHH] at hp
      exact hQn hnone g1 a1 w1 hp hd1 hn1 hen
    | succ fuel ih =>
      intro listed a1 w1 S hsz hS hshut hval hcnt hst hn1 hd1
      by_cases hr : Region.ready .any ops listed = []
      · -- nothing is left
        have hall : ∀ j, j < ops.size → S j = true := by
          intro j
          induction j using Nat.strongRecOn with
          | _ j ihj =>
            intro hj
            cases hSj : S j with
            | true => rfl
            | false =>
              exfalso
              have : j ∈ Region.ready .any ops listed := by
                refine mem_ready.2 ⟨?_, op j, of_lt hj, fun ed hed hb => ?_⟩
                · rw [hS] at hSj
                  simp only [Array.getD_eq_getD_getElem?] at hSj ⊢
                  rw [Array.getElem?_eq_getElem (by omega)] at hSj ⊢
                  simpa using hSj
                · have hlt := hback j hj ed hed hb
                  rw [← hS]
                  exact ihj ed.on hlt (by omega)
              rw [hr] at this; cases this
        have hnone : pk = none := by
          cases hp : pk with
          | none => rfl
          | some kx =>
            exfalso
            obtain ⟨h1, h2⟩ := hpan kx.1 kx.2 hp
            have := hval kx.1 (hall kx.1 h1)
            rw [h2] at this; cases this
        refine wpAny_done hr ?_ (fuel + 1)
        obtain ⟨g1, hp, hen, _, _⟩ := hst
        rw [eAt_all ops.size hall, ← hE] at hen
        rw [hAt_eq (S' := full) ops.size (fun j hj _ => by rw [hall j hj]; rfl), ← hHH] at hp
        exact hQn hnone g1 a1 w1 hp hd1 hn1 hen
      · refine ⟨fun h => absurd h hr, fun i hir => ?_⟩
        obtain ⟨g1, hp, hen, hfr, hnx⟩ := hst
        obtain ⟨hun, o, ho, hpre⟩ := mem_ready.1 hir
        have hil := (Array.getElem?_eq_some_iff.1 ho).1
        have hoi : op i = o := hop i o ho
        have hSi : S i = false := by
          rw [hS]
          simp only [Array.getD_eq_getD_getElem?] at hun ⊢
          rw [Array.getElem?_eq_getElem (by omega)] at hun ⊢
          simpa using hun
        have hpre' : ∀ ed, ed ∈ o.after → Region.binds .any ed = true → S ed.on = true := fun ed h1 h2 => by rw [hS]; exact hpre ed h1 h2
        have before : ∀ j, anc ops j i = true → S j = true := fun j h => anc_shut hshut ho hpre' h
        have later : ∀ j, j < ops.size → anc ops i j = true → S j = false := by
          intro j hj h
          cases hSj : S j with
          | false => rfl
          | true =>
            have := anc_shut hshut (of_lt hj) (hshut j _ (of_lt hj) hSj) h
            rw [hSi] at this; cases this
        have hcl : ∀ (S1 : Nat → Bool), Shut ops S1 → CL t S1 ops.size := by
          intro S1 hsh k v Hb Ha hk htk hSk j hj hld
          cases ha : anc ops j k with
          | true => exact anc_shut hsh (of_lt hk) (hsh k _ (of_lt hk) hSk) ha
          | false =>
            exfalso
            have := hNC j k hj hk ha
            rw [htk] at this
            cases htj : t j with
            | val v us rs =>
              rw [htj] at this hld
              obtain ⟨h, _⟩ := this
              subst h
              cases hld
            | call v Hb Ha => rw [htj] at this; exact this
            | pan => rw [htj] at hld; cases hld
            | dead => rw [htj] at hld; cases hld
        have hup : ∀ m, m ≤ ops.size → Shut ops (upTo m) := by
          intro m hm k o' ho' hk ed hed hb
          have hkl := (Array.getElem?_eq_some_iff.1 ho').1
          have hkm : k < m := by simpa [upTo] using hk
          have : op k = o' := hop k o' ho'
          exact upTo_lt (by have := hback k hkl ed (by rw [getD_of ho']; exact hed) hb; omega)
        have hlook : ∀ d, d ∈ o.looksAt ops → gget .bad (eAt op t S e ops.size) d = gget .bad (eAt op t full e i) d := by
          intro d hdl
          rw [← eAt_upTo (op := op) (t := t) (e := e) (i := i) ops.size (by omega)]
          refine eAt_congr ops.size (fun j hj hdj => ?_)
          rcases Nat.lt_trichotomy j i with h | h | h
          · rw [upTo_lt h]
            rcases hslot j i h hil with h1 | h1
            · exact before j h1
            · exact absurd (by rw [getD_of ho]; exact hdl) ((Oper.apart_spec h1).1 d hdj)
          · subst h; rw [hSi]; exact (Bool.not_eq_true _ ▸ upTo_ge (Nat.le_refl j) : upTo j j = false).symm
          · rw [show upTo i j = false by simpa using upTo_ge (i := i) (n := j) (by omega)]
            rcases hslot i j h hj with h1 | h1
            · exact later j hj h1
            · exact absurd (by rw [getD_of ho]; exact hdl) ((Oper.apart_spec h1).2.2 d hdj)
        have hwant : aWanted ops (eAt op t S e ops.size) o = aWanted ops (eAt op t full e i) o := aWanted_congr hlook
        have hdo : ∀ d, o.dst = some d → d < a1.tmps.size := by
          rw [hn1]; exact dstOk_spec (hds o (by rw [← Array.mem_def]; exact Array.mem_of_getElem? ho))
        -- the next state
        generalize hS' : (fun j => if j = i then true else S j) = S'
        have hS'i : S' i = true := by rw [← hS']; simp
        have hS'o : ∀ j, j ≠ i → S' j = S j := fun j hj => by rw [← hS']; simp [hj]
        have hlist' : ∀ j, S' j = (listed.setIfInBounds i true).getD j false := by
          intro j
          by_cases hji : j = i
          · subst hji; rw [hS'i]; simp [show j < listed.size by omega]
          · rw [hS'o j hji, hS, getD_set_ne false (Ne.symm hji)]
        have hshut' : Shut ops S' := by
          intro k o' ho' hk ed hed hb
          by_cases hki : k = i
          · subst hki
            rw [ho] at ho'
            simp only [Option.some.injEq] at ho'
            subst ho'
            have h1 := hback k hil ed (by rw [getD_of ho]; exact hed) hb
            rw [hS'o _ (by omega)]
            exact hpre' ed hed hb
          · rw [hS'o k hki] at hk
            have := hshut k o' ho' hk ed hed hb
            by_cases hei : ed.on = i
            · rw [hei]; exact hS'i
            · rw [hS'o _ hei]; exact this
        have hcnt' : ((List.range ops.size).filter fun j => !S' j).length ≤ fuel := by
          have hsub : ((List.range ops.size).filter fun j => !S' j) = ((List.range ops.size).filter fun j => !S j).filter fun j => decide (j ≠ i) := by
            rw [List.filter_filter]
            refine List.filter_congr fun j _ => ?_
            by_cases hji : j = i
            · subst hji; simp [hS'i]
            · simp [hS'o j hji, hji]
          rw [hsub]
          have hmem : i ∈ (List.range ops.size).filter fun j => !S j := by simp [hil, hSi]
          have := List.length_filter_lt_length_iff_exists (p := fun j => decide (j ≠ i)) (l := (List.range ops.size).filter fun j => !S j) |>.2 ⟨i, hmem, by simp⟩
          omega
        have hsz' : (listed.setIfInBounds i true).size = ops.size := by simpa using hsz
        have henv : ∀ v, isVal (t i) = true → (∀ e'', putT o (t i) e'' = aput e'' o.dst v) → ∀ s, gget .bad (eAt op t S' e ops.size) s = gget .bad (aput (eAt op t S e ops.size) o.dst v) s := by
          intro v _ hput s
          rw [gget_aput]
          by_cases hds' : o.dst = some s
          · rw [if_pos hds']
            refine eAt_last (i := i) hS'i (by rw [hoi]; exact hds') (fun e'' => by rw [hoi, hput, gget_aput, if_pos hds']) ops.size hil (fun j h1 h2 h3 h4 => ?_)
            rcases hslot i j h1 h2 with h5 | h5
            · have := later j h2 h5
              rw [hS'o j (by omega)] at h3
              rw [this] at h3; cases h3
            · exact (Oper.apart_spec h5).2.1 s (by rw [getD_of ho]; exact hds') h4
          · rw [if_neg hds']
            refine eAt_congr ops.size (fun j hj hdj => hS'o j (fun h => hds' (by rw [h, hoi] at hdj; exact hdj)))
        have hs := (hspec i hil).1
        rw [hoi] at hs
        -- all that is loud agrees with the text's order, at a call or a panic
        have hloudEq : (t i = .pan ∨ ∃ v Hb Ha, t i = .call v Hb Ha) → ∀ j, j < ops.size → j ≠ i → loud (t j) = true → S j = upTo i j := by
          intro hti j hj hji hld
          have noConf : ∀ x y, (x = .pan ∨ ∃ v Hb Ha, x = .call v Hb Ha) → loud y = true → ¬ NoConf x y ∧ ¬ NoConf y x := by
            intro x y hx hy
            rcases hx with rfl | ⟨v, Hb, Ha, rfl⟩
            · cases y with
              | val v us rs => cases us <;> simp [loud] at hy <;> simp [NoConf]
              | call v Hb Ha => simp [NoConf]
              | pan => simp [loud] at hy
              | dead => simp [loud] at hy
            · cases y with
              | val v us rs => cases us <;> simp [loud] at hy <;> simp [NoConf]
              | call v Hb Ha => simp [NoConf]
              | pan => simp [loud] at hy
              | dead => simp [loud] at hy
          rcases Nat.lt_trichotomy j i with h | h | h
          · rw [upTo_lt h]
            cases ha : anc ops j i with
            | true => exact before j ha
            | false => exact absurd (hNC j i h hil ha) (noConf _ _ hti hld).2
          · exact absurd h hji
          · rw [show upTo i j = false by simpa using upTo_ge (i := i) (n := j) (by omega)]
            cases ha : anc ops i j with
            | true => exact later j hj ha
            | false => exact absurd (hNC i j h hj ha) (noConf _ _ hti hld).1
        have hmemEq : (t i = .pan ∨ ∃ v Hb Ha, t i = .call v Hb Ha) → hAt t S H0 ops.size = hAt t full H0 i := by
          intro hti
          rw [← hAt_upTo (t := t) (H := H0) (i := i) ops.size (by omega)]
          refine hAt_eq ops.size (fun j hj hld => ?_)
          by_cases hji : j = i
          · subst hji; rw [hSi]; exact (show upTo j j = false by simpa using upTo_ge (Nat.le_refl j)).symm
          · exact hloudEq hti j hj hji hld
        unfold wpOp
        rw [ho]
        simp only
        have hstepE : ∀ r, astep P (aeval (eAt op t full e i)) (hAt t full H0 i) (base + i) o.op = some r → astep P (aeval (eAt op t S e ops.size)) (hAt t full H0 i) (base + i) o.op = some r := by
          intro r hr'
          rw [← hr']
          exact astep_congr (fun x hx => aeval_congr hlook x hx)
        have hfri := hfr i hil hSi
        cases hti : t i with
        | dead =>
          rw [hti] at hs
          obtain ⟨k, x, hkx, hak⟩ := hs
          exfalso
          have h1 := before k hak
          have h2 := hval k h1
          rw [(hpan k x hkx).2] at h2; cases h2
        | pan =>
          rw [hti] at hs
          obtain ⟨v, Hp, hkx, hwt, hcase⟩ := hs
          rw [aWanted_sound (hwant.trans hwt) hen, if_pos rfl]
          left
          have hm' := hmemEq (.inl hti)
          rcases hcase with ⟨hst, rfl⟩ | ⟨f, args, hst, himp, hc⟩
          · have hst' := hstepE _ hst
            rw [← hm'] at hst'
            refine oper_sound hK (N := base) hst' hp.inv hen hp.top hfri (by omega) (by omega) (by omega) hdo (fun v us rs h => by cases h) (fun f args h => by cases h) ?_
            intro v' hv' u hrel
            simp only [Sr.pan.injEq] at hv'
            subst hv'
            refine hQp i v _ hkx g1 a1 w1 u ?_ hd1 hn1 hrel
            rw [← hm']; exact hp
          · have hst' := hstepE _ hst
            rw [← hm'] at hst' hc
            refine oper_sound hK (N := base) hst' hp.inv hen hp.top hfri (by omega) (by omega) (by omega) hdo (fun v us rs h => by cases h) ?_ (fun v h => by cases h)
            intro f' args' hfa
            simp only [Sr.call.injEq] at hfa
            obtain ⟨rfl, rfl⟩ := hfa
            refine ⟨_, hc, (fun v H' h => by cases h), ?_⟩
            intro v' H' hv' g2 u w2 hp2 hrel
            simp only [CR.pan.injEq] at hv'
            obtain ⟨rfl, rfl⟩ := hv'
            exact hQp i v _ hkx g2 a1 w2 u (hp.trans hp2 (by omega)) hd1 hn1 hrel
        | call v Hb Ha =>
          rw [hti] at hs
          obtain ⟨hwt, _, f, args, hst, himp, hc⟩ := hs
          rw [aWanted_sound (hwant.trans hwt) hen, if_pos rfl]
          left
          have hm' := hmemEq (.inr ⟨v, Hb, Ha, hti⟩)
          have hst' := hstepE _ hst
          rw [← hm'] at hst' hc
          refine oper_sound hK (N := base) hst' hp.inv hen hp.top hfri (by omega) (by omega) (by omega) hdo (fun v us rs h => by cases h) ?_ (fun v h => by cases h)
          intro f' args' hfa
          simp only [Sr.call.injEq] at hfa
          obtain ⟨rfl, rfl⟩ := hfa
          refine ⟨_, hc, ?_, (fun v H' h => by cases h)⟩
          intro v' H' hv' g2 u w2 hp2 hrel
          simp only [CR.ret.injEq] at hv'
          obtain ⟨rfl, rfl⟩ := hv'
          have hmem' : hAt t S' H0 ops.size = Ha := by
            have h1 : hAt t S' H0 ops.size = hAt t (upTo (i + 1)) H0 ops.size := by
              refine hAt_eq ops.size (fun j hj hld => ?_)
              by_cases hji : j = i
              · subst hji; rw [hS'i, upTo_lt (by omega)]
              · rw [hS'o j hji, hloudEq (.inr ⟨v, Hb, Ha, hti⟩) j hj hji hld]
                simp only [upTo]
                exact decide_eq_decide.2 (by omega)
            rw [h1, hAt_upTo ops.size (by omega)]
            simp only [hAt]
            rw [if_pos (full_eq i), hti]
            rfl
          refine ih _ (a1.put o.dst u) w2 S' hsz' hlist' hshut' ?_ hcnt' ⟨g2, ?_, ?_, ?_, ?_⟩ (by rw [size_put]; exact hn1) (hd1.put (by rw [← Array.mem_def]; exact Array.mem_of_getElem? ho) _)
          · intro j hj
            by_cases hji : j = i
            · subst hji; rw [hti]; rfl
            · exact hval j (by rw [← hS'o j hji]; exact hj)
          · rw [hmem']; exact hp.trans hp2 (by omega)
          · intro s
            rw [henv v (by rw [hti]; rfl) (fun e'' => by rw [hti]; rfl) s]
            exact hrel s
          · intro j hj hSj
            have hji : j ≠ i := fun h => by subst h; rw [hS'i] at hSj; cases hSj
            rw [hmem']
            obtain ⟨q1, q2, _, _⟩ := hfr j hj (by rw [← hS'o j hji]; exact hSj)
            have := hp2.new (base + j) (by omega)
            exact hp2.inv.fresh_of (by rw [this.1]; exact q1) (by rw [this.2]; exact q2)
          · rw [hmem']; have := hp2.next; omega
        | val v us rs =>
          rw [hti] at hs
          have hval' : ∀ j, S' j = true → isVal (t j) = true := by
            intro j hj
            by_cases hji : j = i
            · subst hji; rw [hti]; rfl
            · exact hval j (by rw [← hS'o j hji]; exact hj)
          have hnotcall : ∀ j v' Hb Ha, j < ops.size → t j = .call v' Hb Ha → S' j = S j := fun j v' Hb Ha _ hj => hS'o j (fun h => by subst h; rw [hti] at hj; cases hj)
          have hnext' : (hAt t S' H0 ops.size).next = (hAt t S H0 ops.size).next := hAt_next ops.size hnotcall
          -- who touches what operation i touches
          have htouch : ∀ k, (k ∈ rs ∨ ∃ u, u ∈ us ∧ u.key = k) → ∀ j, j < ops.size → j ≠ i →
              (∀ v' us' rs', t j = .val v' us' rs' → (∃ u, u ∈ us' ∧ u.key = k) → S j = upTo i j) ∧ (∀ v' Hb Ha, t j = .call v' Hb Ha → S j = upTo i j ∨ obs Hb k = obs Ha k) := by
            intro k hk j hj hji
            rcases Nat.lt_or_gt_of_ne hji with h | h
            · rw [upTo_lt h]
              cases ha : anc ops j i with
              | true => exact ⟨fun _ _ _ _ _ => before j ha, fun _ _ _ _ => .inl (before j ha)⟩
              | false =>
                have hnc := hNC j i h hil ha
                rw [hti] at hnc
                refine ⟨fun v' us' rs' htj hu => ?_, fun v' Hb Ha htj => ?_⟩
                · exfalso
                  rw [htj] at hnc
                  obtain ⟨u, hu1, hu2⟩ := hu
                  rcases hk with hk | ⟨u', hu1', hu2'⟩
                  · exact (hnc.1 u hu1).2 (by rw [hu2]; exact hk)
                  · exact (hnc.1 u hu1).1 u' hu1' (by rw [hu2, hu2'])
                · rw [htj] at hnc
                  obtain ⟨rfl, hkp⟩ := hnc
                  rcases hk with hk | ⟨u', hu1', _⟩
                  · have := hkp k hk
                    exact .inr (by simp only [obs, this.1, this.2])
                  · cases hu1'
            · rw [show upTo i j = false by simpa using upTo_ge (i := i) (n := j) (by omega)]
              cases ha : anc ops i j with
              | true => exact ⟨fun _ _ _ _ _ => later j hj ha, fun _ _ _ _ => .inl (later j hj ha)⟩
              | false =>
                have hnc := hNC i j h hj ha
                rw [hti] at hnc
                refine ⟨fun v' us' rs' htj hu => ?_, fun v' Hb Ha htj => ?_⟩
                · exfalso
                  rw [htj] at hnc
                  obtain ⟨u, hu1, hu2⟩ := hu
                  rcases hk with hk | ⟨u', hu1', hu2'⟩
                  · exact hnc.2 u hu1 (by rw [hu2]; exact hk)
                  · exact (hnc.1 u' hu1').1 u hu1 (by rw [hu2, hu2'])
                · rw [htj] at hnc
                  obtain ⟨rfl, hkp⟩ := hnc
                  rcases hk with hk | ⟨u', hu1', _⟩
                  · have := hkp k hk
                    exact .inr (by simp only [obs, this.1, this.2])
                  · cases hu1'
          have hupi : upTo i i = false := by simpa using upTo_ge (Nat.le_refl i)
          have hobs : ∀ k, (k ∈ rs ∨ ∃ u, u ∈ us ∧ u.key = k) → obs (hAt t S H0 ops.size) k = obs (hAt t full H0 i) k := by
            intro k hk
            rw [← hAt_upTo (t := t) (H := H0) (i := i) ops.size (by omega)]
            refine hAt_congr ops.size S (upTo i) (hcl S hshut) (hcl _ (hup i (by omega))) hHb ?_ ?_
            · intro j v' us' rs' hj htj hu
              by_cases hji : j = i
              · subst hji; rw [hSi, hupi]
              · exact (htouch k hk j hj hji).1 v' us' rs' htj hu
            · intro j v' Hb Ha hj htj
              by_cases hji : j = i
              · subst hji; rw [hti] at htj; cases htj
              · exact (htouch k hk j hj hji).2 v' Hb Ha htj
          have hobs' : ∀ k, obs (hAt t S' H0 ops.size) k = obs (appU (hAt t S H0 ops.size) us) k := by
            intro k
            by_cases hk : ∃ u, u ∈ us ∧ u.key = k
            · have h1 : obs (hAt t S' H0 ops.size) k = obs (hAt t full H0 (i + 1)) k := by
                rw [← hAt_upTo (t := t) (H := H0) (i := i + 1) ops.size (by omega)]
                refine hAt_congr ops.size S' (upTo (i + 1)) (hcl S' hshut') (hcl _ (hup (i + 1) (by omega))) hHb ?_ ?_
                · intro j v' us' rs' hj htj hu
                  by_cases hji : j = i
                  · subst hji; rw [hS'i, upTo_lt (by omega)]
                  · rw [hS'o j hji, (htouch k (.inr hk) j hj hji).1 v' us' rs' htj hu]
                    simp only [upTo]
                    exact decide_eq_decide.2 (by omega)
                · intro j v' Hb Ha hj htj
                  by_cases hji : j = i
                  · subst hji; rw [hti] at htj; cases htj
                  · rcases (htouch k (.inr hk) j hj hji).2 v' Hb Ha htj with h | h
                    · left
                      rw [hS'o j hji, h]
                      simp only [upTo]
                      exact decide_eq_decide.2 (by omega)
                    · exact .inr h
              rw [h1]
              simp only [hAt]
              rw [if_pos (full_eq i), hti]
              exact obs_appU_congr us _ _ _ (hobs k (.inr hk)).symm
            · rw [obs_appU_other us _ _ (fun u hu h => hk ⟨u, hu, h⟩)]
              refine hAt_congr ops.size S' S (hcl S' hshut') (hcl S hshut) hHb ?_ ?_
              · intro j v' us' rs' hj htj hu
                by_cases hji : j = i
                · subst hji
                  rw [hti] at htj
                  simp only [Tr.val.injEq] at htj
                  obtain ⟨_, rfl, _⟩ := htj
                  exact absurd hu hk
                · exact hS'o j hji
              · intro j v' Hb Ha hj htj
                exact .inl (hnotcall j v' Hb Ha hj htj)
          -- the state behind it
          have next : ∀ g2 u w2, Past base g1 w1 g2 (appU (hAt t S H0 ops.size) us) w2 → (∀ j, j < ops.size → j ≠ i → S j = false → g2.box (base + j) = g1.box (base + j) ∧ g2.own (base + j) = g1.own (base + j)) →
              EnvRel g2 w2 (aput (eAt op t S e ops.size) o.dst v) (a1.put o.dst u).tmps → wpAny P .any ops Q fuel (listed.setIfInBounds i true) (a1.put o.dst u) w2 := by
            intro g2 u w2 hp2 hk hrel
            have hg : ∀ r, (hAt t S' H0 ops.size).get r = (appU (hAt t S H0 ops.size) us).get r := fun r => by have := hobs' r; simp only [obs, Prod.mk.injEq] at this; exact this.1
            have hl : ∀ r, (hAt t S' H0 ops.size).isLive r = (appU (hAt t S H0 ops.size) us).isLive r := fun r => by have := hobs' r; simp only [obs, Prod.mk.injEq] at this; exact this.2
            have hinv := hp2.inv.next hg hl
            have hp3 := hp.trans hp2 (Nat.le_refl _)
            refine ih _ (a1.put o.dst u) w2 S' hsz' hlist' hshut' hval' hcnt' ⟨g2, ⟨hp3.ext, hinv, ?_, hp3.new, ?_⟩, ?_, ?_, ?_⟩ (by rw [size_put]; exact hn1) (hd1.put (by rw [← Array.mem_def]; exact Array.mem_of_getElem? ho) _)
            · have := hp2.top
              rw [appU_next] at this
              rw [hnext']; exact this
            · rw [hnext']; omega
            · intro s
              rw [henv v (by rw [hti]; rfl) (fun e'' => by rw [hti]; rfl) s]
              exact hrel s
            · intro j hj hSj
              have hji : j ≠ i := fun h => by subst h; rw [hS'i] at hSj; cases hSj
              have hSj' : S j = false := by rw [← hS'o j hji]; exact hSj
              obtain ⟨q1, q2, _, _⟩ := hfr j hj hSj'
              have := hk j hj hji hSj'
              exact hinv.fresh_of (by rw [this.1]; exact q1) (by rw [this.2]; exact q2)
            · rw [hnext']; exact hnx
          rcases hs with ⟨hwt, rfl, rfl, rfl⟩ | ⟨hwt, hst | ⟨f, args, H', hst, himp, hc, rfl, rfl⟩⟩
          · rw [aWanted_sound (hwant.trans hwt) hen, if_neg (by simp)]
            exact next g1 undef w1 ⟨Ext.refl _ _, hp.inv, hp.top, New.refl _ _, hp.next⟩ (fun _ _ _ _ => ⟨rfl, rfl⟩) (hen.put hdo (.tup [] #[] rfl (by simp)))
          · rw [aWanted_sound (hwant.trans hwt) hen, if_pos rfl]
            left
            have hst' := astep_heap (H' := hAt t S H0 ops.size) (hstepE _ hst) (fun k hk => hobs k (by
              simp only [Sr.keys, List.mem_append, List.mem_map] at hk
              exact hk))
            refine oper_sound hK (N := base) hst' hp.inv hen hp.top hfri (by omega) (by omega) (by omega) hdo ?_ (fun f args h => by cases h) (fun v h => by cases h)
            intro v' us' rs' hv' g2 u w2 hp2 hk hrel
            simp only [Sr.val.injEq] at hv'
            obtain ⟨rfl, rfl, rfl⟩ := hv'
            exact next g2 u w2 hp2 (fun j hj hji _ => hk (base + j) (by omega)) hrel
          · rw [aWanted_sound (hwant.trans hwt) hen, if_pos rfl]
            left
            have hst' := astep_heap (H' := hAt t S H0 ops.size) (hstepE _ hst) (fun k hk => by simp [Sr.keys] at hk)
            obtain ⟨v1, hv1, hall⟩ := hK.pure f args _ _ himp hc
            simp only [CR.ret.injEq] at hv1
            obtain ⟨rfl, _⟩ := hv1
            refine oper_sound hK (N := base) hst' hp.inv hen hp.top hfri (by omega) (by omega) (by omega) hdo (fun v us rs h => by cases h) ?_ (fun v h => by cases h)
            intro f' args' hfa
            simp only [Sr.call.injEq] at hfa
            obtain ⟨rfl, rfl⟩ := hfa
            refine ⟨_, hall _, ?_, fun v H' h => by cases h⟩
            intro v' H'' hv' g2 u w2 hp2 hrel
            simp only [CR.ret.injEq] at hv'
            obtain ⟨rfl, rfl⟩ := hv'
            exact next g2 u w2 ⟨hp2.ext, hp2.inv, hp2.top, hp2.new.mono (by omega), by have := hp2.next; simp only [appU] at this ⊢; omega⟩
              (fun j hj _ _ => hp2.new (base + j) (by omega)) hrel
  obtain ⟨hdx, hdi⟩ := hi.drew
  have hno : ∀ j, (Array.replicate ops.size false).getD j false = false := fun j => by
    by_cases h : j < ops.size <;> simp [h]
  have hE0 : ∀ m, eAt op t (fun _ => false) e m = e := by intro m; induction m with | zero => rfl | succ m ih => simp [eAt, ih]
  have hH0' : ∀ m, hAt t (fun _ => false) H0 m = H0 := by intro m; induction m with | zero => rfl | succ m ih => simp [hAt, ih]
  refine main ops.size (Array.replicate ops.size false) a _ (fun _ => false) (by simp) (fun j => (hno j).symm) (fun _ _ _ h => by cases h) (fun _ h => by cases h) (Nat.le_trans (List.length_filter_le _ _) (by simp)) ⟨g, ?_, ?_, ?_, ?_⟩ hn (KeptL.refl _ _)
  · rw [hH0', ← hH0]
    exact ⟨hdx, hdi.next (fun _ => rfl) (fun _ => rfl), htop.mono (by simp), New.refl _ _, by simp⟩
  · rw [hE0]; exact he.ext hdx
  · intro j hj _
    rw [hH0', ← hH0]
    have := htop (base + j) (by omega)
    exact (hdi.next (H' := { H with next := base + ops.size }) (fun _ => rfl) (fun _ => rfl)).fresh_of this.1 this.2
  · rw [hH0', ← hH0]; simp
end Go.Proofs.YtghhkbigmmjanaaGreatDoor.VA

/-! Vb7 -/
namespace Go.Proofs.YtghhkbigmmjanaaGreatDoor.VA
open Go Go.RowKit
set_option linter.unusedSimpArgs false

/-- Is a function's code such that the interpreter may go over it? -/
def codeOk (n : Nat) : Code → Bool
  | .region _ ops d => ops.toList.all (dstOk n) && (!d || drawOk ops)
  | .seq a b => codeOk n a && codeOk n b
  | .cond _ a b => codeOk n a && codeOk n b
  | .block _ a => codeOk n a
  | .loop a => codeOk n a
  | .scope a => codeOk n a
  | _ => true
/-- Does a piece of code write a slot? -/
def noW (s : Nat) : Code → Bool
  | .region _ ops _ => ops.toList.all fun o => o.dst != some s
  | .seq a b | .cond _ a b => noW s a && noW s b
  | .block _ a | .loop a | .scope a => noW s a
  | _ => true
def Kept (c : Code) (a a' : Act) : Prop := a'.defers = a.defers ∧ ∀ s, noW s c = true → a'.tmps.getD s undef = a.tmps.getD s undef
theorem Kept.refl (c : Code) (a : Act) : Kept c a a := ⟨rfl, fun _ _ => rfl⟩
theorem Kept.left {x y : Code} {a a' : Act} (h : Kept x a a') : Kept (.seq x y) a a' := ⟨h.1, fun s hs => h.2 s (by simp only [noW, Bool.and_eq_true] at hs; exact hs.1)⟩
theorem Kept.seq {x y : Code} {a a1 a2 : Act} (h : Kept x a a1) (k : Kept y a1 a2) : Kept (.seq x y) a a2 :=
  ⟨k.1.trans h.1, fun s hs => by simp only [noW, Bool.and_eq_true] at hs; exact (k.2 s hs.2).trans (h.2 s hs.1)⟩
theorem Kept.condL {t : Operand} {x y : Code} {a a' : Act} (h : Kept x a a') : Kept (.cond t x y) a a' := ⟨h.1, fun s hs => h.2 s (by simp only [noW, Bool.and_eq_true] at hs; exact hs.1)⟩
theorem Kept.condR {t : Operand} {x y : Code} {a a' : Act} (h : Kept y a a') : Kept (.cond t x y) a a' := ⟨h.1, fun s hs => h.2 s (by simp only [noW, Bool.and_eq_true] at hs; exact hs.2)⟩
theorem Kept.block {id : Nat} {x : Code} {a a' : Act} (h : Kept x a a') : Kept (.block id x) a a' := ⟨h.1, fun s hs => h.2 s (by simpa only [noW] using hs)⟩
theorem Kept.scope {x : Code} {a a' : Act} (h : Kept x a a') : Kept (.scope x) a a' := ⟨h.1, fun s hs => h.2 s (by simpa only [noW] using hs)⟩
theorem Kept.one {x : Code} {a a' : Act} (h : Kept x a a') : Kept (.loop x) a a' := ⟨h.1, fun s hs => h.2 s (by simpa only [noW] using hs)⟩
theorem Kept.round {x : Code} {a a1 a2 : Act} (h : Kept x a a1) (k : Kept (.loop x) a1 a2) : Kept (.loop x) a a2 :=
  ⟨k.1.trans h.1, fun s hs => (k.2 s hs).trans (h.2 s (by simpa only [noW] using hs))⟩
theorem KeptL.region {id : Nat} {ops : Array Oper} {d : Bool} {a a' : Act} (h : KeptL ops.toList a a') : Kept (.region id ops d) a a' := ⟨h.1, fun s hs => h.2 s (by simpa only [noW] using hs)⟩
theorem exec_sound {P : Program} {K : Calling} {imp : FuncId → Bool} (hK : KOk P K imp) (hm : P.follows .mixedOrders = true) {n : Nat} : ∀ (k : Nat) (c : Code) (e : List AV) (H : Heap) (ex : Ex) (e' : List AV) (H' : Heap),
    exec P K imp k c e H = some (ex, e', H') → codeOk n c = true → ∀ (g : Gh) (a : Act) (w : World), Inv g H w → EnvRel g w e a.tmps → a.tmps.size = n → Top g H.next → ∀ Q : Exit → Act → World → Prop,
    (∀ g' x a' w', Past H.next g w g' H' w' → Kept c a a' → a'.tmps.size = n → ExRel g' w' x a' ex e' → Q x a' w') →
    c.wp P Q a w ∧ ∀ body, c = .loop body → Code.rounds P body Q k a w := by
  intro k
  induction k with
  | zero => intro c e H ex e' H' h; simp [exec] at h
  | succ k ih =>
    intro c e H ex e' H' h hc g a w hi he hn ht Q hQ
    have hrefl : Past H.next g w g H w := ⟨Ext.refl g w, hi, ht, New.refl _ _, Nat.le_refl _⟩
    cases c with
    | skip =>
      simp only [exec, Option.some.injEq, Prod.mk.injEq] at h
      obtain ⟨rfl, rfl, rfl⟩ := h
      exact ⟨wp_skip (hQ g _ a w hrefl (Kept.refl _ _) hn ⟨rfl, he⟩), fun b hb => by cases hb⟩
    | label l =>
      simp only [exec, Option.some.injEq, Prod.mk.injEq] at h
      obtain ⟨rfl, rfl, rfl⟩ := h
      exact ⟨wp_label (hQ g _ a w hrefl (Kept.refl _ _) hn ⟨rfl, he⟩), fun b hb => by cases hb⟩
    | exit id =>
      simp only [exec, Option.some.injEq, Prod.mk.injEq] at h
      obtain ⟨rfl, rfl, rfl⟩ := h
      exact ⟨wp_exit (hQ g _ a w hrefl (Kept.refl _ _) hn ⟨rfl, he⟩), fun b hb => by cases hb⟩
    | ret =>
      simp only [exec, Option.some.injEq, Prod.mk.injEq] at h
      obtain ⟨rfl, rfl, rfl⟩ := h
      exact ⟨wp_ret (hQ g _ a w hrefl (Kept.refl _ _) hn ⟨rfl, he⟩), fun b hb => by cases hb⟩
    | goto l => simp [exec] at h
    | refuse why => simp [exec] at h
    | rangeFunc f ps as b => simp [exec] at h
    | region id ops d =>
      refine ⟨?_, fun b hb => by cases hb⟩
      simp only [exec] at h
      simp only [codeOk, Bool.and_eq_true, Bool.or_eq_true, Bool.not_eq_true'] at hc
      have hds : ∀ o, o ∈ ops.toList → dstOk n o = true := List.all_eq_true.1 hc.1
      cases d with
      | false =>
        simp only [runRegion] at h
        refine wp_region ?_
        have := runOps_sound hK (base := H.next) (n := n) ops.toList 0 e { H with next := H.next + ops.size } ex e' H' h (by simp) hds g a w (hi.next (fun _ => rfl) (fun _ => rfl)) he hn (ht.mono (by simp)) ?_ (by simp) Q ?_
        · rw [Array.length_toList] at this
          rw [List.range_eq_range']
          exact this
        · intro j h1 h2
          have := ht (H.next + j) (by omega)
          exact (hi.next (H' := { H with next := H.next + ops.size }) (fun _ => rfl) (fun _ => rfl)).fresh_of this.1 this.2
        · intro g' x a' w' hp hd hs hx
          exact hQ g' x a' w' hp hd.region hs hx
      | true =>
        simp only [runRegion] at h
        split at h
        · cases h
        · rename_i tr pk e1 H1 hrun
          split at h
          · rename_i hok
            have hdo : drawOk ops = true := by simpa using hc.2
            refine draw_sound hK hm hdo hds hrun hok hi he hn ht Q ?_ ?_
            · intro hpk g' a' w' hp hd hs hen
              subst hpk
              simp only [Option.some.injEq, Prod.mk.injEq] at h
              obtain ⟨rfl, rfl, rfl⟩ := h
              exact hQ g' _ a' w' hp hd.region hs ⟨rfl, hen⟩
            · intro kk v Hp hpk g' a' w' u hp hd hs hrel
              subst hpk
              simp only [Option.some.injEq, Prod.mk.injEq] at h
              obtain ⟨rfl, rfl, rfl⟩ := h
              exact hQ g' _ a' w' hp hd.region hs ⟨u, rfl, hrel⟩
          · cases h
    | seq x y =>
      refine ⟨?_, fun b hb => by cases hb⟩
      simp only [codeOk, Bool.and_eq_true] at hc
      simp only [exec] at h
      refine wp_seq ?_
      cases hx : exec P K imp k x e H with
      | none => rw [hx] at h; cases h
      | some r =>
        obtain ⟨ex1, e1, H1⟩ := r
        rw [hx] at h
        refine (ih x e H ex1 e1 H1 hx hc.1 g a w hi he hn ht _ ?_).1
        intro g' x' a' w' hp hd hs hr
        cases ex1 with
        | nrm =>
          obtain ⟨rfl, hen⟩ := hr
          simp only at h
          exact (ih y e1 H1 ex e' H' h hc.2 g' a' w' hp.inv hen hs hp.top Q (fun g2 x2 a2 w2 hp2 hd2 hs2 hr2 => hQ g2 x2 a2 w2 (hp.trans hp2 hp.next) (hd.seq hd2) hs2 hr2)).1
        | exit id =>
          simp only [Option.some.injEq, Prod.mk.injEq] at h
          obtain ⟨rfl, rfl, rfl⟩ := h
          obtain ⟨rfl, hen⟩ := hr
          exact hQ g' _ a' w' hp hd.left hs ⟨rfl, hen⟩
        | ret =>
          simp only [Option.some.injEq, Prod.mk.injEq] at h
          obtain ⟨rfl, rfl, rfl⟩ := h
          obtain ⟨rfl, hen⟩ := hr
          exact hQ g' _ a' w' hp hd.left hs ⟨rfl, hen⟩
        | pan v =>
          simp only [Option.some.injEq, Prod.mk.injEq] at h
          obtain ⟨rfl, rfl, rfl⟩ := h
          obtain ⟨u, rfl, hen⟩ := hr
          exact hQ g' _ a' w' hp hd.left hs ⟨u, rfl, hen⟩
    | cond cc x y =>
      refine ⟨?_, fun b hb => by cases hb⟩
      simp only [codeOk, Bool.and_eq_true] at hc
      simp only [exec] at h
      have hr := he.eval cc
      split at h
      · rename_i hb
        rw [hb] at hr
        exact wp_cond_true hr.lit_inv (ih x e H ex e' H' h hc.1 g a w hi he hn ht Q (fun g2 x2 a2 w2 hp2 hd2 hs2 hr2 => hQ g2 x2 a2 w2 hp2 hd2.condL hs2 hr2)).1
      · rename_i hb
        rw [hb] at hr
        exact wp_cond_false hr.lit_inv (ih y e H ex e' H' h hc.2 g a w hi he hn ht Q (fun g2 x2 a2 w2 hp2 hd2 hs2 hr2 => hQ g2 x2 a2 w2 hp2 hd2.condR hs2 hr2)).1
      · cases h
    | block id x =>
      refine ⟨?_, fun b hb => by cases hb⟩
      simp only [codeOk] at hc
      simp only [exec] at h
      refine wp_block ?_
      cases hx : exec P K imp k x e H with
      | none => rw [hx] at h; cases h
      | some r =>
        obtain ⟨ex1, e1, H1⟩ := r
        rw [hx] at h
        refine (ih x e H ex1 e1 H1 hx hc g a w hi he hn ht _ ?_).1
        intro g' x' a' w' hp hd hs hr
        cases ex1 with
        | nrm =>
          simp only [Option.some.injEq, Prod.mk.injEq] at h
          obtain ⟨rfl, rfl, rfl⟩ := h
          obtain ⟨rfl, hen⟩ := hr
          exact hQ g' _ a' w' hp hd.block hs ⟨rfl, hen⟩
        | exit j =>
          obtain ⟨rfl, hen⟩ := hr
          simp only at h
          simp only [Exit.inBlock]
          split at h
          · rename_i hj
            simp only [Option.some.injEq, Prod.mk.injEq] at h
            obtain ⟨rfl, rfl, rfl⟩ := h
            rw [if_pos hj]
            exact hQ g' _ a' w' hp hd.block hs ⟨rfl, hen⟩
          · rename_i hj
            simp only [Option.some.injEq, Prod.mk.injEq] at h
            obtain ⟨rfl, rfl, rfl⟩ := h
            rw [if_neg hj]
            exact hQ g' _ a' w' hp hd.block hs ⟨rfl, hen⟩
        | ret =>
          simp only [Option.some.injEq, Prod.mk.injEq] at h
          obtain ⟨rfl, rfl, rfl⟩ := h
          obtain ⟨rfl, hen⟩ := hr
          exact hQ g' _ a' w' hp hd.block hs ⟨rfl, hen⟩
        | pan v =>
          simp only [Option.some.injEq, Prod.mk.injEq] at h
          obtain ⟨rfl, rfl, rfl⟩ := h
          obtain ⟨u, rfl, hen⟩ := hr
          exact hQ g' _ a' w' hp hd.block hs ⟨u, rfl, hen⟩
    | loop x =>
      simp only [codeOk] at hc
      simp only [exec] at h
      have hrounds : Code.rounds P x Q (k + 1) a w := by
        rw [rounds_succ]
        cases hx : exec P K imp k x e H with
        | none => rw [hx] at h; cases h
        | some r =>
          obtain ⟨ex1, e1, H1⟩ := r
          rw [hx] at h
          refine (ih x e H ex1 e1 H1 hx hc g a w hi he hn ht _ ?_).1
          intro g' x' a' w' hp hd hs hr
          cases ex1 with
          | nrm =>
            obtain ⟨rfl, hen⟩ := hr
            simp only at h
            exact (ih (.loop x) e1 H1 ex e' H' h (by simpa [codeOk] using hc) g' a' w' hp.inv hen hs hp.top Q
              (fun g2 x2 a2 w2 hp2 hd2 hs2 hr2 => hQ g2 x2 a2 w2 (hp.trans hp2 hp.next) (hd.round hd2) hs2 hr2)).2 x rfl
          | exit id =>
            simp only [Option.some.injEq, Prod.mk.injEq] at h
            obtain ⟨rfl, rfl, rfl⟩ := h
            obtain ⟨rfl, hen⟩ := hr
            exact hQ g' _ a' w' hp hd.one hs ⟨rfl, hen⟩
          | ret =>
            simp only [Option.some.injEq, Prod.mk.injEq] at h
            obtain ⟨rfl, rfl, rfl⟩ := h
            obtain ⟨rfl, hen⟩ := hr
            exact hQ g' _ a' w' hp hd.one hs ⟨rfl, hen⟩
          | pan v =>
            simp only [Option.some.injEq, Prod.mk.injEq] at h
            obtain ⟨rfl, rfl, rfl⟩ := h
            obtain ⟨u, rfl, hen⟩ := hr
            exact hQ g' _ a' w' hp hd.one hs ⟨u, rfl, hen⟩
      refine ⟨wp_loop_rounds (k + 1) hrounds, fun b hb => ?_⟩
      simp only [Code.loop.injEq] at hb
      subst hb
      exact hrounds
    | scope x =>
      refine ⟨?_, fun b hb => by cases hb⟩
      simp only [codeOk] at hc
      simp only [exec] at h
      refine wp_scope_straight (ih x e H ex e' H' h hc g a w hi he hn ht _ ?_).1
      intro g' x' a' w' hp hd hs hr
      have hq := hQ g' x' a' w' hp hd.scope hs hr
      cases ex with
      | nrm => obtain ⟨rfl, hen⟩ := hr; exact hq
      | exit id => obtain ⟨rfl, hen⟩ := hr; exact hq
      | ret => obtain ⟨rfl, hen⟩ := hr; exact hq
      | pan v => obtain ⟨u, rfl, hen⟩ := hr; exact hq

/-! ### results -/
def resF (tmps : Array Value) : ResultVar → Sem Value
  | .tmp t => pure (tmps.getD t undef)
  | .cell a t => do loadVar t (← asAddr (tmps.getD a undef))
theorem results_eq (fn : Func) (tmps : Array Value) : results fn tmps = (do
    let vs ← fn.results.mapM (resF tmps)
    pure (if h : vs.size = 1 then vs[0] else .tuple vs)) := rfl
theorem aResult_sound {P : Program} {g : Gh} {H : Heap} {w : World} {e : List AV} {tmps : Array Value} {r : ResultVar} {v : AV} (h : aResult P e H r = some v) (hi : Inv g H w) (he : EnvRel g w e tmps) :
    ∃ u, (resF tmps r).run P w = .ok u w ∧ Rel g w v u := by
  cases r with
  | tmp t =>
    simp only [aResult, Option.some.injEq] at h
    subst h
    exact ⟨_, rfl, he t⟩
  | cell a t =>
    simp only [aResult] at h
    cases hl : aLoad P t (gget .bad e a) H with
    | none => simp [hl] at h
    | some p =>
      obtain ⟨z, rs⟩ := p
      simp [hl] at h
      subst h
      obtain ⟨u, h1, h2⟩ := aLoad_sound hl hi (he a)
      refine ⟨u, ?_, h2⟩
      have hr := he a
      simp only [Instr.loadAt] at h1
      have : ∃ ad, tmps.getD a undef = .pointer (some ad) := by
        generalize tmps.getD a undef = v at hr
        generalize gget .bad e a = x at hr hl
        cases hr with
        | ptr r off b hb => exact ⟨_, rfl⟩
        | ep cs b off f hv hc hrr => exact ⟨_, rfl⟩
        | _ => unfold aLoad at hl; split at hl <;> simp at hl
      obtain ⟨ad, hv⟩ := this
      simp only [resF]
      rw [hv] at h1 ⊢
      simpa [asAddr, Instr.sureAddr] using h1
theorem aResults_sound {P : Program} {g : Gh} {H : Heap} {w : World} {e : List AV} {tmps : Array Value} (hi : Inv g H w) (he : EnvRel g w e tmps) : ∀ (l : List ResultVar) (vs : List AV), aResults P e H l = some vs →
    ∃ us, (l.mapM (resF tmps)).run P w = .ok us w ∧ RelL g w vs us
  | [], vs, h => by simp [aResults] at h; subst h; exact ⟨[], rfl, RelL.nil g w⟩
  | r :: l, vs, h => by
    simp only [aResults] at h
    split at h
    · rename_i v vs' h1 h2
      simp only [Option.some.injEq] at h
      subst h
      obtain ⟨u, q1, q2⟩ := aResult_sound h1 hi he
      obtain ⟨us, q3, q4⟩ := aResults_sound hi he l vs' h2
      refine ⟨u :: us, ?_, RelL.cons q2 q4⟩
      simp only [List.mapM_cons, Sem.run_bind, q1, Result.andThen_ok, q3, Sem.run_pure]
    · cases h
theorem results_sound {P : Program} {g : Gh} {H : Heap} {w : World} {e : List AV} {tmps : Array Value} {fn : Func} {vs : List AV} (h : aResults P e H fn.results.toList = some vs) (hi : Inv g H w) (he : EnvRel g w e tmps) :
    ∃ u, (results fn tmps).run P w = .ok u w ∧ Rel g w (oneOr vs) u := by
  obtain ⟨us, h1, h2⟩ := aResults_sound hi he _ _ h
  rw [results_eq]
  simp only [Sem.run_bind, Array.mapM_eq_mapM_toList, Sem.run_map, h1, Result.andThen_ok, Sem.run_pure]
  refine ⟨_, rfl, ?_⟩
  cases vs with
  | nil =>
    cases us with
    | nil => exact .tup [] _ rfl (by simp)
    | cons u us => exact absurd h2.1 (by simp)
  | cons v vs =>
    cases us with
    | nil => exact absurd h2.1 (by simp)
    | cons u us =>
      cases vs with
      | nil =>
        cases us with
        | nil => simpa [oneOr] using h2.head
        | cons u' us => exact absurd h2.1 (by simp)
      | cons v' vs =>
        cases us with
        | nil => exact absurd h2.1 (by simp)
        | cons u' us =>
          simp only [oneOr]
          rw [dif_neg (by simp)]
          exact Rel.mk_tup (by simpa using h2)
end Go.Proofs.YtghhkbigmmjanaaGreatDoor.VA

/-! Vb8 -/
namespace Go.Proofs.YtghhkbigmmjanaaGreatDoor.VA
open Go Go.RowKit
set_option linter.unusedSimpArgs false

/-- What is asked of a function that is told outright. -/
def ToldOk (P : Program) (f : FuncId) (h : List AV → Option AV) : Prop :=
  (∀ vs w, (callFunc f vs).run P w = .ok (.enter f vs) w) ∧
  ∀ args v, h args = some v → ∀ g H w (vs : Array Value), Inv g H w → RelL g w args vs.toList →
    Calls P f vs w fun en w' => ∃ u g', en = .returned u ∧ Ext g w g' w' ∧ Inv g' H w' ∧ g'.box = g.box ∧ g'.own = g.own ∧ Rel g' w' v u
structure CfgOk (P : Program) (c : Cfg) : Prop where
  mixed : P.follows .mixedOrders = true
  fn : ∀ f fn, c.fn f = some fn → P.funcs[f]? = some fn ∧ (fn.name == "runtime.NumGoroutine") = false ∧ ∀ code, fn.body = some code → codeOk fn.ntmps code = true
  told : ∀ f h, c.told f = some h → ToldOk P f h
theorem callFunc_enter {P : Program} {f : FuncId} {fn : Func} {code : Code} (hf : P.funcs[f]? = some fn) (hn : (fn.name == "runtime.NumGoroutine") = false) (hb : fn.body = some code) (vs : Array Value) (w : World) :
    (callFunc f vs).run P w = .ok (.enter f vs) w := by
  have hn' : ¬ fn.name = "runtime.NumGoroutine" := by simpa using hn
  simp [callFunc, hf, hn', hb]
theorem env_init {g : Gh} {w : World} {args : List AV} {vs : Array Value} (h : RelL g w args vs.toList) (m : Nat) : EnvRel g w args (vs ++ Array.replicate m undef) := by
  have hget : ∀ (l : List AV) (i : Nat), gget .bad l i = (l[i]?).getD .bad := by
    intro l
    induction l with
    | nil => intro i; simp [gget]
    | cons x l ih => intro i; cases i with | zero => rfl | succ i => simpa [gget] using ih i
  intro i
  rw [hget]
  by_cases hi : i < args.length
  · have hlen : args.length = vs.size := by simpa using h.1
    have hx : args[i]? = some args[i] := by simp [hi]
    rw [hx]
    refine h.2 i _ _ hx ?_
    simp only [Array.getD_eq_getD_getElem?]
    rw [Array.getElem?_append_left (by omega)]
    simp [show i < vs.size by omega]
  · rw [List.getElem?_eq_none (by omega)]
    exact .bad _
theorem runFn_sound {P : Program} {K : Calling} {imp : FuncId → Bool} (hK : KOk P K imp) (hm : P.follows .mixedOrders = true) {f : FuncId} {fn : Func} (hf : P.funcs[f]? = some fn) (hc : ∀ code, fn.body = some code → codeOk fn.ntmps code = true)
    {k : Nat} {args : List AV} {H : Heap} {r : CR} (h : runFn P K imp k fn args H = some r) {g : Gh} {w : World} {vs : Array Value} (hi : Inv g H w) (ht : Top g H.next) (hr : RelL g w args vs.toList) :
    (∃ code, fn.body = some code) ∧ Calls P f vs w (CPost g H.next w r) := by
  unfold runFn at h
  split at h
  · cases h
  · rename_i code hb
    refine ⟨⟨code, hb⟩, ?_⟩
    split at h
    · rename_i hlen
      have hsz : (vs ++ Array.replicate (fn.ntmps - vs.size) undef).size = fn.ntmps := by
        have := hr.1
        simp at this
        simp
        omega
      refine calls_of_wp hf hb ?_
      cases hx : exec P K imp k code args H with
      | none => rw [hx] at h; cases h
      | some res =>
        obtain ⟨ex, e, H'⟩ := res
        rw [hx] at h
        refine (exec_sound hK hm k code args H ex e H' hx (hc code hb) g { tmps := vs ++ Array.replicate (fn.ntmps - vs.size) undef, defers := [] } w hi (env_init hr _) hsz ht _ ?_).1
        intro g' x a' w' hp hd hs hrel
        have fin : ∀ vs', aResults P e H' fn.results.toList = some vs' → EnvRel g' w' e a'.tmps → r = .ret (san (oneOr vs')) H' →
            a'.defers = [] ∧ ∃ v, (results fn a'.tmps).run P w' = .ok v w' ∧ CPost g H.next w r (.returned v) w' := by
          intro vs' h1 h2 h3
          obtain ⟨u, q1, q2⟩ := results_sound h1 hp.inv h2
          refine ⟨hd.1, u, q1, ?_⟩
          subst h3
          exact ⟨u, g', rfl, hp, q2.san (fun _ => Nat.le_refl _)⟩
        cases ex with
        | nrm =>
          simp only at h
          split at h
          · rename_i vs' hv
            simp only [Option.some.injEq] at h
            obtain ⟨rfl, hen⟩ := hrel
            exact fin vs' hv hen h.symm
          · cases h
        | ret =>
          simp only at h
          split at h
          · rename_i vs' hv
            simp only [Option.some.injEq] at h
            obtain ⟨rfl, hen⟩ := hrel
            exact fin vs' hv hen h.symm
          · cases h
        | exit id => cases h
        | pan v =>
          simp only [Option.some.injEq] at h
          subst h
          obtain ⟨u, rfl, hu⟩ := hrel
          exact ⟨hd.1, u, g', rfl, hp, hu.san (fun _ => Nat.le_refl _)⟩
    · cases h
/-- A call without the caller's own memory, seen by the caller. -/
theorem pure_back {g g' : Gh} {H H' : Heap} {w w' : World} (hi : Inv g H w) (ht : Top g H.next) (hp : Past 0 { lo := w.heap.size, vis := g.vis, box := fun _ => none, own := fun _ => none } w g' H' w') :
    Past H.next g w { g with vis := g'.vis } H w' := by
  have hx := hp.ext
  have hsame : ∀ b, b < w.heap.size → w'.heap[b]? = w.heap[b]? := hx.low
  have hvis : ∀ b, b < w.heap.size → g'.vis b = g.vis b := hx.lowv
  have he : Ext g w { g with vis := g'.vis } w' :=
    ⟨rfl, hx.os, hx.tape, hx.output, hx.size, fun b hb => hsame b (Nat.lt_of_lt_of_le hb hi.lo), fun b hb => hvis b (Nat.lt_of_lt_of_le hb hi.lo), hx.vis, hx.cell, fun _ _ h => h, fun _ _ h => h⟩
  refine ⟨he, ⟨Nat.le_trans hi.lo hx.size, hp.inv.fresh, ?_, hi.boxI, ?_, ?_, hi.liveI⟩, ht, fun _ _ => ⟨rfl, rfl⟩, Nat.le_refl _⟩
  · intro r b hb
    obtain ⟨h1, h2, h3⟩ := hi.boxB r b hb
    exact ⟨h1, Nat.lt_of_lt_of_le h2 hx.size, by rw [← h3]; exact hvis b h2⟩
  · intro r cs hr
    obtain ⟨b, vs, t, h1, h2, h3⟩ := hi.box r cs hr
    exact ⟨b, vs, t, h1, by rw [hsame b (hi.boxB r b h1).2.1]; exact h2, h3.ext he⟩
  · intro s hs
    obtain ⟨b, n, cap, e, sz, vs, h1, h2, h3, h4, h5, h6, h7, h8⟩ := hi.live s hs
    have hlt : b < w.heap.size := (Array.getElem?_eq_some_iff.1 h3).1
    exact ⟨b, n, cap, e, sz, vs, h1, h2, by rw [hsame b hlt]; exact h3, h4, h5, h6, by rw [← h7]; exact hvis b hlt, h8⟩
theorem inv_empty {g : Gh} {H : Heap} {w : World} (hi : Inv g H w) : Inv { lo := w.heap.size, vis := g.vis, box := fun _ => none, own := fun _ => none } Heap.empty w :=
  ⟨Nat.le_refl _, hi.fresh, (fun _ _ h => by cases h), (fun _ _ _ h => by cases h), (fun _ _ h => by simp at h), (fun _ h => by simp at h), (fun _ _ _ _ _ h => by simp at h)⟩
mutual
theorem san_san : ∀ (x : AV), san (san x) = san x
  | .bad => rfl
  | .lit v => rfl
  | .sl o es => by simp only [san, sanLL_san es]
  | .ptr r o => rfl
  | .ep cs => by simp only [san, sanL_san cs]
  | .fn f cs => by simp only [san, sanL_san cs]
  | .ifc t v => by simp only [san, san_san v]
  | .mp r => rfl
  | .agg cs => by simp only [san, sanL_san cs]
  | .tup cs => by simp only [san, sanL_san cs]
theorem sanL_san : ∀ (l : List AV), sanL (sanL l) = sanL l
  | [] => rfl
  | x :: l => by simp only [sanL, san_san x, sanL_san l]
theorem sanLL_san : ∀ (l : List (List AV)), sanLL (sanLL l) = sanLL l
  | [] => rfl
  | x :: l => by simp only [sanLL, sanL_san x, sanLL_san l]
end
theorem runFn_san {P : Program} {K : Calling} {imp : FuncId → Bool} {k : Nat} {fn : Func} {args : List AV} {H H' : Heap} {v : AV} (h : runFn P K imp k fn args H = some (.ret v H')) : san v = v := by
  unfold runFn at h
  split at h
  · cases h
  · split at h
    · split at h
      · cases h
      · cases h
      · split at h
        · simp only [Option.some.injEq, CR.ret.injEq] at h
          rw [← h.1, san_san]
        · cases h
      · cases h
    · cases h
theorem call_ok {P : Program} {c : Cfg} (hc : CfgOk P c) : ∀ k, KOk P (call P c k) c.imp := by
  intro k
  induction k with
  | zero => exact ⟨fun f args H r h => by simp [call] at h, fun f args H r _ h => by simp [call] at h⟩
  | succ k ih =>
    constructor
    · intro f args H r h g w vs hi ht hr
      simp only [call] at h
      split at h
      · rename_i ht' htold
        split at h
        · rename_i v hv
          simp only [Option.some.injEq] at h
          subst h
          obtain ⟨h1, h2⟩ := hc.told f ht' htold
          refine ⟨h1 vs w, (h2 _ v hv g H w vs hi (hr.san (fun _ => Nat.le_refl _))).mono fun en w' hpost => ?_⟩
          obtain ⟨u, g', rfl, q1, q2, q3, q4, q5⟩ := hpost
          exact ⟨u, g', rfl, ⟨q1, q2, fun r hr => by rw [q3, q4]; exact ht r hr, fun r _ => by rw [q3, q4]; exact ⟨rfl, rfl⟩, Nat.le_refl _⟩, q5⟩
        · cases h
      · split at h
        · cases h
        · rename_i fn hfn
          obtain ⟨hf, hname, hcode⟩ := hc.fn f fn hfn
          split at h
          · obtain ⟨⟨code, hb⟩, q⟩ := runFn_sound ih hc.mixed hf hcode h hi ht hr
            exact ⟨callFunc_enter hf hname hb vs w, q⟩
          · split at h
            · rename_i v H' hrun
              simp only [Option.some.injEq] at h
              subst h
              obtain ⟨⟨code, hb⟩, q⟩ := runFn_sound ih hc.mixed hf hcode hrun (inv_empty hi) (fun _ _ => ⟨rfl, rfl⟩) (hr.san (g' := { lo := w.heap.size, vis := g.vis, box := fun _ => none, own := fun _ => none }) (fun _ => Nat.le_refl _))
              refine ⟨callFunc_enter hf hname hb vs w, q.mono fun en w' hpost => ?_⟩
              obtain ⟨u, g', rfl, hp, hrel⟩ := hpost
              refine ⟨u, _, rfl, pure_back hi ht hp, ?_⟩
              rw [← runFn_san hrun]
              exact hrel.san (fun _ => Nat.le_refl _)
            · cases h
    · intro f args H r himp h
      simp only [call] at h ⊢
      split at h
      · rename_i ht' htold
        split at h
        · rename_i v hv
          simp only [Option.some.injEq] at h
          subst h
          exact ⟨v, rfl, fun H2 => by simp [htold, hv]⟩
        · cases h
      · rename_i htold
        split at h
        · cases h
        · rename_i fn hfn
          simp only [himp] at h ⊢
          split at h
          · rename_i v H' hrun
            simp only [Option.some.injEq] at h
            subst h
            exact ⟨v, rfl, fun H2 => by simp [htold, hfn, hrun]⟩
          · cases h
end Go.Proofs.YtghhkbigmmjanaaGreatDoor.VA

/-! Vb9 -/
namespace Go.Proofs.YtghhkbigmmjanaaGreatDoor.VA
open Go Go.RowKit
set_option linter.unusedSimpArgs false

def KLe (K K' : Calling) : Prop := ∀ f args H r, K f args H = some r → K' f args H = some r
theorem runOps_mono {P : Program} {K K' : Calling} (hK : KLe K K') {ops : Array Oper} {base : Nat} : ∀ (os : List Oper) (i : Nat) (e : List AV) (H : Heap) (r : Ex × List AV × Heap),
    runOps P K ops base os i e H = some r → runOps P K' ops base os i e H = some r := by
  intro os
  induction os with
  | nil => intro i e H r h; exact h
  | cons o os ih =>
    intro i e H r h
    simp only [runOps] at h ⊢
    split at h
    · cases h
    · exact ih _ _ _ _ h
    · split at h
      · cases h
      · exact ih _ _ _ _ h
      · exact h
      · rename_i f args hst
        cases hc : K f args H with
        | none => rw [hc] at h; cases h
        | some c =>
          rw [hc] at h
          rw [hK _ _ _ _ hc]
          cases c with
          | ret v H' => exact ih _ _ _ _ h
          | pan v H' => exact h
theorem runTr_mono {P : Program} {K K' : Calling} (hK : KLe K K') {imp : FuncId → Bool} {ops : Array Oper} {base : Nat} : ∀ (os : List Oper) (i : Nat) (pk : Option (Nat × AV × Heap)) (e : List AV) (H : Heap) (r : List Tr × Option (Nat × AV × Heap) × List AV × Heap),
    runTr P K imp ops base os i pk e H = some r → runTr P K' imp ops base os i pk e H = some r := by
  intro os
  induction os with
  | nil => intro i pk e H r h; exact h
  | cons o os ih =>
    intro i pk e H r h
    have next : ∀ {i : Nat} {pk : Option (Nat × AV × Heap)} {e : List AV} {H : Heap} {t0 : Tr} {r : List Tr × Option (Nat × AV × Heap) × List AV × Heap},
        (match runTr P K imp ops base os i pk e H with | some (tr, r) => some (t0 :: tr, r) | none => none) = some r →
        (match runTr P K' imp ops base os i pk e H with | some (tr, r) => some (t0 :: tr, r) | none => none) = some r := by
      intro i pk e H t0 r h
      cases hr : runTr P K imp ops base os i pk e H with
      | none => rw [hr] at h; cases h
      | some x => rw [ih _ _ _ _ _ hr]; rw [hr] at h; exact h
    simp only [runTr] at h ⊢
    by_cases hb : behind ops pk i = true
    · rw [if_pos hb] at h ⊢
      exact next h
    · rw [if_neg hb] at h ⊢
      split at h
      · cases h
      · exact next h
      · split at h
        · cases h
        · split at h
          · cases h
          · rename_i hcc
            rw [if_neg hcc]
            exact next h
        · split at h
          · cases h
          · rename_i hcc
            rw [if_neg hcc]
            exact next h
        · rename_i f args hst
          split at h
          · rename_i himp
            rw [if_pos himp]
            split at h
            · cases h
            · rename_i hcc
              rw [if_neg hcc]
              cases hc : K f args H with
              | none => rw [hc] at h; cases h
              | some c =>
                rw [hc] at h
                rw [hK _ _ _ _ hc]
                cases c with
                | ret v H' => exact next h
                | pan v H' => exact next h
          · rename_i himp
            rw [if_neg himp]
            cases hc : K f args H with
            | none => rw [hc] at h; cases h
            | some c =>
              rw [hc] at h
              rw [hK _ _ _ _ hc]
              cases c with
              | ret v H' => exact next h
              | pan v H' => cases h
theorem runRegion_mono {P : Program} {K K' : Calling} (hK : KLe K K') {imp : FuncId → Bool} {ops : Array Oper} {d : Bool} {e : List AV} {H : Heap} {r : Ex × List AV × Heap}
    (h : runRegion P K imp ops d e H = some r) : runRegion P K' imp ops d e H = some r := by
  cases d with
  | false => exact runOps_mono hK _ _ _ _ _ h
  | true =>
    simp only [runRegion] at h ⊢
    cases hr : runTr P K imp ops H.next ops.toList 0 none e { H with next := H.next + ops.size } with
    | none => rw [hr] at h; cases h
    | some x => rw [runTr_mono hK _ _ _ _ _ _ hr]; rw [hr] at h; exact h
theorem exec_mono {P : Program} {K K' : Calling} (hK : KLe K K') {imp : FuncId → Bool} : ∀ (k : Nat) (c : Code) (e : List AV) (H : Heap) (r : Ex × List AV × Heap), exec P K imp k c e H = some r →
    ∀ k', k ≤ k' → exec P K' imp k' c e H = some r := by
  intro k
  induction k with
  | zero => intro c e H r h; simp [exec] at h
  | succ k ih =>
    intro c e H r h k' hk
    obtain ⟨k', rfl⟩ : ∃ m, k' = m + 1 := ⟨k' - 1, by omega⟩
    have hk' : k ≤ k' := by omega
    cases c <;> simp only [exec] at h ⊢ <;> try exact h
    case region id ops d => exact runRegion_mono hK h
    case seq x y =>
      cases hx : exec P K imp k x e H with
      | none => rw [hx] at h; cases h
      | some r1 =>
        rw [ih x e H r1 hx k' hk']
        rw [hx] at h
        obtain ⟨ex1, e1, H1⟩ := r1
        cases ex1 with
        | nrm => exact ih y e1 H1 r h k' hk'
        | _ => exact h
    case cond cc x y =>
      split at h
      · exact ih x e H r h k' hk'
      · exact ih y e H r h k' hk'
      · cases h
    case block id x =>
      cases hx : exec P K imp k x e H with
      | none => rw [hx] at h; cases h
      | some r1 =>
        rw [ih x e H r1 hx k' hk']
        rw [hx] at h
        exact h
    case loop x =>
      cases hx : exec P K imp k x e H with
      | none => rw [hx] at h; cases h
      | some r1 =>
        rw [ih x e H r1 hx k' hk']
        rw [hx] at h
        obtain ⟨ex1, e1, H1⟩ := r1
        cases ex1 with
        | nrm => exact ih (.loop x) e1 H1 r h k' hk'
        | _ => exact h
    case scope x => exact ih x e H r h k' hk'
theorem runFn_mono {P : Program} {K K' : Calling} (hK : KLe K K') {imp : FuncId → Bool} {k k' : Nat} (hk : k ≤ k') {fn : Func} {args : List AV} {H : Heap} {r : CR} (h : runFn P K imp k fn args H = some r) :
    runFn P K' imp k' fn args H = some r := by
  unfold runFn at h ⊢
  split at h
  · cases h
  · rename_i code hb
    try simp only [hb]
    split at h
    · rename_i hl
      rw [if_pos hl]
      cases hx : exec P K imp k code args H with
      | none => rw [hx] at h; cases h
      | some r1 =>
        rw [exec_mono hK k code args H r1 hx k' hk]
        rw [hx] at h
        exact h
    · cases h
theorem call_mono {P : Program} {c : Cfg} : ∀ k, KLe (call P c k) (call P c (k + 1)) := by
  intro k
  induction k with
  | zero => intro f args H r h; simp [call] at h
  | succ k ih =>
    intro f args H r h
    rw [call] at h ⊢
    split at h
    · rename_i ht htold
      try simp only [htold]
      exact h
    · rename_i htold
      try simp only [htold]
      split at h
      · cases h
      · rename_i fn hfn
        try simp only [hfn]
        split at h
        · rename_i himp
          try simp only [himp]
          exact runFn_mono ih (Nat.le_succ _) h
        · rename_i himp
          try simp only [himp]
          split at h
          · rename_i v H' hrun
            rw [runFn_mono ih (Nat.le_succ _) hrun]
            exact h
          · cases h
theorem call_le {P : Program} {c : Cfg} {k k' : Nat} (h : k ≤ k') : KLe (call P c k) (call P c k') := by
  induction h with
  | refl => exact fun _ _ _ _ h => h
  | step _ ih => exact fun f args H r h => call_mono _ f args H r (ih f args H r h)
/-- All calls, with whatever fuel they want. -/
noncomputable def calls (P : Program) (c : Cfg) : Calling := fun f args H =>
  open Classical in if h : ∃ r k, call P c k f args H = some r then some h.choose else none
theorem calls_iff {P : Program} {c : Cfg} {f : FuncId} {args : List AV} {H : Heap} {r : CR} : calls P c f args H = some r ↔ ∃ k, call P c k f args H = some r := by
  unfold calls
  constructor
  · intro h
    split at h
    · rename_i hex
      simp only [Option.some.injEq] at h
      rw [← h]
      exact hex.choose_spec
    · cases h
  · rintro ⟨k, hk⟩
    have hex : ∃ r k, call P c k f args H = some r := ⟨r, k, hk⟩
    rw [dif_pos hex]
    obtain ⟨k', hk'⟩ := hex.choose_spec
    have h1 := call_le (Nat.le_max_left k k') _ _ _ _ hk
    have h2 := call_le (Nat.le_max_right k k') _ _ _ _ hk'
    rw [h1] at h2
    exact h2.symm
/-- What is answered with all calls is answered with some fuel. -/
theorem runOps_fuel {P : Program} {c : Cfg} {ops : Array Oper} {base : Nat} : ∀ (os : List Oper) (i : Nat) (e : List AV) (H : Heap) (r : Ex × List AV × Heap),
    runOps P (calls P c) ops base os i e H = some r → ∃ n, runOps P (call P c n) ops base os i e H = some r := by
  intro os
  induction os with
  | nil => intro i e H r h; exact ⟨0, h⟩
  | cons o os ih =>
    intro i e H r h
    simp only [runOps] at h ⊢
    split at h
    · cases h
    · exact ih _ _ _ _ h
    · split at h
      · cases h
      · exact ih _ _ _ _ h
      · exact ⟨0, h⟩
      · rename_i f args hst
        cases hc : calls P c f args H with
        | none => rw [hc] at h; cases h
        | some cr =>
          rw [hc] at h
          obtain ⟨k, hk⟩ := calls_iff.1 hc
          cases cr with
          | pan v H' => exact ⟨k, by rw [hk]; exact h⟩
          | ret v H' =>
            obtain ⟨n, hn⟩ := ih _ _ _ _ h
            refine ⟨max k n, ?_⟩
            rw [call_le (Nat.le_max_left k n) _ _ _ _ hk]
            exact runOps_mono (call_le (Nat.le_max_right k n)) _ _ _ _ _ hn
theorem runTr_fuel {P : Program} {c : Cfg} {imp : FuncId → Bool} {ops : Array Oper} {base : Nat} : ∀ (os : List Oper) (i : Nat) (pk : Option (Nat × AV × Heap)) (e : List AV) (H : Heap) (r : List Tr × Option (Nat × AV × Heap) × List AV × Heap),
    runTr P (calls P c) imp ops base os i pk e H = some r → ∃ n, runTr P (call P c n) imp ops base os i pk e H = some r := by
  intro os
  induction os with
  | nil => intro i pk e H r h; exact ⟨0, h⟩
  | cons o os ih =>
    intro i pk e H r h
    have next : ∀ (k : Nat) {i : Nat} {pk : Option (Nat × AV × Heap)} {e : List AV} {H : Heap} {t0 : Tr} {r : List Tr × Option (Nat × AV × Heap) × List AV × Heap},
        (match runTr P (calls P c) imp ops base os i pk e H with | some (tr, r) => some (t0 :: tr, r) | none => none) = some r →
        ∃ n, k ≤ n ∧ (match runTr P (call P c n) imp ops base os i pk e H with | some (tr, r) => some (t0 :: tr, r) | none => none) = some r := by
      intro k i pk e H t0 r h
      cases hr : runTr P (calls P c) imp ops base os i pk e H with
      | none => rw [hr] at h; cases h
      | some x =>
        obtain ⟨n, hn⟩ := ih _ _ _ _ _ hr
        refine ⟨max k n, Nat.le_max_left .., ?_⟩
        rw [runTr_mono (call_le (Nat.le_max_right k n)) _ _ _ _ _ _ hn]
        rw [hr] at h
        exact h
    simp only [runTr] at h ⊢
    by_cases hb : behind ops pk i = true
    · simp only [if_pos hb] at h ⊢
      obtain ⟨n, _, hn⟩ := next 0 h
      exact ⟨n, hn⟩
    · simp only [if_neg hb] at h ⊢
      split at h
      · cases h
      · obtain ⟨n, _, hn⟩ := next 0 h
        exact ⟨n, hn⟩
      · split at h
        · cases h
        · split at h
          · cases h
          · rename_i hcc
            simp only [if_neg hcc]
            obtain ⟨n, _, hn⟩ := next 0 h
            exact ⟨n, hn⟩
        · split at h
          · cases h
          · rename_i hcc
            simp only [if_neg hcc]
            obtain ⟨n, _, hn⟩ := next 0 h
            exact ⟨n, hn⟩
        · rename_i f args hst
          split at h
          · rename_i himp
            simp only [if_pos himp]
            split at h
            · cases h
            · rename_i hcc
              simp only [if_neg hcc]
              cases hc : calls P c f args H with
              | none => rw [hc] at h; cases h
              | some cr =>
                rw [hc] at h
                obtain ⟨k, hk⟩ := calls_iff.1 hc
                cases cr with
                | ret v H' =>
                  obtain ⟨n, hkn, hn⟩ := next k h
                  refine ⟨n, ?_⟩
                  rw [call_le hkn _ _ _ _ hk]
                  exact hn
                | pan v H' =>
                  obtain ⟨n, hkn, hn⟩ := next k h
                  refine ⟨n, ?_⟩
                  rw [call_le hkn _ _ _ _ hk]
                  exact hn
          · rename_i himp
            simp only [if_neg himp]
            cases hc : calls P c f args H with
            | none => rw [hc] at h; cases h
            | some cr =>
              rw [hc] at h
              obtain ⟨k, hk⟩ := calls_iff.1 hc
              cases cr with
              | ret v H' =>
                obtain ⟨n, hkn, hn⟩ := next k h
                refine ⟨n, ?_⟩
                rw [call_le hkn _ _ _ _ hk]
                exact hn
              | pan v H' => cases h
theorem runRegion_fuel {P : Program} {c : Cfg} {imp : FuncId → Bool} {ops : Array Oper} {d : Bool} {e : List AV} {H : Heap} {r : Ex × List AV × Heap}
    (h : runRegion P (calls P c) imp ops d e H = some r) : ∃ n, runRegion P (call P c n) imp ops d e H = some r := by
  cases d with
  | false => exact runOps_fuel _ _ _ _ _ h
  | true =>
    simp only [runRegion] at h ⊢
    cases hr : runTr P (calls P c) imp ops H.next ops.toList 0 none e { H with next := H.next + ops.size } with
    | none => rw [hr] at h; cases h
    | some x =>
      obtain ⟨n, hn⟩ := runTr_fuel _ _ _ _ _ _ hr
      refine ⟨n, ?_⟩
      rw [hn]
      rw [hr] at h
      exact h
theorem exec_fuel {P : Program} {c : Cfg} {imp : FuncId → Bool} : ∀ (k : Nat) (cd : Code) (e : List AV) (H : Heap) (r : Ex × List AV × Heap), exec P (calls P c) imp k cd e H = some r →
    ∃ n, exec P (call P c n) imp k cd e H = some r := by
  intro k
  induction k with
  | zero => intro cd e H r h; simp [exec] at h
  | succ k ih =>
    intro cd e H r h
    have two : ∀ {x y : Code} {e1 : List AV} {H1 : Heap} {n : Nat} {r r1 : Ex × List AV × Heap}, exec P (call P c n) imp k x e H = some r1 → exec P (calls P c) imp k y e1 H1 = some r →
        ∃ m, exec P (call P c m) imp k x e H = some r1 ∧ exec P (call P c m) imp k y e1 H1 = some r := by
      intro x y e1 H1 n r r1 h1 h2
      obtain ⟨m, hm⟩ := ih _ _ _ _ h2
      exact ⟨max n m, exec_mono (call_le (Nat.le_max_left n m)) _ _ _ _ _ h1 _ (Nat.le_refl _), exec_mono (call_le (Nat.le_max_right n m)) _ _ _ _ _ hm _ (Nat.le_refl _)⟩
    cases cd <;> simp only [exec] at h ⊢ <;> try exact ⟨0, h⟩
    case region id ops d => exact runRegion_fuel h
    case seq x y =>
      cases hx : exec P (calls P c) imp k x e H with
      | none => rw [hx] at h; cases h
      | some r1 =>
        obtain ⟨n, hn⟩ := ih x e H r1 hx
        rw [hx] at h
        obtain ⟨ex1, e1, H1⟩ := r1
        cases ex1 with
        | nrm =>
          obtain ⟨m, h1, h2⟩ := two hn h
          exact ⟨m, by rw [h1]; exact h2⟩
        | _ => exact ⟨n, by rw [hn]; exact h⟩
    case cond cc x y =>
      split at h
      · exact ih x e H r h
      · exact ih y e H r h
      · cases h
    case block id x =>
      cases hx : exec P (calls P c) imp k x e H with
      | none => rw [hx] at h; cases h
      | some r1 =>
        obtain ⟨n, hn⟩ := ih x e H r1 hx
        rw [hx] at h
        exact ⟨n, by rw [hn]; exact h⟩
    case loop x =>
      cases hx : exec P (calls P c) imp k x e H with
      | none => rw [hx] at h; cases h
      | some r1 =>
        obtain ⟨n, hn⟩ := ih x e H r1 hx
        rw [hx] at h
        obtain ⟨ex1, e1, H1⟩ := r1
        cases ex1 with
        | nrm =>
          obtain ⟨m, h1, h2⟩ := two hn h
          exact ⟨m, by rw [h1]; exact h2⟩
        | _ => exact ⟨n, by rw [hn]; exact h⟩
    case scope x => exact ih x e H r h
end Go.Proofs.YtghhkbigmmjanaaGreatDoor.VA

/-! Vc1 -/
namespace Go.Proofs.YtghhkbigmmjanaaGreatDoor.VA
open Go Go.RowKit
set_option linter.unusedSimpArgs false

/-- What an exit is outside of a block. -/
def blk (id : Nat) : Ex → Ex
  | .exit j => if j = id then .nrm else .exit j
  | x => x
/-- Big steps, without fuel. -/
inductive XS (P : Program) (c : Cfg) : Code → List AV → Heap → Ex → List AV → Heap → Prop
  | skip (e H) : XS P c .skip e H .nrm e H
  | label (s e H) : XS P c (.label s) e H .nrm e H
  | region {id ops e H x e1 H1} (h : runOps P (calls P c) ops H.next ops.toList 0 e { H with next := H.next + ops.size } = some (x, e1, H1)) : XS P c (.region id ops false) e H x e1 H1
  | draw {id ops e H tr e1 H1} (h : runTr P (calls P c) c.imp ops H.next ops.toList 0 none e { H with next := H.next + ops.size } = some (tr, none, e1, H1)) (ht : TrOk ops tr) : XS P c (.region id ops true) e H .nrm e1 H1
  | drawP {id ops e H tr i v H2 e1 H1} (h : runTr P (calls P c) c.imp ops H.next ops.toList 0 none e { H with next := H.next + ops.size } = some (tr, some (i, v, H2), e1, H1)) (ht : TrOk ops tr) : XS P c (.region id ops true) e H (.pan v) e1 H2
  | seqN {a b e H e1 H1 x e2 H2} (h : XS P c a e H .nrm e1 H1) (k : XS P c b e1 H1 x e2 H2) : XS P c (.seq a b) e H x e2 H2
  | seqX {a b e H x e1 H1} (h : XS P c a e H x e1 H1) (hx : x ≠ .nrm) : XS P c (.seq a b) e H x e1 H1
  | condT {t a b e H x e1 H1} (ht : aeval e t = .lit (.bool true)) (h : XS P c a e H x e1 H1) : XS P c (.cond t a b) e H x e1 H1
  | condF {t a b e H x e1 H1} (ht : aeval e t = .lit (.bool false)) (h : XS P c b e H x e1 H1) : XS P c (.cond t a b) e H x e1 H1
  | block {id a e H x e1 H1} (h : XS P c a e H x e1 H1) : XS P c (.block id a) e H (blk id x) e1 H1
  | loopN {a e H e1 H1 x e2 H2} (h : XS P c a e H .nrm e1 H1) (k : XS P c (.loop a) e1 H1 x e2 H2) : XS P c (.loop a) e H x e2 H2
  | loopX {a e H x e1 H1} (h : XS P c a e H x e1 H1) (hx : x ≠ .nrm) : XS P c (.loop a) e H x e1 H1
  | exit (id e H) : XS P c (.exit id) e H (.exit id) e H
  | scope {a e H x e1 H1} (h : XS P c a e H x e1 H1) : XS P c (.scope a) e H x e1 H1
  | ret (e H) : XS P c .ret e H .ret e H
theorem KLe.refl (K : Calling) : KLe K K := fun _ _ _ _ h => h
theorem XS.exec {P : Program} {c : Cfg} {cd : Code} {e : List AV} {H : Heap} {x : Ex} {e1 : List AV} {H1 : Heap} (h : XS P c cd e H x e1 H1) : ∃ k, exec P (calls P c) c.imp k cd e H = some (x, e1, H1) := by
  have up : ∀ {cd : Code} {e : List AV} {H : Heap} {r : Ex × List AV × Heap} {k : Nat} (k' : Nat), k ≤ k' → VA.exec P (calls P c) c.imp k cd e H = some r → VA.exec P (calls P c) c.imp k' cd e H = some r :=
    fun k' hk h => exec_mono (KLe.refl _) _ _ _ _ _ h k' hk
  induction h with
  | skip e H => exact ⟨1, rfl⟩
  | label s e H => exact ⟨1, rfl⟩
  | region h => exact ⟨1, by simpa [VA.exec, runRegion] using h⟩
  | draw h ht => exact ⟨1, by simp [VA.exec, runRegion, h, ht]⟩
  | drawP h ht => exact ⟨1, by simp [VA.exec, runRegion, h, ht]⟩
  | seqN h k ih ik =>
    obtain ⟨m, hm⟩ := ih
    obtain ⟨n, hn⟩ := ik
    refine ⟨max m n + 1, ?_⟩
    simp only [VA.exec]
    rw [up _ (Nat.le_max_left m n) hm]
    exact up _ (Nat.le_max_right m n) hn
  | seqX h hx ih =>
    obtain ⟨m, hm⟩ := ih
    refine ⟨m + 1, ?_⟩
    simp only [VA.exec]
    rw [hm]
    split
    · rename_i hh; simp at hh; exact absurd hh.1 hx
    · rfl
  | condT ht h ih =>
    obtain ⟨m, hm⟩ := ih
    exact ⟨m + 1, by simp only [VA.exec]; rw [ht]; exact hm⟩
  | condF ht h ih =>
    obtain ⟨m, hm⟩ := ih
    exact ⟨m + 1, by simp only [VA.exec]; rw [ht]; exact hm⟩
  | @block id a e H x e1 H1 h ih =>
    obtain ⟨m, hm⟩ := ih
    refine ⟨m + 1, ?_⟩
    simp only [VA.exec]
    rw [hm]
    cases x with
    | exit j =>
      simp only [blk]
      by_cases hj : j = id
      · simp [hj]
      · simp [hj]
    | _ => rfl
  | loopN h k ih ik =>
    obtain ⟨m, hm⟩ := ih
    obtain ⟨n, hn⟩ := ik
    refine ⟨max m n + 1, ?_⟩
    simp only [VA.exec]
    rw [up _ (Nat.le_max_left m n) hm]
    exact up _ (Nat.le_max_right m n) hn
  | loopX h hx ih =>
    obtain ⟨m, hm⟩ := ih
    refine ⟨m + 1, ?_⟩
    simp only [VA.exec]
    rw [hm]
    split
    · rename_i hh; simp at hh; exact absurd hh.1 hx
    · rfl
  | exit id e H => exact ⟨1, rfl⟩
  | scope h ih =>
    obtain ⟨m, hm⟩ := ih
    exact ⟨m + 1, by simp only [VA.exec]; exact hm⟩
  | ret e H => exact ⟨1, rfl⟩

/-! ### what comes after -/
inductive Fr where
  | sq (b : Code)
  | bl (id : Nat)
  | lp (a : Code)
abbrev Post := Ex → List AV → Heap → Prop
/-- From a piece's end to the whole's end. -/
def Fin (P : Program) (c : Cfg) : List Fr → Ex → List AV → Heap → Post → Prop
  | [], x, e, H, Q => Q x e H
  | .sq b :: st, .nrm, e, H, Q => ∃ x e1 H1, XS P c b e H x e1 H1 ∧ Fin P c st x e1 H1 Q
  | .sq _ :: st, x, e, H, Q => Fin P c st x e H Q
  | .bl id :: st, x, e, H, Q => Fin P c st (blk id x) e H Q
  | .lp a :: st, .nrm, e, H, Q => ∃ x e1 H1, XS P c (.loop a) e H x e1 H1 ∧ Fin P c st x e1 H1 Q
  | .lp _ :: st, x, e, H, Q => Fin P c st x e H Q
def W (P : Program) (c : Cfg) (cd : Code) (st : List Fr) (e : List AV) (H : Heap) (Q : Post) : Prop := ∃ x e1 H1, XS P c cd e H x e1 H1 ∧ Fin P c st x e1 H1 Q
section
variable {P : Program} {c : Cfg} {st : List Fr} {e : List AV} {H : Heap} {Q : Post}
theorem Fin_nil {x : Ex} : Fin P c [] x e H Q = Q x e H := by simp only [Fin]
theorem Fin_sq {b : Code} : Fin P c (.sq b :: st) .nrm e H Q = W P c b st e H Q := rfl
theorem Fin_sq_exit {b : Code} {j : Nat} : Fin P c (.sq b :: st) (.exit j) e H Q = Fin P c st (.exit j) e H Q := rfl
theorem Fin_sq_ret {b : Code} : Fin P c (.sq b :: st) .ret e H Q = Fin P c st .ret e H Q := rfl
theorem Fin_sq_pan {b : Code} {v : AV} : Fin P c (.sq b :: st) (.pan v) e H Q = Fin P c st (.pan v) e H Q := rfl
theorem Fin_lp {b : Code} : Fin P c (.lp b :: st) .nrm e H Q = W P c (.loop b) st e H Q := rfl
theorem Fin_lp_exit {b : Code} {j : Nat} : Fin P c (.lp b :: st) (.exit j) e H Q = Fin P c st (.exit j) e H Q := rfl
theorem Fin_lp_ret {b : Code} : Fin P c (.lp b :: st) .ret e H Q = Fin P c st .ret e H Q := rfl
theorem Fin_lp_pan {b : Code} {v : AV} : Fin P c (.lp b :: st) (.pan v) e H Q = Fin P c st (.pan v) e H Q := rfl
theorem Fin_bl {id : Nat} : Fin P c (.bl id :: st) .nrm e H Q = Fin P c st .nrm e H Q := by simp only [Fin, blk]
theorem Fin_bl_ret {id : Nat} : Fin P c (.bl id :: st) .ret e H Q = Fin P c st .ret e H Q := by simp only [Fin, blk]
theorem Fin_bl_pan {id : Nat} {v : AV} : Fin P c (.bl id :: st) (.pan v) e H Q = Fin P c st (.pan v) e H Q := by simp only [Fin, blk]
theorem Fin_bl_exit {id : Nat} : Fin P c (.bl id :: st) (.exit id) e H Q = Fin P c st .nrm e H Q := by simp only [Fin, blk, if_true]
theorem Fin_bl_other {id j : Nat} (h : (j == id) = false) : Fin P c (.bl id :: st) (.exit j) e H Q = Fin P c st (.exit j) e H Q := by
  simp only [Fin, blk]; rw [if_neg (by simpa using h)]
theorem W_skip : W P c .skip st e H Q = Fin P c st .nrm e H Q := propext
  ⟨fun ⟨_, _, _, h, k⟩ => by cases h; exact k, fun h => ⟨_, _, _, .skip e H, h⟩⟩
theorem W_label {s : Nat} : W P c (.label s) st e H Q = Fin P c st .nrm e H Q := propext
  ⟨fun ⟨_, _, _, h, k⟩ => by cases h; exact k, fun h => ⟨_, _, _, .label s e H, h⟩⟩
theorem W_exit {id : Nat} : W P c (.exit id) st e H Q = Fin P c st (.exit id) e H Q := propext
  ⟨fun ⟨_, _, _, h, k⟩ => by cases h; exact k, fun h => ⟨_, _, _, .exit id e H, h⟩⟩
theorem W_ret : W P c .ret st e H Q = Fin P c st .ret e H Q := propext
  ⟨fun ⟨_, _, _, h, k⟩ => by cases h; exact k, fun h => ⟨_, _, _, .ret e H, h⟩⟩
theorem W_scope {a : Code} : W P c (.scope a) st e H Q = W P c a st e H Q := propext
  ⟨fun ⟨_, _, _, h, k⟩ => by cases h with | scope h => exact ⟨_, _, _, h, k⟩, fun ⟨_, _, _, h, k⟩ => ⟨_, _, _, .scope h, k⟩⟩
theorem W_seq {a b : Code} : W P c (.seq a b) st e H Q = W P c a (.sq b :: st) e H Q := propext
  ⟨fun ⟨x, _, _, h, k⟩ => by
    cases h with
    | seqN h1 h2 => exact ⟨_, _, _, h1, _, _, _, h2, k⟩
    | seqX h1 hx => exact ⟨_, _, _, h1, by cases x <;> first | exact k | exact absurd rfl hx⟩,
   fun ⟨x, _, _, h, k⟩ => by
    cases x with
    | nrm => obtain ⟨_, _, _, h2, k2⟩ := k; exact ⟨_, _, _, .seqN h h2, k2⟩
    | _ => exact ⟨_, _, _, .seqX h (by simp), k⟩⟩
theorem W_block {id : Nat} {a : Code} : W P c (.block id a) st e H Q = W P c a (.bl id :: st) e H Q := propext
  ⟨fun ⟨x, _, _, h, k⟩ => by
    cases h with
    | block h => exact ⟨_, _, _, h, by simp only [Fin]; exact k⟩,
   fun ⟨x, _, _, h, k⟩ => ⟨_, _, _, .block h, by simp only [Fin] at k; exact k⟩⟩
theorem W_loop {a : Code} : W P c (.loop a) st e H Q = W P c a (.lp a :: st) e H Q := propext
  ⟨fun ⟨x, _, _, h, k⟩ => by
    cases h with
    | loopN h1 h2 => exact ⟨_, _, _, h1, _, _, _, h2, k⟩
    | loopX h1 hx => exact ⟨_, _, _, h1, by cases x <;> first | exact k | exact absurd rfl hx⟩,
   fun ⟨x, _, _, h, k⟩ => by
    cases x with
    | nrm => obtain ⟨_, _, _, h2, k2⟩ := k; exact ⟨_, _, _, .loopN h h2, k2⟩
    | _ => exact ⟨_, _, _, .loopX h (by simp), k⟩⟩
/-- A loop, by what falls from round to round. -/
theorem W_loop_ind {a : Code} (I : Nat → List AV → Heap → Prop) (n : Nat) (h0 : I n e H)
    (step : ∀ n, (∀ m, m < n → ∀ e H, I m e H → W P c (.loop a) st e H Q) → ∀ e H, I n e H → W P c a (.lp a :: st) e H Q) : W P c (.loop a) st e H Q := by
  induction n using Nat.strongRecOn generalizing e H with
  | ind n ih =>
    rw [W_loop]
    exact step n (fun m hm e H hI => ih m hm hI) e H h0
def goB (P : Program) (c : Cfg) (v : AV) (a b : Code) (st : List Fr) (e : List AV) (H : Heap) (Q : Post) : Prop :=
  match v with
  | .lit (.bool true) => W P c a st e H Q
  | .lit (.bool false) => W P c b st e H Q
  | _ => False
theorem W_cond {t : Operand} {a b : Code} : W P c (.cond t a b) st e H Q = goB P c (aeval e t) a b st e H Q := propext
  ⟨fun ⟨x, _, _, h, k⟩ => by
    cases h with
    | condT ht h => rw [ht]; exact ⟨_, _, _, h, k⟩
    | condF ht h => rw [ht]; exact ⟨_, _, _, h, k⟩,
   fun h => by
    unfold goB at h
    split at h
    · rename_i ht; obtain ⟨_, _, _, h1, k⟩ := h; exact ⟨_, _, _, .condT ht h1, k⟩
    · rename_i ht; obtain ⟨_, _, _, h1, k⟩ := h; exact ⟨_, _, _, .condF ht h1, k⟩
    · exact h.elim⟩
theorem goB_true {a b : Code} : goB P c (.lit (.bool true)) a b st e H Q = W P c a st e H Q := rfl
theorem goB_false {a b : Code} : goB P c (.lit (.bool false)) a b st e H Q = W P c b st e H Q := rfl

/-! ### regions whose order is the text's -/
def dsts (ops : Array Oper) : List (Option Tmp) := ops.toList.map (·.dst)
theorem dsts_get {ops : Array Oper} (j : Nat) : (ops[j]?).bind (·.dst) = gget none (dsts ops) j := by
  have h : ∀ (l : List Oper) (j : Nat), (l[j]?).bind (·.dst) = gget none (l.map (·.dst)) j := by
    intro l
    induction l with
    | nil => intro j; simp [gget]
    | cons x l ih => intro j; cases j with | zero => simp [gget] | succ j => simpa [gget] using ih j
  have := h ops.toList j
  simpa [dsts] using this
def WO (P : Program) (c : Cfg) (ds : List (Option Tmp)) (base : Nat) (os : List Oper) (i : Nat) (st : List Fr) (e : List AV) (H : Heap) (Q : Post) : Prop :=
  ∃ ops, dsts ops = ds ∧ ∃ x e1 H1, runOps P (calls P c) ops base os i e H = some (x, e1, H1) ∧ Fin P c st x e1 H1 Q
theorem aWanted_ds {ops ops' : Array Oper} (h : dsts ops = dsts ops') (e : List AV) (o : Oper) : aWanted ops e o = aWanted ops' e o := by
  unfold aWanted
  split
  · rfl
  · rw [dsts_get, dsts_get, h]
theorem runOps_ds {K : Calling} {ops ops' : Array Oper} (h : dsts ops = dsts ops') {base : Nat} : ∀ (os : List Oper) (i : Nat) (e : List AV) (H : Heap), runOps P K ops base os i e H = runOps P K ops' base os i e H := by
  intro os
  induction os with
  | nil => intro i e H; rfl
  | cons o os ih =>
    intro i e H
    simp only [runOps, aWanted_ds h e o, ih]
def Heap.up (H : Heap) (n : Nat) : Heap := { H with next := H.next + n }
theorem W_region {id : Nat} {ops : Array Oper} : W P c (.region id ops false) st e H Q = WO P c (dsts ops) H.next ops.toList 0 st e (H.up ops.size) Q := propext
  ⟨fun ⟨x, _, _, h, k⟩ => by
    cases h with
    | region h => exact ⟨ops, rfl, _, _, _, h, k⟩,
   fun ⟨ops', hd, x, _, _, h, k⟩ => ⟨_, _, _, .region (by rw [← runOps_ds hd]; exact h), k⟩⟩
def goC (P : Program) (c : Cfg) (r : Option CR) (ds : List (Option Tmp)) (base : Nat) (dst : Option Tmp) (os : List Oper) (i : Nat) (st : List Fr) (e : List AV) (Q : Post) : Prop :=
  match r with
  | some (.ret v H) => WO P c ds base os i st (aput e dst v) H Q
  | some (.pan v H) => Fin P c st (.pan v) e H Q
  | none => False
def goS (P : Program) (c : Cfg) (r : Option Sr) (ds : List (Option Tmp)) (base : Nat) (dst : Option Tmp) (os : List Oper) (i : Nat) (st : List Fr) (e : List AV) (H : Heap) (Q : Post) : Prop :=
  match r with
  | some (.val v us _) => WO P c ds base os i st (aput e dst v) (appU H us) Q
  | some (.pan v) => Fin P c st (.pan v) e H Q
  | some (.call f args) => goC P c (calls P c f args H) ds base dst os i st e Q
  | none => False
def goW (P : Program) (c : Cfg) (r : Option Bool) (op : Op) (ds : List (Option Tmp)) (base : Nat) (dst : Option Tmp) (os : List Oper) (i : Nat) (st : List Fr) (e : List AV) (H : Heap) (Q : Post) : Prop :=
  match r with
  | some true => goS P c (astep P (aeval e) H (base + i) op) ds base dst os (i + 1) st e H Q
  | some false => WO P c ds base os (i + 1) st (aput e dst (.tup [])) H Q
  | none => False
theorem WO_nil' {ds : List (Option Tmp)} {base i : Nat} (h : ∃ ops, dsts ops = ds) : WO P c ds base [] i st e H Q = Fin P c st .nrm e H Q := propext
  ⟨fun ⟨_, _, x, _, _, h, k⟩ => by simp [runOps] at h; obtain ⟨rfl, rfl, rfl⟩ := h; exact k, fun k => let ⟨ops, hd⟩ := h; ⟨ops, hd, _, _, _, rfl, k⟩⟩
theorem dsts_all (ds : List (Option Tmp)) : ∃ ops, dsts ops = ds :=
  ⟨(ds.map fun d => { (default : Oper) with dst := d }).toArray, by simp [dsts, Function.comp_def]⟩
theorem WO_nil {ds : List (Option Tmp)} {base i : Nat} : WO P c ds base [] i st e H Q = Fin P c st .nrm e H Q := WO_nil' (dsts_all ds)
theorem WO_cons {ops : Array Oper} {base i : Nat} {o : Oper} {os : List Oper} :
    WO P c (dsts ops) base (o :: os) i st e H Q = goW P c (aWanted ops e o) o.op (dsts ops) base o.dst os i st e H Q := by
  have key : ∀ (i : Nat) (e : List AV) (H : Heap), WO P c (dsts ops) base os i st e H Q = ∃ x e1 H1, runOps P (calls P c) ops base os i e H = some (x, e1, H1) ∧ Fin P c st x e1 H1 Q := by
    intro i e H
    exact propext ⟨fun ⟨ops', hd, x, e1, H1, h, k⟩ => ⟨x, e1, H1, by rw [← runOps_ds hd]; exact h, k⟩, fun ⟨x, e1, H1, h, k⟩ => ⟨ops, rfl, x, e1, H1, h, k⟩⟩
  have key0 : WO P c (dsts ops) base (o :: os) i st e H Q = ∃ x e1 H1, runOps P (calls P c) ops base (o :: os) i e H = some (x, e1, H1) ∧ Fin P c st x e1 H1 Q :=
    propext ⟨fun ⟨ops', hd, x, e1, H1, h, k⟩ => ⟨x, e1, H1, by rw [← runOps_ds hd]; exact h, k⟩, fun ⟨x, e1, H1, h, k⟩ => ⟨ops, rfl, x, e1, H1, h, k⟩⟩
  rw [key0]
  unfold goW
  simp only [runOps]
  cases aWanted ops e o with
  | none => simp
  | some b =>
    cases b with
    | false => simp only [key]
    | true =>
      simp only [goS]
      cases astep P (aeval e) H (base + i) o.op with
      | none => simp
      | some sr =>
        cases sr with
        | val v us rs => simp only [key]
        | pan v => exact propext ⟨fun ⟨_, _, _, h, k⟩ => by simp at h; obtain ⟨rfl, rfl, rfl⟩ := h; exact k, fun k => ⟨_, _, _, rfl, k⟩⟩
        | call f args =>
          simp only [goC]
          cases calls P c f args H with
          | none => simp
          | some cr =>
            cases cr with
            | ret v H' => simp only [key]
            | pan v H' => exact propext ⟨fun ⟨_, _, _, h, k⟩ => by simp at h; obtain ⟨rfl, rfl, rfl⟩ := h; exact k, fun k => ⟨_, _, _, rfl, k⟩⟩
/-- A guard's word. -/
def goG (P : Program) (c : Cfg) (v : AV) (want : Bool) (op : Op) (ds : List (Option Tmp)) (base : Nat) (dst : Option Tmp) (os : List Oper) (i : Nat) (st : List Fr) (e : List AV) (H : Heap) (Q : Post) : Prop :=
  match v with
  | .lit (.bool b) => goW P c (some (b == want)) op ds base dst os i st e H Q
  | .tup [] => goW P c (some false) op ds base dst os i st e H Q
  | _ => False
def goD (P : Program) (c : Cfg) (d : Option Tmp) (want : Bool) (op : Op) (ds : List (Option Tmp)) (base : Nat) (dst : Option Tmp) (os : List Oper) (i : Nat) (st : List Fr) (e : List AV) (H : Heap) (Q : Post) : Prop :=
  match d with
  | some d => goG P c (gget .bad e d) want op ds base dst os i st e H Q
  | none => goW P c (some false) op ds base dst os i st e H Q
variable {op : Op} {ds : List (Option Tmp)} {base i : Nat} {dst : Option Tmp} {os : List Oper}
theorem WO_plain {type : TypeId} {pos : String} {after : Array Edge} :
    WO P c ds base ({ dst, op, type, pos, after, guard := none } :: os) i st e H Q = goS P c (astep P (aeval e) H (base + i) op) ds base dst os (i + 1) st e H Q := by
  obtain ⟨ops, rfl⟩ := dsts_all ds
  rw [WO_cons]; rfl
theorem WO_guard {j : Nat} {want : Bool} {type : TypeId} {pos : String} {after : Array Edge} :
    WO P c ds base ({ dst, op, type, pos, after, guard := some (j, want) } :: os) i st e H Q = goD P c (gget none ds j) want op ds base dst os i st e H Q := by
  obtain ⟨ops, rfl⟩ := dsts_all ds
  rw [WO_cons]
  simp only [aWanted, dsts_get, goD]
  cases gget none (dsts ops) j with
  | none => rfl
  | some d =>
    simp only [goG]
    split <;> rename_i hv <;> simp [hv, goW]
theorem goD_some {d : Tmp} {want : Bool} : goD P c (some d) want op ds base dst os i st e H Q = goG P c (gget .bad e d) want op ds base dst os i st e H Q := rfl
theorem goG_tt : goG P c (.lit (.bool true)) true op ds base dst os i st e H Q = goS P c (astep P (aeval e) H (base + i) op) ds base dst os (i + 1) st e H Q := rfl
theorem goG_ff : goG P c (.lit (.bool false)) false op ds base dst os i st e H Q = goS P c (astep P (aeval e) H (base + i) op) ds base dst os (i + 1) st e H Q := rfl
theorem goG_tf : goG P c (.lit (.bool true)) false op ds base dst os i st e H Q = WO P c ds base os (i + 1) st (aput e dst (.tup [])) H Q := rfl
theorem goG_ft : goG P c (.lit (.bool false)) true op ds base dst os i st e H Q = WO P c ds base os (i + 1) st (aput e dst (.tup [])) H Q := rfl
theorem goG_tup {want : Bool} : goG P c (.tup []) want op ds base dst os i st e H Q = WO P c ds base os (i + 1) st (aput e dst (.tup [])) H Q := rfl
theorem goS_val {v : AV} {us : List U} {rs : List Nat} : goS P c (some (.val v us rs)) ds base dst os i st e H Q = WO P c ds base os i st (aput e dst v) (appU H us) Q := rfl
theorem goS_pan {v : AV} : goS P c (some (.pan v)) ds base dst os i st e H Q = Fin P c st (.pan v) e H Q := rfl
theorem goS_call {f : FuncId} {args : List AV} : goS P c (some (.call f args)) ds base dst os i st e H Q = goC P c (calls P c f args H) ds base dst os i st e Q := rfl
theorem goC_ret {v : AV} : goC P c (some (.ret v H)) ds base dst os i st e Q = WO P c ds base os i st (aput e dst v) H Q := rfl
theorem goC_pan {v : AV} : goC P c (some (.pan v H)) ds base dst os i st e Q = Fin P c st (.pan v) e H Q := rfl

end

/-! ### regions that draw their order -/
section
variable {P : Program} {c : Cfg}
theorem runTr_some {K : Calling} {imp : FuncId → Bool} {ops : Array Oper} {base : Nat} : ∀ (os : List Oper) (i : Nat) (x : Nat × AV × Heap) (e : List AV) (H : Heap) (r : List Tr × Option (Nat × AV × Heap) × List AV × Heap),
    runTr P K imp ops base os i (some x) e H = some r → ∃ y, r.2.1 = some y := by
  intro os
  induction os with
  | nil => intro i x e H r h; simp [runTr] at h; subst h; exact ⟨x, rfl⟩
  | cons o os ih =>
    intro i x e H r h
    have next : ∀ {x : Nat × AV × Heap} {e : List AV} {H : Heap} {t0 : Tr},
        (match runTr P K imp ops base os (i + 1) (some x) e H with | some (tr, r) => some (t0 :: tr, r) | none => none) = some r → ∃ y, r.2.1 = some y := by
      intro x e H t0 h
      cases hr : runTr P K imp ops base os (i + 1) (some x) e H with
      | none => rw [hr] at h; cases h
      | some q => rw [hr] at h; simp at h; obtain ⟨y, hy⟩ := ih _ _ _ _ _ hr; exact ⟨y, by rw [← h]; exact hy⟩
    simp only [runTr] at h
    split at h
    · exact next h
    · split at h
      · cases h
      · exact next h
      · split at h
        · cases h
        · split at h
          · cases h
          · exact next h
        · simp at h
        · split at h
          · simp at h
          · split at h
            · exact next h
            · cases h
/-- One step of a region that draws its order, as long as nothing panics. -/
noncomputable def trStep (P : Program) (c : Cfg) (r : Option Sr) (H : Heap) : Option (Tr × AV × Heap) :=
  match r with
  | some (.val v us rs) => some (.val v us rs, v, appU H us)
  | some (.call f args) =>
    match c.imp f with
    | true =>
      match calls P c f args H with
      | some (.ret v H') => some (.call v H H', v, H')
      | _ => none
    | false =>
      match calls P c f args H with
      | some (.ret v _) => some (.val v [] [], v, H)
      | _ => none
  | _ => none
def gword (ds : List (Option Tmp)) (e : List AV) (g : Option (Nat × Bool)) : Option Bool :=
  match g with
  | none => some true
  | some (j, want) =>
    match gget none ds j with
    | some d =>
      match gget .bad e d with
      | .lit (.bool b) => some (b == want)
      | .tup [] => some false
      | _ => none
    | none => some false
theorem aWanted_gword (ops : Array Oper) (e : List AV) (o : Oper) : aWanted ops e o = gword (dsts ops) e o.guard := by
  unfold aWanted gword
  cases o.guard with
  | none => rfl
  | some g =>
    obtain ⟨j, want⟩ := g
    simp only [dsts_get]
    cases gget none (dsts ops) j with
    | none => rfl
    | some d => rfl
/-- The run of such a region. -/
noncomputable def runD (P : Program) (c : Cfg) (ds : List (Option Tmp)) (base : Nat) : List Oper → Nat → List AV → Heap → Option (List Tr × List AV × Heap)
  | [], _, e, H => some ([], e, H)
  | o :: os, i, e, H =>
    match gword ds e o.guard with
    | none => none
    | some false =>
      match runD P c ds base os (i + 1) (aput e o.dst (.tup [])) H with
      | some (tr, r) => some (.val (.tup []) [] [] :: tr, r)
      | none => none
    | some true =>
      match trStep P c (astep P (aeval e) H (base + i) o.op) H with
      | none => none
      | some (t, v, H') =>
        match runD P c ds base os (i + 1) (aput e o.dst v) H' with
        | some (tr, r) => some (t :: tr, r)
        | none => none
theorem runD_runTr {ops : Array Oper} {base : Nat} : ∀ (os : List Oper) (i : Nat) (e : List AV) (H : Heap) (tr : List Tr) (e1 : List AV) (H1 : Heap),
    runD P c (dsts ops) base os i e H = some (tr, e1, H1) → runTr P (calls P c) c.imp ops base os i none e H = some (tr, none, e1, H1) := by
  intro os
  induction os with
  | nil => intro i e H tr e1 H1 h; simp [runD] at h; obtain ⟨rfl, rfl, rfl⟩ := h; rfl
  | cons o os ih =>
    intro i e H tr e1 H1 h
    have next : ∀ {i : Nat} {e : List AV} {H : Heap} {t0 : Tr},
        (match runD P c (dsts ops) base os i e H with | some (tr, r) => some (t0 :: tr, r) | none => none) = some (tr, e1, H1) →
        (match runTr P (calls P c) c.imp ops base os i none e H with | some (tr, r) => some (t0 :: tr, r) | none => none) = some (tr, none, e1, H1) := by
      intro i e H t0 h
      cases hr : runD P c (dsts ops) base os i e H with
      | none => rw [hr] at h; cases h
      | some q =>
        obtain ⟨tq, eq, Hq⟩ := q
        rw [hr] at h
        rw [ih _ _ _ _ _ _ hr]
        simp at h
        obtain ⟨rfl, rfl, rfl⟩ := h
        rfl
    simp only [runD] at h
    simp only [runTr, behind, Bool.false_eq_true, if_false, aWanted_gword]
    split at h
    · cases h
    · rename_i hw
      rw [hw]
      exact next h
    · rename_i hw
      rw [hw]
      simp only
      cases hs : astep P (aeval e) H (base + i) o.op with
      | none => simp [hs, trStep] at h
      | some sr =>
        rw [hs] at h
        cases sr with
        | val v us rs =>
          simp only [trStep] at h
          simp only [Option.isSome_none, Bool.false_eq_true, false_and, if_false]
          exact next h
        | pan v => simp [trStep] at h
        | call f args =>
          simp only [trStep] at h
          cases hi : c.imp f with
          | true =>
            simp only [hi] at h
            simp only [hi, if_true, Option.isSome_none, Bool.false_eq_true, if_false]
            cases hc : calls P c f args H with
            | none => simp [hc] at h
            | some cr =>
              cases cr with
              | pan v H' => simp [hc] at h
              | ret v H' =>
                simp only [hc] at h
                simp only
                exact next h
          | false =>
            simp only [hi] at h
            simp only [hi, Bool.false_eq_true, if_false]
            cases hc : calls P c f args H with
            | none => simp [hc] at h
            | some cr =>
              cases cr with
              | pan v H' => simp [hc] at h
              | ret v H' =>
                simp only [hc] at h
                simp only
                exact next h
variable {st : List Fr} {e : List AV} {H : Heap} {Q : Post}
def AllOk (un : List (Nat × Nat)) (tr : List Tr) : Prop := ∀ p ∈ un, NoConf (tr.getD p.1 .dead) (tr.getD p.2 .dead)
def WD (P : Program) (c : Cfg) (un : List (Nat × Nat)) (ds : List (Option Tmp)) (base : Nat) (os : List Oper) (i : Nat) (tr : List Tr) (st : List Fr) (e : List AV) (H : Heap) (Q : Post) : Prop :=
  ∃ tr' e1 H1, runD P c ds base os i e H = some (tr', e1, H1) ∧ AllOk un (tr ++ tr') ∧ Fin P c st .nrm e1 H1 Q
theorem W_draw {id : Nat} {ops : Array Oper} (un : List (Nat × Nat)) (hu : unord ops = un) (h : WD P c un (dsts ops) H.next ops.toList 0 [] st e (H.up ops.size) Q) : W P c (.region id ops true) st e H Q := by
  obtain ⟨tr, e1, H1, h1, h2, h3⟩ := h
  exact ⟨_, _, _, .draw (runD_runTr _ _ _ _ _ _ _ h1) (by rw [TrOk, hu]; exact h2), h3⟩
def dK (P : Program) (c : Cfg) (r : Option CR) (imp : Bool) (un : List (Nat × Nat)) (ds : List (Option Tmp)) (base : Nat) (dst : Option Tmp) (os : List Oper) (i : Nat) (tr : List Tr) (st : List Fr) (e : List AV) (H : Heap) (Q : Post) : Prop :=
  match r with
  | some (.ret v H') =>
    match imp with
    | true => WD P c un ds base os i (tr ++ [.call v H H']) st (aput e dst v) H' Q
    | false => WD P c un ds base os i (tr ++ [.val v [] []]) st (aput e dst v) H Q
  | _ => False
def dS (P : Program) (c : Cfg) (r : Option Sr) (un : List (Nat × Nat)) (ds : List (Option Tmp)) (base : Nat) (dst : Option Tmp) (os : List Oper) (i : Nat) (tr : List Tr) (st : List Fr) (e : List AV) (H : Heap) (Q : Post) : Prop :=
  match r with
  | some (.val v us rs) => WD P c un ds base os i (tr ++ [.val v us rs]) st (aput e dst v) (appU H us) Q
  | some (.call f args) => dK P c (calls P c f args H) (c.imp f) un ds base dst os i tr st e H Q
  | _ => False
def dG (P : Program) (c : Cfg) (v : AV) (want : Bool) (op : Op) (un : List (Nat × Nat)) (ds : List (Option Tmp)) (base : Nat) (dst : Option Tmp) (os : List Oper) (i : Nat) (tr : List Tr) (st : List Fr) (e : List AV) (H : Heap) (Q : Post) : Prop :=
  match v with
  | .lit (.bool b) =>
    match b == want with
    | true => dS P c (astep P (aeval e) H (base + i) op) un ds base dst os (i + 1) tr st e H Q
    | false => WD P c un ds base os (i + 1) (tr ++ [.val (.tup []) [] []]) st (aput e dst (.tup [])) H Q
  | .tup [] => WD P c un ds base os (i + 1) (tr ++ [.val (.tup []) [] []]) st (aput e dst (.tup [])) H Q
  | _ => False
variable {op : Op} {un : List (Nat × Nat)} {ds : List (Option Tmp)} {base i : Nat} {dst : Option Tmp} {os : List Oper} {tr : List Tr}
theorem WD_nil : WD P c un ds base [] i tr st e H Q = (AllOk un tr ∧ Fin P c st .nrm e H Q) := propext
  ⟨fun ⟨_, _, _, h, k, l⟩ => by simp [runD] at h; obtain ⟨rfl, rfl, rfl⟩ := h; simp at k; exact ⟨k, l⟩, fun ⟨k, l⟩ => ⟨_, _, _, rfl, by simpa using k, l⟩⟩
theorem WD_step {t : Tr} {v : AV} {H' : Heap} {i : Nat} : (∃ tr' e1 H1, (match runD P c ds base os i (aput e dst v) H' with | some (tr, r) => some (t :: tr, r) | none => none) = some (tr', e1, H1) ∧ AllOk un (tr ++ tr') ∧ Fin P c st .nrm e1 H1 Q) =
    WD P c un ds base os i (tr ++ [t]) st (aput e dst v) H' Q := by
  unfold WD
  cases runD P c ds base os i (aput e dst v) H' with
  | none => simp
  | some q =>
    obtain ⟨tq, eq, Hq⟩ := q
    refine propext ⟨fun ⟨_, _, _, h, k, l⟩ => ?_, fun ⟨_, _, _, h, k, l⟩ => ?_⟩
    · simp at h
      obtain ⟨rfl, rfl, rfl⟩ := h
      exact ⟨_, _, _, rfl, by simpa using k, l⟩
    · simp at h
      obtain ⟨rfl, rfl, rfl⟩ := h
      exact ⟨_, _, _, rfl, by simpa using k, l⟩
theorem dS_eq {r : Option Sr} : (∃ tr' e1 H1, (match trStep P c r H with
      | none => none
      | some (t, v, H') => match runD P c ds base os i (aput e dst v) H' with | some (tr, r) => some (t :: tr, r) | none => none) = some (tr', e1, H1) ∧ AllOk un (tr ++ tr') ∧ Fin P c st .nrm e1 H1 Q) =
    dS P c r un ds base dst os i tr st e H Q := by
  cases r with
  | none => simp [trStep, dS]
  | some sr =>
    cases sr with
    | val v us rs => exact WD_step
    | pan v => simp [trStep, dS]
    | call f args =>
      simp only [trStep, dS, dK]
      cases hi : c.imp f with
      | true =>
        cases calls P c f args H with
        | none => simp
        | some cr =>
          cases cr with
          | ret v H' => exact WD_step
          | pan v H' => simp
      | false =>
        cases calls P c f args H with
        | none => simp
        | some cr =>
          cases cr with
          | ret v H' => exact WD_step
          | pan v H' => simp
theorem WD_plain {type : TypeId} {pos : String} {after : Array Edge} :
    WD P c un ds base ({ dst, op, type, pos, after, guard := none } :: os) i tr st e H Q = dS P c (astep P (aeval e) H (base + i) op) un ds base dst os (i + 1) tr st e H Q := by
  rw [← dS_eq]; rfl
theorem WD_word {o : Oper} : WD P c un ds base (o :: os) i tr st e H Q =
    (match gword ds e o.guard with
    | some true => dS P c (astep P (aeval e) H (base + i) o.op) un ds base o.dst os (i + 1) tr st e H Q
    | some false => WD P c un ds base os (i + 1) (tr ++ [.val (.tup []) [] []]) st (aput e o.dst (.tup [])) H Q
    | none => False) := by
  conv => lhs; unfold WD; simp only [runD]
  cases gword ds e o.guard with
  | none => simp
  | some b =>
    cases b with
    | true => exact dS_eq
    | false => exact WD_step
theorem WD_guard {j : Nat} {d : Tmp} {want : Bool} {type : TypeId} {pos : String} {after : Array Edge} (hd : gget none ds j = some d) :
    WD P c un ds base ({ dst, op, type, pos, after, guard := some (j, want) } :: os) i tr st e H Q = dG P c (gget .bad e d) want op un ds base dst os i tr st e H Q := by
  rw [WD_word]
  simp only [gword, hd]
  generalize gget AV.bad e d = v
  unfold dG
  cases v with
  | lit u =>
    cases u with
    | bool b => simp only; cases b == want <;> rfl
    | _ => rfl
  | tup vs => cases vs <;> rfl
  | _ => rfl
theorem dG_tt : dG P c (.lit (.bool true)) true op un ds base dst os i tr st e H Q = dS P c (astep P (aeval e) H (base + i) op) un ds base dst os (i + 1) tr st e H Q := rfl
theorem dG_ff : dG P c (.lit (.bool false)) false op un ds base dst os i tr st e H Q = dS P c (astep P (aeval e) H (base + i) op) un ds base dst os (i + 1) tr st e H Q := rfl
theorem dG_tf : dG P c (.lit (.bool true)) false op un ds base dst os i tr st e H Q = WD P c un ds base os (i + 1) (tr ++ [.val (.tup []) [] []]) st (aput e dst (.tup [])) H Q := rfl
theorem dG_ft : dG P c (.lit (.bool false)) true op un ds base dst os i tr st e H Q = WD P c un ds base os (i + 1) (tr ++ [.val (.tup []) [] []]) st (aput e dst (.tup [])) H Q := rfl
theorem dG_tup {want : Bool} : dG P c (.tup []) want op un ds base dst os i tr st e H Q = WD P c un ds base os (i + 1) (tr ++ [.val (.tup []) [] []]) st (aput e dst (.tup [])) H Q := rfl
theorem dS_val {v : AV} {us : List U} {rs : List Nat} : dS P c (some (.val v us rs)) un ds base dst os i tr st e H Q = WD P c un ds base os i (tr ++ [.val v us rs]) st (aput e dst v) (appU H us) Q := rfl
theorem dS_call {f : FuncId} {args : List AV} : dS P c (some (.call f args)) un ds base dst os i tr st e H Q = dK P c (calls P c f args H) (c.imp f) un ds base dst os i tr st e H Q := rfl
theorem dK_pure {v : AV} {H' : Heap} : dK P c (some (.ret v H')) false un ds base dst os i tr st e H Q = WD P c un ds base os i (tr ++ [.val v [] []]) st (aput e dst v) H Q := rfl
theorem dK_imp {v : AV} {H' : Heap} : dK P c (some (.ret v H')) true un ds base dst os i tr st e H Q = WD P c un ds base os i (tr ++ [.call v H H']) st (aput e dst v) H' Q := rfl
end
end Go.Proofs.YtghhkbigmmjanaaGreatDoor.VA

/-! Vc2 -/
namespace Go.Proofs.YtghhkbigmmjanaaGreatDoor.VA
open Go Go.RowKit
set_option linter.unusedSimpArgs false

attribute [go_sem] Fin_nil Fin_sq Fin_sq_exit Fin_sq_ret Fin_sq_pan Fin_lp Fin_lp_exit Fin_lp_ret Fin_lp_pan Fin_bl Fin_bl_ret Fin_bl_pan Fin_bl_exit Fin_bl_other
attribute [go_sem] W_skip W_label W_exit W_ret W_scope W_seq W_block W_cond goB_true goB_false W_region WO_nil WO_plain WO_guard goD_some goG_tt goG_ff goG_tf goG_ft goG_tup goS_val goS_pan goS_call goC_ret goC_pan
attribute [go_sem] WD_nil WD_plain WD_guard dG_tt dG_ff dG_tf dG_ft dG_tup dS_val dS_call dK_pure dK_imp
attribute [go_sem] List.map_cons List.map_nil List.append_nil List.nil_append List.cons_append Option.map_some Option.bind_some Option.getD_some

section
variable {P : Program} {ρ : Operand → AV} {H : Heap} {id : Nat} {e : List AV}
@[go_sem] theorem dsts_eq (ops : List Oper) : dsts ops.toArray = ops.map (·.dst) := by simp [dsts]
@[go_sem] theorem gget_zero {α : Type} (d x : α) (l : List α) : gget d (x :: l) 0 = x := rfl
@[go_sem] theorem gget_next {α : Type} (d x : α) (l : List α) (i : Nat) : gget d (x :: l) (i + 1) = gget d l i := rfl
@[go_sem] theorem gget_lit {α : Type} (d x : α) (l : List α) (i : Nat) (h : (i == 0) = false) : gget d (x :: l) i = gget d l (i - 1) := by
  cases i with
  | zero => simp at h
  | succ i => rfl
attribute [go_sem] gget_nil
@[go_sem] theorem gget_same {α : Type} (d : α) (l : List α) (i : Nat) (v : α) : gget d (gset d l i v) i = v := by rw [gget_gset, if_pos rfl]
@[go_sem] theorem gget_other {α : Type} (d : α) (l : List α) (i : Nat) (v : α) (j : Nat) (h : (i == j) = false) : gget d (gset d l i v) j = gget d l j := by
  rw [gget_gset, if_neg (by simpa using h)]
@[go_sem] theorem aput_some (d : Tmp) (v : AV) : aput e (some d) v = gset .bad e d v := rfl
@[go_sem] theorem aput_none (v : AV) : aput e none v = e := rfl
@[go_sem] theorem appU_nil : appU H [] = H := rfl
@[go_sem] theorem appU_cons (u : U) (us : List U) : appU H (u :: us) = appU (u.app H) us := rfl
@[go_sem] theorem U_box (r : Nat) (cs : List AV) : (U.box r cs).app H = H.put r cs := rfl
@[go_sem] theorem U_live (s : Nat) (b : Bool) : (U.live s b).app H = H.setLive s b := rfl
@[go_sem] theorem up_get (n r : Nat) : (H.up n).get r = H.get r := rfl
@[go_sem] theorem up_isLive (n r : Nat) : (H.up n).isLive r = H.isLive r := rfl
@[go_sem] theorem up_next (n : Nat) : (H.up n).next = H.next + n := rfl
@[go_sem] theorem aeval_tmp (t : Tmp) : aeval e (.tmp t) = gget .bad e t := rfl
@[go_sem] theorem aeval_const (v : Value) : aeval e (.const v) = ofV v := rfl
@[go_sem] theorem aeval_func (f : FuncId) : aeval e (.func f) = .fn f [] := rfl
@[go_sem] theorem ofV_int (k : IntKind) (n : Int) : ofV (.int k n) = .lit (.int k n) := rfl
@[go_sem] theorem ofV_bool (b : Bool) : ofV (.bool b) = .lit (.bool b) := rfl
@[go_sem] theorem ofV_string (b : ByteArray) : ofV (.string b) = .lit (.string b) := rfl
@[go_sem] theorem ofV_slice : ofV (.slice none 0 0) = .sl .nil [] := rfl
@[go_sem] theorem ofV_iface : ofV .nilIface = .lit .nilIface := rfl
@[go_sem] theorem ofV_nilFunc : ofV .nilFunc = .lit .nilFunc := rfl
@[go_sem] theorem ofV_ptr : ofV (.pointer none) = .lit (.pointer none) := rfl

/-! ### operations -/
def ob (v : Option AV) : Option Sr := v.map fun v => .val v [] []
@[go_sem] theorem ob_some (v : AV) : ob (some v) = some (.val v [] []) := rfl
@[go_sem] theorem st_move (x : Operand) : astep P ρ H id (.move x) = some (.val (ρ x) [] []) := rfl
@[go_sem] theorem st_assign (x : Operand) : astep P ρ H id (.assign x) = some (.val (ρ x) [] []) := rfl
def pk (c a b : AV) : Option Sr :=
  match c with
  | .lit (.bool true) => some (.val a [] [])
  | .lit (.bool false) => some (.val b [] [])
  | _ => none
@[go_sem] theorem st_pick (x y z : Operand) : astep P ρ H id (.pick x y z) = pk (ρ x) (ρ y) (ρ z) := by
  have h1 : astep P ρ H id (.pick x y z) = (aPure P ρ (.pick x y z)).map fun v => .val v [] [] := rfl
  rw [h1]
  simp only [aPure, pk]
  generalize ρ x = v
  cases v with
  | lit u =>
    cases u with
    | bool b => cases b <;> rfl
    | _ => rfl
  | _ => rfl
@[go_sem] theorem pk_true (a b : AV) : pk (.lit (.bool true)) a b = some (.val a [] []) := rfl
@[go_sem] theorem pk_false (a b : AV) : pk (.lit (.bool false)) a b = some (.val b [] []) := rfl
theorem pk_lits (b x y : Bool) : pk (.lit (.bool b)) (.lit (.bool x)) (.lit (.bool y)) = some (.val (.lit (.bool (bif b then x else y))) [] []) := by cases b <;> rfl
@[go_sem] theorem st_bin (op : BinOp) (t t' : TypeId) (x y : Operand) : astep P ρ H id (.binOp op t x y t') = ob (aBin P op t (ρ x) (ρ y)) := rfl
@[go_sem] theorem bin_int (op : BinOp) (t : TypeId) (k : IntKind) (a b : Int) : aBin P op t (.lit (.int k a)) (.lit (.int k b)) = aInt op k a b := by
  simp only [aBin, if_true]
@[go_sem] theorem bin_str (op : BinOp) (t : TypeId) (a b : ByteArray) : aBin P op t (.lit (.string a)) (.lit (.string b)) = aStr op a b := rfl
@[go_sem] theorem bin_eqb {t : TypeId} (h : P.underlying t = some .bool) (a b : Bool) : aBin P .eql t (.lit (.bool a)) (.lit (.bool b)) = some (.lit (.bool (a == b))) := by
  simp only [aBin, h]
@[go_sem] theorem bin_neb {t : TypeId} (h : P.underlying t = some .bool) (a b : Bool) : aBin P .neq t (.lit (.bool a)) (.lit (.bool b)) = some (.lit (.bool (!(a == b)))) := by
  simp only [aBin, h]
@[go_sem] theorem int_add (k : IntKind) (a b : Int) : aInt .add k a b = some (.lit (.int k (k.wrap (a + b)))) := rfl
@[go_sem] theorem int_sub (k : IntKind) (a b : Int) : aInt .sub k a b = some (.lit (.int k (k.wrap (a - b)))) := rfl
@[go_sem] theorem int_mul (k : IntKind) (a b : Int) : aInt .mul k a b = some (.lit (.int k (k.wrap (a * b)))) := rfl
theorem int_quo (k : IntKind) (a b : Int) (h : b ≠ 0) : aInt .quo k a b = some (.lit (.int k (k.wrap (a.tdiv b)))) := by simp [aInt, h]
theorem int_rem (k : IntKind) (a b : Int) (h : b ≠ 0) : aInt .rem k a b = some (.lit (.int k (a.tmod b))) := by simp [aInt, h]
@[go_sem] theorem int_eql (k : IntKind) (a b : Int) : aInt .eql k a b = some (.lit (.bool (decide (a = b)))) := rfl
@[go_sem] theorem int_neq (k : IntKind) (a b : Int) : aInt .neq k a b = some (.lit (.bool (!decide (a = b)))) := rfl
@[go_sem] theorem int_lss (k : IntKind) (a b : Int) : aInt .lss k a b = some (.lit (.bool (decide (a < b)))) := rfl
@[go_sem] theorem int_leq (k : IntKind) (a b : Int) : aInt .leq k a b = some (.lit (.bool (decide (a ≤ b)))) := rfl
@[go_sem] theorem int_gtr (k : IntKind) (a b : Int) : aInt .gtr k a b = some (.lit (.bool (decide (b < a)))) := rfl
@[go_sem] theorem int_geq (k : IntKind) (a b : Int) : aInt .geq k a b = some (.lit (.bool (decide (b ≤ a)))) := rfl
theorem str_add (a b : ByteArray) (h : a.size + b.size ≤ 9223372036854775807) : aStr .add a b = some (.lit (.string (a ++ b))) := by simp [aStr, h]
@[go_sem] theorem str_eql (a b : ByteArray) : aStr .eql a b = some (.lit (.bool (decide (a = b)))) := by simp [aStr, strEq_decide]
@[go_sem] theorem str_neq (a b : ByteArray) : aStr .neq a b = some (.lit (.bool (!decide (a = b)))) := by simp [aStr, strEq_decide]
def un1 (op : UnOp) (x : AV) : Option AV :=
  match op, x with
  | .not, .lit (.bool b) => some (.lit (.bool (!b)))
  | .neg, .lit (.int k n) => some (.lit (.int k (k.wrap (0 - n))))
  | _, _ => none
@[go_sem] theorem st_un (op : UnOp) (t : TypeId) (x : Operand) : astep P ρ H id (.unOp op t x) = ob (un1 op (ρ x)) := rfl
@[go_sem] theorem un_not (b : Bool) : un1 .not (.lit (.bool b)) = some (.lit (.bool (!b))) := rfl
@[go_sem] theorem un_neg (k : IntKind) (n : Int) : un1 .neg (.lit (.int k n)) = some (.lit (.int k (k.wrap (0 - n)))) := rfl
/-- A string's byte at a place. -/
def bAt (s : ByteArray) (n : Nat) : UInt8 := s.data.toList.getD n 0
def ixs (u : Option TypeDesc) (x : AV) (i : Option Nat) : Option AV :=
  match u, x, i with
  | some .string, .lit (.string s), some i => if h : i < s.size then some (.lit (.int .u8 (s[i]'h).toNat)) else none
  | _, _, _ => none
@[go_sem] theorem st_index (t : TypeId) (x i : Operand) : astep P ρ H id (.index t x i) = ob (ixs (P.underlying t) (ρ x) (aNat (ρ i))) := rfl
theorem ixs_str {s : ByteArray} {n : Nat} (h : n < s.size) : ixs (some .string) (.lit (.string s)) (some n) = some (.lit (.int .u8 (bAt s n).toNat)) := by
  simp only [ixs, dif_pos h, bAt]
  congr 5
  have h' : n < s.data.toList.length := by simpa using h
  rw [List.getD_eq_getElem?_getD, List.getElem?_eq_getElem h']
  rfl
@[go_sem] theorem aNat_cast (k : IntKind) (n : Nat) : aNat (.lit (.int k (n : Int))) = some n := by simp [aNat]
@[go_sem] theorem aNat_zero (k : IntKind) : aNat (.lit (.int k 0)) = some 0 := by simp [aNat]
@[go_sem] theorem aNat_num (k : IntKind) (n : Nat) : aNat (.lit (.int k (OfNat.ofNat n))) = some n := aNat_cast k n
@[go_sem] theorem aNat_one (k : IntKind) : aNat (.lit (.int k 1)) = some 1 := by simp [aNat]
def lnn (P : Program) (t : TypeId) (x : AV) : Option AV :=
  match x with
  | .lit (.string s) => match P.underlying t with | some .string => some (.lit (.int .i64 s.size)) | _ => none
  | .sl _ es => match tElem P t with | some _ => some (.lit (.int .i64 es.length)) | none => none
  | _ => none
@[go_sem] theorem st_len (x : Operand) (t : TypeId) : astep P ρ H id (.call { callee := .builtin .len, args := #[x], argTypes := #[t] }) = ob (lnn P t (ρ x)) := rfl
@[go_sem] theorem lnn_str {t : TypeId} (h : P.underlying t = some .string) (s : ByteArray) : lnn P t (.lit (.string s)) = some (.lit (.int .i64 (s.size : Nat))) := by simp only [lnn, h]
@[go_sem] theorem lnn_sl {t : TypeId} {q : TypeId × Nat × Nat} (o : Own) (es : List (List AV)) (h : tElem P t = some q) : lnn P t (.sl o es) = some (.lit (.int .i64 (es.length : Nat))) := by simp only [lnn, h]
def mnx (mx : Bool) (x y : AV) : Option AV :=
  match x, y with
  | .lit (.int k a), .lit (.int _ b) => some (.lit (.int k (match mx with | false => (if b < a then b else a) | true => (if b > a then b else a))))
  | _, _ => none
@[go_sem] theorem st_min (x y : Operand) (ts : Array TypeId) : astep P ρ H id (.call { callee := .builtin .min, args := #[x, y], argTypes := ts }) = ob (mnx false (ρ x) (ρ y)) := rfl
@[go_sem] theorem st_max (x y : Operand) (ts : Array TypeId) : astep P ρ H id (.call { callee := .builtin .max, args := #[x, y], argTypes := ts }) = ob (mnx true (ρ x) (ρ y)) := rfl
@[go_sem] theorem mnx_min (k l : IntKind) (a b : Int) : mnx false (.lit (.int k a)) (.lit (.int l b)) = some (.lit (.int k (if b < a then b else a))) := rfl
@[go_sem] theorem mnx_max (k l : IntKind) (a b : Int) : mnx true (.lit (.int k a)) (.lit (.int l b)) = some (.lit (.int k (if b > a then b else a))) := rfl
def cv (f : AV) (args : List AV) : Option Sr :=
  match f with
  | .fn k caps => some (.call k (args ++ caps))
  | _ => none
@[go_sem] theorem st_call (f : Operand) (args : List Operand) (ts : Array TypeId) : astep P ρ H id (.call { callee := .value f, args := args.toArray, argTypes := ts }) = cv (ρ f) (args.map ρ) := by
  simp only [astep, cv]
  rfl
@[go_sem] theorem cv_fn (k : FuncId) (caps args : List AV) : cv (.fn k caps) args = some (.call k (args ++ caps)) := rfl
def apd (r : Option (AV × List U × List Nat)) : Option Sr := r.map fun r => .val r.1 r.2.1 r.2.2
@[go_sem] theorem st_append (s x : Operand) (t : TypeId) : astep P ρ H id (.call { callee := .builtin .append, args := #[s, x], argTypes := #[t, t] }) = apd (aAppend P t (ρ s) (ρ x) H id) := by
  simp only [astep, if_true, apd]
@[go_sem] theorem apd_some (v : AV) (us : List U) (rs : List Nat) : apd (some (v, us, rs)) = some (.val v us rs) := rfl
/-- A struct's type: the fields' places, the zero. -/
def tBuild (P : Program) (t : TypeId) : Option (List (Nat × Nat) × List AV) :=
  match P.underlying t with
  | some (.struct fs) =>
    match tPlaces P fs.toList, tZero P t with
    | some pl, some z => some (pl, z)
    | _, _ => none
  | _ => none
def bld (q : Option (List (Nat × Nat) × List AV)) (ps : List (Nat × AV)) : Option AV :=
  match q with
  | some (pl, z) => (aFill (fun i => pl[i]?) z ps).map .agg
  | none => none
@[go_sem] theorem st_build (t : TypeId) (ps : List (Nat × Operand)) : astep P ρ H id (.build t ps.toArray) = ob (bld (tBuild P t) (ps.map fun p => (p.1, ρ p.2))) := by
  have h1 : astep P ρ H id (.build t ps.toArray) = (aPure P ρ (.build t ps.toArray)).map fun v => .val v [] [] := rfl
  rw [h1]
  simp only [aPure, tBuild, ob]
  generalize P.underlying t = u
  cases u with
  | none => rfl
  | some d =>
    cases d with
    | struct fs =>
      simp only
      cases tPlaces P fs.toList with
      | none => rfl
      | some pl =>
        cases tZero P t with
        | none => rfl
        | some z => rfl
    | _ => rfl
/-- One field laid down. -/
def lay (q : Option (Nat × Nat)) (v : List AV) (cells : List AV) : Option (List AV) :=
  match q with
  | some (off, size) => if v.length = size ∧ off + size ≤ cells.length ∧ v.all AV.one = true then some (cells.take off ++ (v ++ cells.drop (off + size))) else none
  | none => none
def fillK (q : Option (List AV)) (pl : List (Nat × Nat)) (ps : List (Nat × AV)) : Option AV :=
  match q with
  | some cells => bld (some (pl, cells)) ps
  | none => none
theorem bld_nil (pl : List (Nat × Nat)) (z : List AV) : bld (some (pl, z)) [] = some (.agg z) := rfl
theorem bld_cons (pl : List (Nat × Nat)) (z : List AV) (i : Nat) (v : AV) (ps : List (Nat × AV)) : bld (some (pl, z)) ((i, v) :: ps) = fillK (lay pl[i]? v.cells z) pl ps := by
  simp only [bld, aFill, fillK, lay]
  cases pl[i]? with
  | none => rfl
  | some q =>
    obtain ⟨off, size⟩ := q
    simp only
    split <;> rfl
attribute [go_sem] bld_nil bld_cons
@[go_sem] theorem fillK_some (cells : List AV) (pl : List (Nat × Nat)) (ps : List (Nat × AV)) : fillK (some cells) pl ps = bld (some (pl, cells)) ps := rfl
@[go_sem] theorem cells_lit (v : Value) : (AV.lit v).cells = [.lit v] := rfl
@[go_sem] theorem cells_sl (o : Own) (es : List (List AV)) : (AV.sl o es).cells = [.sl o es] := rfl
@[go_sem] theorem cells_agg (cs : List AV) : (AV.agg cs).cells = cs := rfl
@[go_sem] theorem cells_ifc (t : TypeId) (v : AV) : (AV.ifc t v).cells = [.ifc t v] := rfl
@[go_sem] theorem cells_fn (f : FuncId) (cs : List AV) : (AV.fn f cs).cells = [.fn f cs] := rfl
@[go_sem] theorem cells_ptr (r o : Nat) : (AV.ptr r o).cells = [.ptr r o] := rfl
@[go_sem] theorem one_sl (o : Own) (es : List (List AV)) : (AV.sl o es).one = true := rfl
@[go_sem] theorem one_ptr (r o : Nat) : (AV.ptr r o).one = true := rfl
@[go_sem] theorem one_ifc (t : TypeId) (v : AV) : (AV.ifc t v).one = true := rfl
@[go_sem] theorem one_fn (f : FuncId) (cs : List AV) : (AV.fn f cs).one = true := rfl
@[go_sem] theorem one_int (k : IntKind) (n : Int) : (AV.lit (.int k n)).one = true := rfl
@[go_sem] theorem one_bool (b : Bool) : (AV.lit (.bool b)).one = true := rfl
@[go_sem] theorem one_string (s : ByteArray) : (AV.lit (.string s)).one = true := rfl
@[go_sem] theorem one_niface : (AV.lit .nilIface).one = true := rfl
def fdd (q : Option (Nat × Nat × Bool)) (x : AV) : Option AV :=
  match q, x with
  | some (o, n, true), .agg cs => if o + n ≤ cs.length then some (.agg ((cs.drop o).take n)) else none
  | some (o, _, false), .agg cs => cs[o]?
  | _, _ => none
@[go_sem] theorem st_field (t : TypeId) (x : Operand) (k : Nat) : astep P ρ H id (.field t x k) = ob (fdd (tField P t k) (ρ x)) := rfl
@[go_sem] theorem fdd_one (o n : Nat) (cs : List AV) : fdd (some (o, n, false)) (.agg cs) = cs[o]? := rfl
theorem fdd_agg (o n : Nat) (cs : List AV) (h : o + n ≤ cs.length) : fdd (some (o, n, true)) (.agg cs) = some (.agg ((cs.drop o).take n)) := by simp [fdd, h]
def fad (q : Option (Nat × Nat × Bool)) (x : AV) : Option AV :=
  match q, x with
  | some (o, n, _), .ptr r off => if n = 0 then none else some (.ptr r (off + o))
  | some (o, n, _), .ep cs => if n = 0 then none else if o ≤ cs.length then some (.ep (cs.drop o)) else none
  | _, _ => none
@[go_sem] theorem st_fieldAddr (t : TypeId) (x : Operand) (k : Nat) : astep P ρ H id (.fieldAddr t x k) = ob (fad (tField P t k) (ρ x)) := rfl
@[go_sem] theorem fad_ptr (o n : Nat) (b : Bool) (r off : Nat) (h : (n == 0) = false) : fad (some (o, n, b)) (.ptr r off) = some (.ptr r (off + o)) := by
  simp only [fad]; rw [if_neg (by simpa using h)]
@[go_sem] theorem fad_ep (o n : Nat) (b : Bool) (cs : List AV) (h : (n == 0) = false) (h2 : decide (o ≤ cs.length) = true) : fad (some (o, n, b)) (.ep cs) = some (.ep (cs.drop o)) := by
  simp only [fad]; rw [if_neg (by simpa using h), if_pos (by simpa using h2)]
def iad (q : Option (TypeId × Nat × Nat)) (x : AV) (i : Option Nat) : Option AV :=
  match q, x, i with
  | some (_, n, _), .sl _ es, some i =>
    match es[i]? with
    | some e => if e.length = n then some (.ep e) else none
    | none => none
  | _, _, _ => none
@[go_sem] theorem st_indexAddr (t : TypeId) (x i : Operand) : astep P ρ H id (.indexAddr t x i) = ob (iad (tElem P t) (ρ x) (aNat (ρ i))) := rfl
theorem iad_some {t : TypeId} {n b : Nat} {o : Own} {es : List (List AV)} {i : Nat} {e : List AV} (h : es[i]? = some e) (hl : e.length = n) : iad (some (t, n, b)) (.sl o es) (some i) = some (.ep e) := by
  simp only [iad, h, hl, if_true]
def lod (r : Option (AV × List Nat)) : Option Sr := r.map fun r => .val r.1 [] r.2
@[go_sem] theorem st_load (t : TypeId) (x : Operand) : astep P ρ H id (.load t x) = lod (aLoad P t (ρ x) H) := rfl
@[go_sem] theorem lod_some (v : AV) (rs : List Nat) : lod (some (v, rs)) = some (.val v [] rs) := rfl
@[go_sem] theorem load_ep {t : TypeId} (h : tAgg P t = some false) (v : AV) (cs : List AV) : aLoad P t (.ep (v :: cs)) H = some (v, []) := by simp [aLoad, h]
theorem load_ep_agg {t : TypeId} {n : Nat} {cs : List AV} (h : tAgg P t = some true) (hs : tSize P t = some n) (hl : n ≤ cs.length) : aLoad P t (.ep cs) H = some (.agg (cs.take n), []) := by simp [aLoad, h, hs, hl]
theorem load_ptr {t : TypeId} {r off : Nat} {cs : List AV} {v : AV} (h : tAgg P t = some false) (hg : H.get r = some cs) (hv : cs[off]? = some v) : aLoad P t (.ptr r off) H = some (v, [r]) := by simp [aLoad, h, hg, hv]
theorem load_ptr_agg {t : TypeId} {r off n : Nat} {cs : List AV} (h : tAgg P t = some true) (hs : tSize P t = some n) (hg : H.get r = some cs) (hl : off + n ≤ cs.length) : aLoad P t (.ptr r off) H = some (.agg ((cs.drop off).take n), [r]) := by simp [aLoad, h, hs, hg, hl]
def sto (r : Option (List U)) : Option Sr := r.map fun us => .val (.tup []) us []
@[go_sem] theorem st_store (t : TypeId) (x v : Operand) : astep P ρ H id (.store t x v) = sto (aStore P t (ρ x) (ρ v) H) := rfl
@[go_sem] theorem sto_some (us : List U) : sto (some us) = some (.val (.tup []) us []) := rfl
theorem store_ptr {t : TypeId} {n r off : Nat} {cs : List AV} {v : AV} (hs : tSize P t = some n) (hg : H.get r = some cs) (h1 : v.cells.length = n) (h2 : off + n ≤ cs.length) (h3 : v.cells.all AV.one = true) :
    aStore P t (.ptr r off) v H = some [.box r (cs.take off ++ (v.cells ++ cs.drop (off + n)))] := by simp [aStore, hs, hg, h1, h2] ; simpa using h3
def alo (z : Option (List AV)) (id : Nat) : Option Sr := z.map fun z => .val (.ptr id 0) [.box id z] []
@[go_sem] theorem st_alloc (t : TypeId) : astep P ρ H id (.alloc t) = alo (tZero P t) id := by
  simp only [astep, alo]; cases tZero P t <;> rfl
@[go_sem] theorem alo_some (z : List AV) : alo (some z) id = some (.val (.ptr id 0) [.box id z] []) := rfl
def bxx (v : AV) (id : Nat) : Option Sr := if v.cells.all AV.one = true then some (.val (.ptr id 0) [.box id v.cells] []) else none
@[go_sem] theorem st_box (t : TypeId) (x : Operand) : astep P ρ H id (.box t x) = bxx (ρ x) id := rfl
theorem bxx_some {v : AV} (h : v.cells.all AV.one = true) : bxx v id = some (.val (.ptr id 0) [.box id v.cells] []) := by simp [bxx, h]
@[go_sem] theorem st_buildSlice (t : TypeId) (len : Nat) (ps : List (Nat × Operand)) : astep P ρ H id (.buildSlice t len ps.toArray) = ob (aBuildSlice P t len (ps.map fun p => (p.1, ρ p.2))) := rfl
@[go_sem] theorem st_makeFunc (f : FuncId) (caps : List Operand) : astep P ρ H id (.makeFunc (.func f) #[] caps.toArray) = some (.val (.fn f (caps.map ρ)) [] []) := by
  simp only [astep, aPure, if_true, Option.map_some]
@[go_sem] theorem st_makeIface {t : TypeId} (x : Operand) (h : P.concrete t = true) : astep P ρ H id (.makeInterface t x) = some (.val (.ifc t (ρ x)) [] []) := by
  simp only [astep, aPure, h, if_true, Option.map_some]
def pnn (x : AV) : Option Sr :=
  match x with
  | .ifc t v => some (.pan (.ifc t v))
  | _ => none
@[go_sem] theorem st_panic (x : Operand) : astep P ρ H id (.panic x) = pnn (ρ x) := rfl
@[go_sem] theorem pnn_ifc (t : TypeId) (v : AV) : pnn (.ifc t v) = some (.pan (.ifc t v)) := rfl
def ncc (x : AV) : Option AV :=
  match x with
  | .ptr r o => some (.ptr r o)
  | .ep cs => some (.ep cs)
  | .fn f cs => some (.fn f cs)
  | _ => none
@[go_sem] theorem st_nilCheck (x : Operand) : astep P ρ H id (.nilCheck x) = ob (ncc (ρ x)) := rfl
@[go_sem] theorem ncc_ptr (r o : Nat) : ncc (.ptr r o) = some (.ptr r o) := rfl
@[go_sem] theorem ncc_ep (cs : List AV) : ncc (.ep cs) = some (.ep cs) := rfl
@[go_sem] theorem ncc_fn (f : FuncId) (cs : List AV) : ncc (.fn f cs) = some (.fn f cs) := rfl
def ext (x : AV) (i : Nat) : Option AV :=
  match x with
  | .tup vs => vs[i]?
  | _ => none
@[go_sem] theorem st_extract (x : Operand) (i : Nat) : astep P ρ H id (.extract x i) = ob (ext (ρ x) i) := rfl
@[go_sem] theorem ext_tup (vs : List AV) (i : Nat) : ext (.tup vs) i = vs[i]? := rfl
attribute [go_sem] List.getElem?_cons_zero List.getElem?_cons_succ
@[go_sem] theorem st_slice (t : TypeId) (x : Operand) (lo hi : Option Operand) : astep P ρ H id (.slice t x lo hi none) = ob (aSlice P t (ρ x) (lo.map ρ) (hi.map ρ)) := rfl
theorem slice_str {t : TypeId} {s : ByteArray} {lo hi : Option AV} {l h : Nat} (ht : P.underlying t = some .string) (hh : optNat s.size hi = some h) (hl : optNat 0 lo = some l) (h1 : l ≤ h) (h2 : h ≤ s.size) :
    aSlice P t (.lit (.string s)) lo hi = some (.lit (.string (s.extract l h))) := by simp [aSlice, ht, hh, hl, h1, h2]
def cvt (a b : Option TypeDesc) (x : AV) : Option AV :=
  match a, b, x with
  | some _, some (.int k), .lit (.int _ n) => some (.lit (.int k (k.wrap n)))
  | some .string, some .string, .lit (.string s) => some (.lit (.string s))
  | _, _, _ => none
@[go_sem] theorem st_convert (s d : TypeId) (x : Operand) : astep P ρ H id (.convert s d x) = ob (cvt (P.underlying s) (P.underlying d) (ρ x)) := rfl
@[go_sem] theorem cvt_int (a : TypeDesc) (k l : IntKind) (n : Int) : cvt (some a) (some (.int k)) (.lit (.int l n)) = some (.lit (.int k (k.wrap n))) := by
  cases a <;> rfl
end
end Go.Proofs.YtghhkbigmmjanaaGreatDoor.VA
