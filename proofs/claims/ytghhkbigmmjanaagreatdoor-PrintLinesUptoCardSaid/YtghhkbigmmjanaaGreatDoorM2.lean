/- What is said: the abstract interpreter (VA): code and calls.
What is proved: a region whose order is the text's, in the abstract interpreter (VA), against the model's own rules. No condition.
What is proved: what a region that draws its order comes to in the abstract interpreter (VA) hangs on no order: the plain part, over lists of operations and what they have done. No condition.
What is proved: what a region that draws its order has done, operation by operation, in the abstract interpreter (VA). No condition.
What is proved: a region that draws its order, in the abstract interpreter (VA), against the model's own rules, for every order. No condition.
What is proved: the abstract interpreter (VA) against the model's own machine: what it answers for a call is what the call comes to. No condition but that the table it is given is the program's.
What is proved: what a call leaves to its caller, trimmed, in the abstract interpreter (VA), means what it meant. No condition.
What is proved: what the abstract interpreter (VA) answers for a call is what the call comes to, for every world that its arguments mean something in. No condition but that its table is the program's.
What is proved: more fuel changes no answer of the abstract interpreter (VA), and what it answers with all its calls at hand it answers with some fuel. No condition. -/
import Derived.Test.YtghhkbigmmjanaaGreatDoorM1
import Derived.LoopN
/-! Vb2 -/
namespace Go.Proofs.YtghhkbigmmjanaaGreatDoor.VA
open Go Go.RowKit

noncomputable instance noConfDec (a b : Tr) : Decidable (NoConf a b) := by
 cases a <;> cases b <;> unfold NoConf <;> infer_instance
/-- Do all pairs that may come up in either order let each other alone? -/
def TrOk (ops : Array Oper) (tr : List Tr) : Prop := ∀ p ∈ unord ops, NoConf (tr.getD p.1 .dead) (tr.getD p.2 .dead)
noncomputable instance trOkDec (ops : Array Oper) (tr : List Tr) : Decidable (TrOk ops tr) := by unfold TrOk; infer_instance
noncomputable def runRegion (P : Program) (K : Calling) (imp : FuncId → Bool) (ops : Array Oper) (draw : Bool) (e : List AV) (H : Heap) : Option (Ex × List AV × Heap) :=
 let H1 : Heap := { H with next := H.next + ops.size }
 match draw with
 | false => runOps P K ops H.next ops.toList 0 e H1
 | true =>
  match runTr P K imp ops H.next ops.toList 0 none e H1 with
  | none => none
  | some (tr, pk, e', H') =>
   if TrOk ops tr then
    match pk with
    | none => some (.nrm, e', H')
    | some (_, v, H2) => some (.pan v, e', H2)
   else none
noncomputable def exec (P : Program) (K : Calling) (imp : FuncId → Bool) : Nat → Code → List AV → Heap → Option (Ex × List AV × Heap)
 | 0, _, _, _ => none
 | k + 1, c, e, H =>
  match c with
  | .skip => some (.nrm, e, H)
  | .label _ => some (.nrm, e, H)
  | .region _ ops d => runRegion P K imp ops d e H
  | .seq a b =>
   match exec P K imp k a e H with
   | some (.nrm, e', H') => exec P K imp k b e' H'
   | r => r
  | .cond c a b =>
   match aeval e c with
   | .lit (.bool true) => exec P K imp k a e H
   | .lit (.bool false) => exec P K imp k b e H
   | _ => none
  | .block id a =>
   match exec P K imp k a e H with
   | some (.exit j, e', H') => if j = id then some (.nrm, e', H') else some (.exit j, e', H')
   | r => r
  | .loop a =>
   match exec P K imp k a e H with
   | some (.nrm, e', H') => exec P K imp k (.loop a) e' H'
   | r => r
  | .exit id => some (.exit id, e, H)
  | .scope a => exec P K imp k a e H
  | .ret => some (.ret, e, H)
  | _ => none
def aResult (P : Program) (e : List AV) (H : Heap) : ResultVar → Option AV
 | .tmp t => some (gget .bad e t)
 | .cell a t => (aLoad P t (gget .bad e a) H).map (·.1)
def aResults (P : Program) (e : List AV) (H : Heap) : List ResultVar → Option (List AV)
 | [] => some []
 | r :: rs =>
  match aResult P e H r, aResults P e H rs with
  | some v, some vs => some (v :: vs)
  | _, _ => none
def oneOr : List AV → AV
 | [v] => v
 | vs => .tup vs
/-- What the interpreter is told of a program: the functions that it may run, which of them write to their caller's memory, and functions that are told outright. -/
structure Cfg where
 fn : FuncId → Option Func
 imp : FuncId → Bool
 told : FuncId → Option (List AV → Option AV)
 trim : FuncId → Option (List AV → Heap → Option Nat) := fun _ => none
/-! What a call leaves to its caller, where the caller's memory is written: what was made is gone, and the lists that one box owns are named by the call's own number. -/
/-- A cell, without what was made behind a number. -/
def sanT (N : Nat) : AV → AV
 | .sl (.own s e z) es => if s < N then .sl (.own s e z) (sanLL es) else .sl .sh (sanLL es)
 | .sl o es => .sl o (sanLL es)
 | .ptr r off => if r < N then .ptr r off else .bad
 | .mp r => if r < N then .mp r else .bad
 | x => san x
/-- The owner's cells. -/
def renC (N : Nat) (live : Nat → Bool) (seen : List Nat) (j : Nat) : List AV → List AV
 | [] => []
 | .sl (.own s e z) es :: l =>
  if s < N then .sl (.own s e z) (sanLL es) :: renC N live seen (j + 1) l
  else if live s = true ∧ s ∉ seen ∧ j < 64 then .sl (.own (N + j) e z) (sanLL es) :: renC N live (s :: seen) (j + 1) l
  else .sl .sh (sanLL es) :: renC N live seen (j + 1) l
 | x :: l => sanT N x :: renC N live seen (j + 1) l
/-- Which name a cell's list had. -/
def renS (N : Nat) (live : Nat → Bool) (seen : List Nat) (j : Nat) : List AV → Nat → Option Nat
 | [], _ => none
 | .sl (.own s _ _) _ :: l, i =>
  if s < N then renS N live seen (j + 1) l i
  else if live s = true ∧ s ∉ seen ∧ j < 64 then if i = j then some s else renS N live (s :: seen) (j + 1) l i
  else renS N live seen (j + 1) l i
 | _ :: l, i => renS N live seen (j + 1) l i
def trimO (N : Nat) (live : Nat → Bool) (own : Bool) : Option HO → Option HO
 | some (.bx cs) => some (.bx (match own with | true => renC N live [] 0 cs | false => cs.map (sanT N)))
 | some (.mpo ks vs) => some (.mpo (ks.map (sanT N)) (vs.map (sanT N)))
 | none => none
open Classical in
noncomputable def trimS (H H' : Heap) (R : Option Nat) (i : Nat) : Option Nat :=
 match R with
 | some r => if r < H.next ∧ H'.ho r ≠ H.ho r then (H'.get r).bind fun cs => renS H.next H'.live [] 0 cs i else none
 | none => none
open Classical in
noncomputable def trimH (H H' : Heap) (R : Option Nat) : Heap where
 ho := fun k => if k < H.next then if H'.ho k = H.ho k then H.ho k else trimO H.next H'.live (R == some k) (H'.ho k) else H.ho k
 live := fun k => if k < H.next then H'.live k else if (trimS H H' R (k - H.next)).isSome then true else H.live k
 next := H.next + 64
noncomputable def CR.trim (H : Heap) (R : Option Nat) : CR → CR
 | .ret v H' => .ret v (trimH H H' R)
 | .pan v H' => .pan v (trimH H H' R)
noncomputable def trimK (t : Option (List AV → Heap → Option Nat)) (args : List AV) (H : Heap) (r : Option CR) : Option CR :=
 match t with
 | some R => r.map (CR.trim H (R args H))
 | none => r
noncomputable def runFn (P : Program) (K : Calling) (imp : FuncId → Bool) (k : Nat) (fn : Func) (args : List AV) (H : Heap) : Option CR :=
 match fn.body with
 | none => none
 | some code =>
  if args.length ≤ fn.ntmps then
   match exec P K imp k code args H with
   | some (.pan v, _, H') => some (.pan (san v) H')
   | some (.exit _, _, _) => none
   | some (_, e, H') =>
    match aResults P e H' fn.results.toList with
    | some vs => some (.ret (san (oneOr vs)) H')
    | none => none
   | none => none
  else none
noncomputable def call (P : Program) (c : Cfg) : Nat → Calling
 | 0, _, _, _ => none
 | k + 1, f, args, H =>
  match c.told f with
  | some h =>
   match h (sanL args) with
   | some v => some (.ret v H)
   | none => none
  | none =>
   match c.fn f with
   | none => none
   | some fn =>
    match c.imp f with
    | true => trimK (c.trim f) args H (runFn P (call P c k) c.imp k fn args H)
    | false =>
     match runFn P (call P c k) c.imp k fn (sanL args) Heap.empty with
     | some (.ret v _) => some (.ret v H)
     | _ => none
end Go.Proofs.YtghhkbigmmjanaaGreatDoor.VA

/-! Vb3 -/
namespace Go.Proofs.YtghhkbigmmjanaaGreatDoor.VA
open Go Go.RowKit

def Top (g : Gh) (N : Nat) : Prop := ∀ r, N ≤ r → g.box r = none ∧ g.own r = none
def New (N : Nat) (g g' : Gh) : Prop := ∀ r, r < N → g'.box r = g.box r ∧ g'.own r = g.own r
theorem New.refl (N : Nat) (g : Gh) : New N g g := fun _ _ => ⟨rfl, rfl⟩
theorem New.trans {N : Nat} {g g1 g2 : Gh} (h : New N g g1) (k : New N g1 g2) : New N g g2 := fun r hr => ⟨(k r hr).1.trans (h r hr).1, (k r hr).2.trans (h r hr).2⟩
theorem New.mono {N M : Nat} {g g' : Gh} (h : New N g g') (hm : M ≤ N) : New M g g' := fun r hr => h r (Nat.lt_of_lt_of_le hr hm)
theorem Top.mono {N M : Nat} {g : Gh} (h : Top g N) (hm : N ≤ M) : Top g M := fun r hr => h r (Nat.le_trans hm hr)
/-- From one state to a later one. -/
structure Past (N : Nat) (g : Gh) (w : World) (g' : Gh) (H' : Heap) (w' : World) : Prop where
 ext : Ext g w g' w'
 inv : Inv g' H' w'
 top : Top g' H'.next
 new : New N g g'
 next : N ≤ H'.next
theorem Past.trans {N M : Nat} {g g1 g2 : Gh} {H1 H2 : Heap} {w w1 w2 : World} (h : Past N g w g1 H1 w1) (k : Past M g1 w1 g2 H2 w2) (hM : N ≤ M) : Past N g w g2 H2 w2 :=
 ⟨h.ext.trans k.ext, k.inv, k.top, h.new.trans (k.new.mono hM), Nat.le_trans hM k.next⟩
def oneEntry (u : Value) : List PanicEntry := [{ v := u, recovered := false }]
def CPost (g : Gh) (N : Nat) (w : World) : CR → Ending → World → Prop
 | .ret v H', en, w' => ∃ u g', en = .returned u ∧ Past N g w g' H' w' ∧ Rel g' w' v u
 | .pan v H', en, w' => ∃ u g', en = .panicked (oneEntry u) ∧ Past N g w g' H' w' ∧ Rel g' w' v u
structure KOk (P : Program) (C : Cond) (K : Calling) (imp : FuncId → Bool) : Prop where
 calls : ∀ f args H r, K f args H = some r → ∀ g w (vs : Array Value), g.cond = C → Inv g H w → Top g H.next → RelL g w args vs.toList →
  (callFunc f vs).run P w = .ok (.enter f vs) w ∧ Calls P f vs w (CPost g H.next w r)
 pure : ∀ f args H r, imp f = false → K f args H = some r → ∃ v, r = .ret v H ∧ ∀ H2, K f args H2 = some (.ret v H2)
def ExRel (g : Gh) (w : World) (x : Exit) (a : Act) : Ex → List AV → Prop
 | .nrm, e => x = .normal ∧ EnvRel g w e a.tmps
 | .exit id, e => x = .exit id ∧ EnvRel g w e a.tmps
 | .ret, e => x = .ret ∧ EnvRel g w e a.tmps
 | .pan v, _ => ∃ u, x = .panic (oneEntry u) ∧ Rel g w v u
theorem appU_next (H : Heap) (us : List U) : (appU H us).next = H.next := by
 induction us generalizing H with
 | nil => rfl
 | cons u us ih => simp only [appU]; rw [ih]; cases u <;> rfl
theorem aWanted_sound {ops : Array Oper} {e : List AV} {o : Oper} {b : Bool} {g : Gh} {w : World} {tmps : Array Value} (h : aWanted ops e o = some b) (he : EnvRel g w e tmps) :
  Region.wanted o (yielded ops tmps) = b := by
 unfold aWanted at h
 unfold Region.wanted
 split at h
 ·rename_i hg
  rw [hg]
  simpa using h
 ·rename_i j want hg
  rw [hg]
  simp only
  unfold yielded
  split at h
  ·rename_i d hd
   rw [hd]
   have hr := he d
   simp only [Option.bind_some]
   split at h
   ·rename_i b' hb
    rw [hb] at hr
    have hv := hr.lit_inv
    simp only [Option.some.injEq] at h
    subst h
    by_cases hlt : d < tmps.size
    ·simp [hlt] at hv
     simp [hlt, hv]
    ·simp [hlt, undef] at hv
   ·rename_i hb
    rw [hb] at hr
    simp only [Option.some.injEq] at h
    subst h
    obtain ⟨vs, hv, _⟩ := hr.tup_inv
    by_cases hlt : d < tmps.size
    ·simp [hlt] at hv
     simp [hlt, hv]
    ·simp [hlt]
   ·cases h
  ·rename_i hd
   rw [hd]
   simpa using h
def dstOk (n : Nat) (o : Oper) : Bool :=
 match o.dst with
 | some d => decide (d < n)
 | none => true
theorem dstOk_spec {n : Nat} {o : Oper} (h : dstOk n o = true) : ∀ d, o.dst = some d → d < n := by
 intro d hd
 simpa [dstOk, hd] using h
theorem Inv.next {g : Gh} {H H' : Heap} {w : World} (h : Inv g H w) (hg : ∀ r, H'.ho r = H.ho r) (hl : ∀ s, H'.isLive s = H.isLive s) : Inv g H' w :=
 ⟨h.lo, h.fresh, h.boxB, h.boxI, fun r cs hr => h.box r cs (by rw [Heap.get, ← hg]; exact hr), fun s hs => h.live s (by rw [← hl]; exact hs), fun s s' b x y h1 h2 => h.liveI s s' b x y (by rw [← hl]; exact h1) (by rw [← hl]; exact h2),
  fun r ks vs hr => h.map r ks vs (by rw [Heap.getM, ← hg]; exact hr), h.cond⟩
/-- One operation that is wanted, whatever stands behind it. -/
theorem oper_sound {P : Program} {C : Cond} {K : Calling} {imp : FuncId → Bool} (hK : KOk P C K imp) {e : List AV} {H : Heap} {g : Gh} {a : Act} {w : World} {o : Oper} {id N : Nat} {r : Sr}
  (h : astep P (aeval e) H id o.op = some r) (hC : g.cond = C) (hi : Inv g H w) (he : EnvRel g w e a.tmps) (ht : Top g H.next) (hf : Fresh g H id) (hN : N ≤ H.next) (hid : N ≤ id) (hidt : id < H.next)
  (hd : ∀ d, o.dst = some d → d < a.tmps.size) {next : Act → World → Prop} {Q : Exit → Act → World → Prop}
  (hval : ∀ v us rs, r = .val v us rs → ∀ g' u w', Past N g w g' (appU H us) w' → (∀ k, k ≠ id → g'.box k = g.box k ∧ g'.own k = g.own k) → EnvRel g' w' (aput e o.dst v) (a.put o.dst u).tmps → next (a.put o.dst u) w')
  (hcall : ∀ f args, r = .call f args → ∃ c, K f args H = some c ∧
   (∀ v H', c = .ret v H' → ∀ g' u w', Past H.next g w g' H' w' → EnvRel g' w' (aput e o.dst v) (a.put o.dst u).tmps → next (a.put o.dst u) w') ∧
   (∀ v H', c = .pan v H' → ∀ g' u w', Past H.next g w g' H' w' → Rel g' w' v u → Q (.panic (oneEntry u)) a w'))
  (hpan : ∀ v, r = .pan v → ∀ u, Rel g w v u → Q (.panic (oneEntry u)) a w) : o.wp P a w next Q := by
 have hs := astep_sound (o := o) (ρ' := a.eval) h hi hf (fun x => he.eval x)
 unfold Oper.wp
 cases r with
 | val v us rs =>
  obtain ⟨g', w', nx, u, h1, h2, h3, h4, h5, h6⟩ := hs
  rw [h1]
  have hp : Past N g w g' (appU H us) w' := by
   refine ⟨h3, h4, ?_, fun r hr => h6 r (by omega), by rw [appU_next]; exact hN⟩
   intro r hr
   rw [appU_next] at hr
   rw [(h6 r (by omega)).1, (h6 r (by omega)).2]
   exact ht r hr
  have hrel : EnvRel g' w' (aput e o.dst v) (a.put o.dst u).tmps := (he.ext h3).put hd h5
  rcases h2 with rfl | ⟨rfl, rfl⟩
  ·exact hval v us rs rfl g' u w' hp h6 hrel
  ·exact hval v us rs rfl g' undef w' hp h6 hrel
 | call f args =>
  obtain ⟨vs, h1, h2⟩ := hs
  obtain ⟨c, hc, hret, hpn⟩ := hcall f args rfl
  obtain ⟨q1, q2⟩ := hK.calls f args H c hc g w vs hC hi ht h2
  rw [h1, q1]
  refine q2.mono fun en w' hpost => ?_
  cases c with
  | ret v H' =>
   obtain ⟨u, g', rfl, hp, hr⟩ := hpost
   exact hret v H' rfl g' u w' hp ((he.ext hp.ext).put hd hr)
  | pan v H' =>
   obtain ⟨u, g', rfl, hp, hr⟩ := hpost
   exact hpn v H' rfl g' u w' hp hr
 | pan v =>
  obtain ⟨u, h1, h2⟩ := hs
  rw [h1]
  exact hpan v rfl u h2
/-- What a piece leaves alone in its own frame: what is deferred, and the slots that it does not write. -/
def KeptL (os : List Oper) (a a' : Act) : Prop := a'.defers = a.defers ∧ ∀ s, os.all (fun o => o.dst != some s) = true → a'.tmps.getD s undef = a.tmps.getD s undef
theorem KeptL.refl (os : List Oper) (a : Act) : KeptL os a a := ⟨rfl, fun _ _ => rfl⟩
theorem getD_put {a : Act} {dst : Option Tmp} {s : Nat} (h : (dst != some s) = true) (v : Value) : (a.put dst v).tmps.getD s undef = a.tmps.getD s undef := by
 cases dst with
 | none => rfl
 | some d =>
  have hd : d ≠ s := by simpa using h
  simp [Act.put, Array.getD_eq_getD_getElem?, Array.getElem?_setIfInBounds_ne hd]
theorem KeptL.cons {o : Oper} {os : List Oper} {a a' : Act} {v : Value} (h : KeptL os (a.put o.dst v) a') : KeptL (o :: os) a a' := by
 refine ⟨h.1.trans (defers_put a o.dst v), fun s hs => ?_⟩
 rw [List.all_cons, Bool.and_eq_true] at hs
 exact (h.2 s hs.2).trans (getD_put hs.1 v)
theorem KeptL.put {os : List Oper} {a a' : Act} (h : KeptL os a a') {o : Oper} (ho : o ∈ os) (v : Value) : KeptL os a (a'.put o.dst v) := by
 refine ⟨(defers_put a' o.dst v).trans h.1, fun s hs => ?_⟩
 exact (getD_put (List.all_eq_true.1 hs o ho) v).trans (h.2 s hs)
theorem runOps_sound {P : Program} {C : Cond} {K : Calling} {imp : FuncId → Bool} (hK : KOk P C K imp) {ops : Array Oper} {base n : Nat} : ∀ (os : List Oper) (i : Nat) (e : List AV) (H : Heap) (ex : Ex) (e' : List AV) (H' : Heap),
  runOps P K ops base os i e H = some (ex, e', H') → os = ops.toList.drop i → (∀ o, o ∈ os → dstOk n o = true) → ∀ (g : Gh) (a : Act) (w : World), g.cond = C → Inv g H w → EnvRel g w e a.tmps → a.tmps.size = n → Top g H.next →
  (∀ j, i ≤ j → j < i + os.length → Fresh g H (base + j)) → base + i + os.length ≤ H.next → ∀ Q : Exit → Act → World → Prop,
  (∀ g' x a' w', Past base g w g' H' w' → KeptL os a a' → a'.tmps.size = n → ExRel g' w' x a' ex e' → Q x a' w') → wpOps P ops Q (List.range' i os.length) a w := by
 intro os
 induction os with
 | nil =>
  intro i e H ex e' H' h _ _ g a w hC hi he hn ht _ hb Q hQ
  simp only [runOps, Option.some.injEq, Prod.mk.injEq] at h
  obtain ⟨rfl, rfl, rfl⟩ := h
  exact hQ g .normal a w ⟨Ext.refl g w, hi, ht, New.refl _ _, by simp at hb; omega⟩ (KeptL.refl _ _) hn ⟨rfl, he⟩
 | cons o os ih =>
  intro i e H ex e' H' h hos hd g a w hC hi he hn ht hf hb Q hQ
  have hoi : ops[i]? = some o := by
   have : (ops.toList.drop i)[0]? = some o := by rw [← hos]; rfl
   simpa using this
  have hos' : os = ops.toList.drop (i + 1) := by
   have : (o :: os).tail = (ops.toList.drop i).tail := by rw [hos]
   simpa using this
  have hlen : (o :: os).length = os.length + 1 := rfl
  rw [hlen] at hf hb ⊢
  rw [List.range'_succ]
  simp only [wpOps, hoi]
  have hdo : ∀ d, o.dst = some d → d < a.tmps.size := by rw [hn]; exact dstOk_spec (hd o (List.mem_cons_self ..))
  have hd' : ∀ o', o' ∈ os → dstOk n o' = true := fun o' ho' => hd o' (List.mem_cons_of_mem _ ho')
  simp only [runOps] at h
  cases hw : aWanted ops e o with
  | none => simp [hw] at h
  | some b =>
   rw [aWanted_sound hw he]
   simp only [hw] at h
   cases b with
   | false =>
    simp only at h
    rw [if_neg (by simp)]
    exact ih (i + 1) _ H ex e' H' h hos' hd' g (a.put o.dst undef) w hC hi (he.put hdo (.tup [] #[] rfl (by simp))) (by rw [size_put]; exact hn) ht
     (fun j h1 h2 => hf j (by omega) (by omega)) (by omega) Q (fun g' x a' w' hp hdf hsz hx => hQ g' x a' w' hp hdf.cons hsz hx)
   | true =>
    simp only at h
    rw [if_pos rfl]
    left
    cases hst : astep P (aeval e) H (base + i) o.op with
    | none => simp [hst] at h
    | some r =>
     simp only [hst] at h
     refine oper_sound hK (N := base) hst hC hi he ht (hf i (Nat.le_refl _) (by omega)) (by omega) (by omega) (by omega) hdo ?_ ?_ ?_
     ·intro v us rs hr g' u w' hp hk hrel
      subst hr
      simp only at h
      refine ih (i + 1) _ (appU H us) ex e' H' h hos' hd' g' (a.put o.dst u) w' (hp.ext.cond.trans hC) hp.inv hrel (by rw [size_put]; exact hn) hp.top ?_ (by rw [appU_next]; omega) Q
       (fun g2 x a' w2 hp2 hdf hsz hx => hQ g2 x a' w2 (hp.trans hp2 (Nat.le_refl _)) hdf.cons hsz hx)
      intro j h1 h2
      obtain ⟨q1, q2, _, _⟩ := hf j (by omega) (by omega)
      have := hk (base + j) (by omega)
      exact hp.inv.fresh_of (by rw [this.1]; exact q1) (by rw [this.2]; exact q2)
     ·intro f args hr
      subst hr
      simp only at h
      cases hc : K f args H with
      | none => simp [hc] at h
      | some c =>
       simp only [hc] at h
       refine ⟨c, rfl, ?_, ?_⟩
       ·intro v H1 hcr g' u w' hp hrel
        subst hcr
        simp only at h
        have hpb : Past base g w g' H1 w' := ⟨hp.ext, hp.inv, hp.top, hp.new.mono (by omega), by have := hp.next; omega⟩
        refine ih (i + 1) _ H1 ex e' H' h hos' hd' g' (a.put o.dst u) w' (hp.ext.cond.trans hC) hp.inv hrel (by rw [size_put]; exact hn) hp.top ?_ (by have := hp.next; omega) Q
         (fun g2 x a' w2 hp2 hdf hsz hx => hQ g2 x a' w2 (hpb.trans hp2 (Nat.le_refl _)) hdf.cons hsz hx)
        intro j h1 h2
        obtain ⟨q1, q2, _, _⟩ := hf j (by omega) (by omega)
        have := hp.new (base + j) (by omega)
        exact hp.inv.fresh_of (by rw [this.1]; exact q1) (by rw [this.2]; exact q2)
       ·intro v H1 hcr g' u w' hp hrel
        subst hcr
        simp only [Option.some.injEq, Prod.mk.injEq] at h
        obtain ⟨rfl, rfl, rfl⟩ := h
        exact hQ g' _ a w' ⟨hp.ext, hp.inv, hp.top, hp.new.mono (by omega), by have := hp.next; omega⟩ (KeptL.refl _ _) hn ⟨u, rfl, hrel⟩
     ·intro v hr u hrel
      subst hr
      simp only [Option.some.injEq, Prod.mk.injEq] at h
      obtain ⟨rfl, rfl, rfl⟩ := h
      exact hQ g _ a w ⟨Ext.refl g w, hi, ht, New.refl _ _, by omega⟩ (KeptL.refl _ _) hn ⟨u, rfl, hrel⟩
end Go.Proofs.YtghhkbigmmjanaaGreatDoor.VA

/-! Vb4 -/
namespace Go.Proofs.YtghhkbigmmjanaaGreatDoor.VA
open Go Go.RowKit

/-! ### which operations wait for which -/
theorem testBit_foldl (acc : Array Nat) (j : Nat) : ∀ (l : List Edge) (s : Nat),
  (l.foldl (fun s e => if Region.binds .any e = true then s ||| 2 ^ e.on ||| acc.getD e.on 0 else s) s).testBit j = true →
   s.testBit j = true ∨ ∃ e, e ∈ l ∧ Region.binds .any e = true ∧ (e.on = j ∨ (acc.getD e.on 0).testBit j = true)
 | [], s, h => .inl h
 | e :: l, s, h => by
  simp only [List.foldl_cons] at h
  rcases testBit_foldl acc j l _ h with h1 | ⟨e', h1, h2⟩
  ·split at h1
   ·rename_i hb
    simp only [Nat.testBit_or, Bool.or_eq_true, Nat.testBit_two_pow, decide_eq_true_eq] at h1
    rcases h1 with (h1 | h1) | h1
    ·exact .inl h1
    ·exact .inr ⟨e, List.mem_cons_self .., hb, .inl h1⟩
    ·exact .inr ⟨e, List.mem_cons_self .., hb, .inr h1⟩
   ·exact .inl h1
  ·exact .inr ⟨e', List.mem_cons_of_mem _ h1, h2⟩
/-- Whatever is done, what it waits for is done. -/
def Shut (ops : Array Oper) (S : Nat → Bool) : Prop := ∀ i o, ops[i]? = some o → S i = true → ∀ e, e ∈ o.after → Region.binds .any e = true → S e.on = true
theorem anc_shut {ops : Array Oper} {S : Nat → Bool} (hS : Shut ops S) {i j : Nat} {o : Oper} (ho : ops[i]? = some o) (hp : ∀ e, e ∈ o.after → Region.binds .any e = true → S e.on = true)
  (h : anc ops j i = true) : S j = true := by
 unfold anc Region.before at h
 rw [← Array.foldl_toList] at h
 have key : ∀ (l : List Oper) (m : Nat) (acc : Array Nat), acc.size = m → (∀ k, l[k]? = ops[m + k]?) →
   (∀ i o, i < m → ops[i]? = some o → ∀ j, (acc.getD i 0).testBit j = true → (∀ e, e ∈ o.after → Region.binds .any e = true → S e.on = true) → S j = true) →
   (∀ i o, i < m + l.length → ops[i]? = some o → ∀ j, ((l.foldl (fun acc o =>
    acc.push (o.after.foldl (fun s e => if Region.binds .any e = true then s ||| 2 ^ e.on ||| acc.getD e.on 0 else s) 0)) acc).getD i 0).testBit j = true →
     (∀ e, e ∈ o.after → Region.binds .any e = true → S e.on = true) → S j = true) := by
  intro l
  induction l with
  | nil => intro m acc hs _ hacc i o hi ho; exact hacc i o (by simpa using hi) ho
  | cons o l ih =>
   intro m acc hs hl hacc
   simp only [List.foldl_cons]
   have := ih (m + 1) (acc.push (o.after.foldl (fun s e => if Region.binds .any e = true then s ||| 2 ^ e.on ||| acc.getD e.on 0 else s) 0)) (by simp [hs])
    (fun k => by have := hl (k + 1); rw [List.getElem?_cons_succ] at this; rw [this]; congr 1; omega) ?_
   ·intro i o' hi
    exact this i o' (by simp at hi ⊢; omega)
   ·intro i o' hi ho' j hj hp
    by_cases him : i < m
    ·refine hacc i o' him ho' j ?_ hp
     simp only [Array.getD_eq_getD_getElem?] at hj ⊢
     rwa [Array.getElem?_push_lt (by omega), ← Array.getElem?_eq_getElem] at hj
    ·have hime : i = m := by omega
     subst hime
     have hoo : o' = o := by
      have := hl 0
      simp only [List.getElem?_cons_zero, Nat.add_zero] at this
      rw [ho'] at this
      exact (Option.some.inj this).symm
     subst hoo
     simp only [Array.getD_eq_getD_getElem?] at hj
     rw [← hs, Array.getElem?_push_size] at hj
     simp only [Option.getD_some] at hj
     rw [← Array.foldl_toList] at hj
     rcases testBit_foldl acc j o'.after.toList 0 (by simpa using hj) with h1 | ⟨e, h1, h2, h3⟩
     ·simp at h1
     ·have hse := hp e (by simpa using h1) h2
      rcases h3 with h3 | h3
      ·rw [← h3]; exact hse
      ·by_cases hlt : e.on < i
       ·cases hoe : ops[e.on]? with
        | none =>
         exfalso
         have h4 : ops.size ≤ e.on := by simpa using hoe
         have h5 := (Array.getElem?_eq_some_iff.1 ho').1
         omega
        | some oe => exact hacc e.on oe hlt hoe j h3 (hS e.on oe hoe hse)
       ·rw [Array.getD_eq_getD_getElem?, Array.getElem?_eq_none (by omega)] at h3
        simp at h3
 have hi := (Array.getElem?_eq_some_iff.1 ho).1
 exact key ops.toList 0 #[] rfl (fun k => by simp) (fun i o hi => by omega) i o (by simpa using hi) ho j h hp
def drawOk (ops : Array Oper) : Bool :=
 (List.range ops.size).all fun j =>
  ((ops.getD j default).after.all fun e => !Region.binds .any e || decide (e.on < j)) &&
  (List.range j).all fun i => anc ops i j || (ops.getD i default).apart ops (ops.getD j default)

/-! ### the states on the way -/
def putT (o : Oper) (t : Tr) (e : List AV) : List AV :=
 match t with
 | .val v _ _ | .call v _ _ => aput e o.dst v
 | _ => e
def appT (t : Tr) (H : Heap) : Heap :=
 match t with
 | .val _ us _ => appU H us
 | .call _ _ Ha => Ha
 | _ => H
def eAt (op : Nat → Oper) (t : Nat → Tr) (S : Nat → Bool) (e : List AV) : Nat → List AV
 | 0 => e
 | n + 1 => if S n = true then putT (op n) (t n) (eAt op t S e n) else eAt op t S e n
def hAt (t : Nat → Tr) (S : Nat → Bool) (H : Heap) : Nat → Heap
 | 0 => H
 | n + 1 => if S n = true then appT (t n) (hAt t S H n) else hAt t S H n
def full : Nat → Bool := fun _ => true
def upTo (i : Nat) : Nat → Bool := fun j => decide (j < i)
theorem full_eq (n : Nat) : full n = true := rfl
theorem upTo_lt {i n : Nat} (h : n < i) : upTo i n = true := decide_eq_true h
theorem upTo_ge {i n : Nat} (h : i ≤ n) : ¬ upTo i n = true := by simp [upTo]; omega
theorem gget_aput (e : List AV) (dst : Option Tmp) (v : AV) (s : Nat) : gget .bad (aput e dst v) s = if dst = some s then v else gget .bad e s := by
 cases dst with
 | none => simp [aput]
 | some d => simp [aput, gget_gset]
theorem gget_putT (o : Oper) (t : Tr) (e : List AV) (s : Nat) (h : o.dst ≠ some s) : gget .bad (putT o t e) s = gget .bad e s := by
 cases t <;> simp [putT, gget_aput, h]
theorem gget_putT_congr (o : Oper) (t : Tr) (e e' : List AV) (s : Nat) (h : gget .bad e s = gget .bad e' s) : gget .bad (putT o t e) s = gget .bad (putT o t e') s := by
 cases t <;> simp [putT, gget_aput, h]
theorem eAt_congr {op : Nat → Oper} {t : Nat → Tr} {e : List AV} {S S' : Nat → Bool} {s : Nat} : ∀ (n : Nat), (∀ j, j < n → (op j).dst = some s → S j = S' j) → gget .bad (eAt op t S e n) s = gget .bad (eAt op t S' e n) s
 | 0, _ => rfl
 | n + 1, h => by
  have ih := eAt_congr (op := op) (t := t) (e := e) (S := S) (S' := S') (s := s) n (fun j hj => h j (by omega))
  simp only [eAt]
  by_cases hd : (op n).dst = some s
  ·rw [h n (by omega) hd]
   split
   ·exact gget_putT_congr _ _ _ _ _ ih
   ·exact ih
  ·split <;> split <;> simp [gget_putT _ _ _ _ hd, ih]
theorem eAt_last {op : Nat → Oper} {t : Nat → Tr} {e : List AV} {S : Nat → Bool} {s i : Nat} {v : AV} (hi : S i = true) (hd : (op i).dst = some s) (hv : ∀ e', gget .bad (putT (op i) (t i) e') s = v) :
  ∀ (n : Nat), i < n → (∀ j, i < j → j < n → S j = true → (op j).dst ≠ some s) → gget .bad (eAt op t S e n) s = v
 | 0, h, _ => by omega
 | n + 1, h, hl => by
  simp only [eAt]
  by_cases hin : i = n
  ·subst hin; rw [if_pos hi]; exact hv _
  ·have ih := eAt_last (e := e) hi hd hv n (by omega) (fun j h1 h2 => hl j h1 (by omega))
   split
   ·rename_i hs
    rw [gget_putT _ _ _ _ (hl n (by omega) (by omega) hs)]
    exact ih
   ·exact ih
theorem eAt_upTo {op : Nat → Oper} {t : Nat → Tr} {e : List AV} {i : Nat} : ∀ (n : Nat), i ≤ n → eAt op t (upTo i) e n = eAt op t full e i := by
 have low : ∀ n, n ≤ i → eAt op t (upTo i) e n = eAt op t full e n := by
  intro n
  induction n with
  | zero => intro _; rfl
  | succ n ih =>
   intro hn
   simp only [eAt]
   rw [if_pos (upTo_lt (by omega)), if_pos (full_eq n), ih (by omega)]
 intro n
 induction n with
 | zero =>
  intro h
  obtain rfl : i = 0 := by omega
  rfl
 | succ n ih =>
  intro h
  by_cases hin : i = n + 1
  ·subst hin; exact low _ (Nat.le_refl _)
  ·simp only [eAt]
   rw [if_neg (upTo_ge (by omega))]
   exact ih (by omega)
theorem eAt_all {op : Nat → Oper} {t : Nat → Tr} {e : List AV} {S : Nat → Bool} : ∀ (n : Nat), (∀ j, j < n → S j = true) → eAt op t S e n = eAt op t full e n
 | 0, _ => rfl
 | n + 1, h => by simp only [eAt]; rw [if_pos (h n (by omega)), if_pos (full_eq n), eAt_all n (fun j hj => h j (by omega))]

/-! ### memory on the way -/
def obs (H : Heap) (k : Nat) : Option HO × Bool := (H.ho k, H.isLive k)
def loud : Tr → Bool
 | .val _ us _ => !us.isEmpty
 | .call _ _ _ => true
 | _ => false
theorem obs_app_other (H : Heap) (u : U) (k : Nat) (h : u.key ≠ k) : obs (u.app H) k = obs H k := by
 cases u <;> simp_all [obs, U.app, U.key, Heap.put, Heap.putM, Heap.set, Heap.setLive, Heap.isLive]
theorem obs_app_congr (H H' : Heap) (u : U) (k : Nat) (h : obs H k = obs H' k) : obs (u.app H) k = obs (u.app H') k := by
 simp only [obs, Prod.mk.injEq] at h
 cases u <;> simp_all [obs, U.app, Heap.put, Heap.putM, Heap.set, Heap.setLive, Heap.isLive]
theorem obs_appU_other (us : List U) : ∀ (H : Heap) (k : Nat), (∀ u, u ∈ us → u.key ≠ k) → obs (appU H us) k = obs H k := by
 induction us with
 | nil => intro H k _; rfl
 | cons u us ih =>
  intro H k h
  simp only [appU]
  rw [ih _ _ (fun u' hu => h u' (List.mem_cons_of_mem _ hu)), obs_app_other _ _ _ (h u (List.mem_cons_self ..))]
theorem obs_appU_congr (us : List U) : ∀ (H H' : Heap) (k : Nat), obs H k = obs H' k → obs (appU H us) k = obs (appU H' us) k := by
 induction us with
 | nil => intro H H' k h; exact h
 | cons u us ih => intro H H' k h; exact ih _ _ _ (obs_app_congr _ _ _ _ h)
/-- Where a call is done, all that was loud ahead of it is. -/
def CL (t : Nat → Tr) (S : Nat → Bool) (n : Nat) : Prop := ∀ i v Hb Ha, i < n → t i = .call v Hb Ha → S i = true → ∀ j, j < i → loud (t j) = true → S j = true
theorem hAt_congr {t : Nat → Tr} {H : Heap} {k : Nat} : ∀ (n : Nat) (S S' : Nat → Bool), CL t S n → CL t S' n →
  (∀ i v Hb Ha, i < n → t i = .call v Hb Ha → Hb = hAt t full H i) →
  (∀ j v us rs, j < n → t j = .val v us rs → (∃ u, u ∈ us ∧ u.key = k) → S j = S' j) → (∀ j v Hb Ha, j < n → t j = .call v Hb Ha → S j = S' j ∨ obs Hb k = obs Ha k) →
  obs (hAt t S H n) k = obs (hAt t S' H n) k := by
 intro n
 induction n with
 | zero => intro S S' _ _ _ _ _; rfl
 | succ n ih =>
  intro S S' hS hS' hG hv hc
  have cl : ∀ {S : Nat → Bool}, CL t S (n + 1) → CL t S n := fun h i v Hb Ha hi => h i v Hb Ha (by omega)
  have hih := ih S S' (cl hS) (cl hS') (fun i v Hb Ha hi => hG i v Hb Ha (by omega)) (fun j v us rs hj => hv j v us rs (by omega)) (fun j v Hb Ha hj => hc j v Hb Ha (by omega))
  simp only [hAt]
  cases ht : t n with
  | val v us rs =>
   by_cases hk : ∃ u, u ∈ us ∧ u.key = k
   ·rw [hv n v us rs (by omega) ht hk]
    split
    ·exact obs_appU_congr us _ _ _ hih
    ·exact hih
   ·have hne : ∀ u, u ∈ us → u.key ≠ k := fun u hu he => hk ⟨u, hu, he⟩
    split <;> split <;> simp [appT, obs_appU_other us _ _ hne, hih]
  | call v Hb Ha =>
   -- one has the call done, the other not: the call keeps k
   have one : ∀ (A B : Nat → Bool), CL t A (n + 1) → CL t B (n + 1) → A n = true → obs Hb k = obs Ha k →
     (∀ j v us rs, j < n + 1 → t j = .val v us rs → (∃ u, u ∈ us ∧ u.key = k) → A j = B j) → (∀ j v Hb Ha, j < n + 1 → t j = .call v Hb Ha → A j = B j ∨ obs Hb k = obs Ha k) →
     obs Ha k = obs (hAt t B H n) k := by
    intro A B hA hB hAn hkeep hv hc
    rw [← hkeep, hG n v Hb Ha (by omega) ht]
    refine ih full B (fun i v Hb Ha _ _ _ j _ _ => rfl) (cl hB) (fun i v Hb Ha hi => hG i v Hb Ha (by omega)) ?_ ?_
    ·intro j v' us rs hj htj hu
     have hAj : A j = true := hA n v Hb Ha (by omega) ht hAn j hj (by
      rw [htj]
      obtain ⟨u, hu, _⟩ := hu
      cases us with
      | nil => cases hu
      | cons _ _ => rfl)
     rw [← hv j v' us rs (by omega) htj hu, hAj]
     rfl
    ·intro j v' Hb' Ha' hj htj
     have hAj : A j = true := hA n v Hb Ha (by omega) ht hAn j hj (by rw [htj]; rfl)
     rcases hc j v' Hb' Ha' (by omega) htj with h | h
     ·exact .inl (by rw [← h, hAj]; rfl)
     ·exact .inr h
   rcases hc n v Hb Ha (by omega) ht with hss | hkeep
   ·rw [hss]
    split
    ·rfl
    ·exact hih
   ·cases h1 : S n <;> cases h2 : S' n
    ·simpa using hih
    ·simp only [Bool.false_eq_true, if_false, if_true, appT]
     exact (one S' S hS' hS h2 hkeep (fun j v us rs hj h3 h4 => (hv j v us rs hj h3 h4).symm) (fun j v Hb Ha hj h3 => (hc j v Hb Ha hj h3).imp Eq.symm (fun h => h))).symm
    ·simp only [Bool.false_eq_true, if_false, if_true, appT]
     exact one S S' hS hS' h1 hkeep hv hc
    ·rfl
  | pan => split <;> split <;> exact hih
  | dead => split <;> split <;> exact hih
theorem hAt_next {t : Nat → Tr} {H : Heap} {S S' : Nat → Bool} : ∀ (n : Nat), (∀ j v Hb Ha, j < n → t j = .call v Hb Ha → S j = S' j) → (hAt t S H n).next = (hAt t S' H n).next
 | 0, _ => rfl
 | n + 1, h => by
  have ih := hAt_next (H := H) (S := S) (S' := S') n (fun j v Hb Ha hj => h j v Hb Ha (by omega))
  simp only [hAt]
  cases ht : t n with
  | val v us rs => split <;> split <;> simp [appT, appU_next, ih]
  | call v Hb Ha => rw [h n v Hb Ha (by omega) ht]; split <;> first | rfl | exact ih
  | pan => split <;> split <;> exact ih
  | dead => split <;> split <;> exact ih
/-- The very memory, where all that is loud agrees. -/
theorem hAt_eq {t : Nat → Tr} {H : Heap} {S S' : Nat → Bool} : ∀ (n : Nat), (∀ j, j < n → loud (t j) = true → S j = S' j) → hAt t S H n = hAt t S' H n
 | 0, _ => rfl
 | n + 1, h => by
  have ih := hAt_eq (H := H) (S := S) (S' := S') n (fun j hj => h j (by omega))
  simp only [hAt]
  by_cases hl : loud (t n) = true
  ·rw [h n (by omega) hl, ih]
  ·have hid : ∀ H', appT (t n) H' = H' := by
    intro H'
    cases ht : t n with
    | val v us rs =>
     rw [ht] at hl
     cases us with
     | nil => rfl
     | cons _ _ => exact absurd rfl hl
    | call v Hb Ha => rw [ht] at hl; exact absurd rfl hl
    | pan => rfl
    | dead => rfl
   simp only [hid, ite_self]
   exact ih
theorem hAt_upTo {t : Nat → Tr} {H : Heap} {i : Nat} : ∀ (n : Nat), i ≤ n → hAt t (upTo i) H n = hAt t full H i := by
 have low : ∀ n, n ≤ i → hAt t (upTo i) H n = hAt t full H n := by
  intro n
  induction n with
  | zero => intro _; rfl
  | succ n ih =>
   intro hn
   simp only [hAt]
   rw [if_pos (upTo_lt (by omega)), if_pos (full_eq n), ih (by omega)]
 intro n
 induction n with
 | zero =>
  intro h
  obtain rfl : i = 0 := by omega
  rfl
 | succ n ih =>
  intro h
  by_cases hin : i = n + 1
  ·subst hin; exact low _ (Nat.le_refl _)
  ·simp only [hAt]
   rw [if_neg (upTo_ge (by omega))]
   exact ih (by omega)
end Go.Proofs.YtghhkbigmmjanaaGreatDoor.VA

/-! Vb5 -/
namespace Go.Proofs.YtghhkbigmmjanaaGreatDoor.VA
open Go Go.RowKit
set_option linter.unusedSimpArgs false

theorem map_parts {ρ ρ' : Operand → AV} (ps : Array (Nat × Operand)) (h : ∀ x, x ∈ ps.toList.map (·.2) → ρ x = ρ' x) :
  ps.toList.map (fun p => (p.1, ρ p.2)) = ps.toList.map (fun p => (p.1, ρ' p.2)) :=
 List.map_congr_left fun p hp => by rw [h p.2 (List.mem_map.2 ⟨p, hp, rfl⟩)]
theorem aPure_congr {P : Program} {ρ ρ' : Operand → AV} {op : Op} (h : ∀ x, x ∈ op.operands → ρ x = ρ' x) : aPure P ρ op = aPure P ρ' op := by
 cases op <;> simp only [Op.operands] at h <;> simp only [aPure]
 case move x => rw [h x (by simp)]
 case assign x => rw [h x (by simp)]
 case pick c a b => rw [h c (by simp), h a (by simp), h b (by simp)]
 case build t ps => rw [map_parts ps (fun x hx => h x (by simpa using hx))]
 case nilCheck x => rw [h x (by simp)]
 case binOp op xt x y yt => rw [h x (by simp), h y (by simp)]
 case unOp op xt x => rw [h x (by simp)]
 case convert s d x => rw [h x (by simp)]
 case makeInterface t x => rw [h x (by simp)]
 case makeFunc fn first caps =>
  cases fn <;> simp only [aPure]
  rw [List.map_congr_left (fun x hx => h x (by simp; exact .inr (by simpa using hx)))]
 case slice t x lo hi mx =>
  cases mx <;> simp only [aPure]
  rw [h x (by simp)]
  have h1 : lo.map ρ = lo.map ρ' := by cases lo <;> simp_all
  have h2 : hi.map ρ = hi.map ρ' := by cases hi <;> simp_all
  rw [h1, h2]
 case fieldAddr t x k => rw [h x (by simp)]
 case field t x k => rw [h x (by simp)]
 case indexAddr t x i => rw [h x (by simp), h i (by simp)]
 case index t x i => rw [h x (by simp), h i (by simp)]
 case extract x i => rw [h x (by simp)]
 case call c =>
  obtain ⟨callee, args, argTypes⟩ := c
  have hargs : ∀ x, x ∈ args.toList → ρ x = ρ' x := fun x hx => h x (by simp [Call.operands]; exact .inr (by simpa using hx))
  cases callee <;> (try simp only [aPure])
  rename_i b
  cases b <;> (try simp only [aPure])
  case len =>
   split <;> simp_all
  case min =>
   split <;> simp_all
  case max =>
   split <;> simp_all
theorem astep_congr {P : Program} {ρ ρ' : Operand → AV} {H : Heap} {id : Nat} {op : Op} (h : ∀ x, x ∈ op.operands → ρ x = ρ' x) : astep P ρ H id op = astep P ρ' H id op := by
 have hp := aPure_congr (P := P) h
 cases op <;> simp only [Op.operands] at h <;> simp only [astep] <;> try rw [hp]
 case box t x => rw [h x (by simp)]
 case buildSlice t n ps => rw [map_parts ps (fun x hx => h x (by simpa using hx))]
 case load t x => rw [h x (by simp)]
 case store t x v => rw [h x (by simp), h v (by simp)]
 case panic x => rw [h x (by simp)]
 case makeMap t n => cases n <;> simp only [astep]; rw [hp]
 case insert t m k v => rw [h m (by simp), h k (by simp), h v (by simp)]
 case mapUpdate t m k v => rw [h m (by simp), h k (by simp), h v (by simp)]
 case lookup t m k ok => rw [h m (by simp), h k (by simp)]
 case call c =>
  obtain ⟨callee, args, argTypes⟩ := c
  have hargs : ∀ x, x ∈ args.toList → ρ x = ρ' x := fun x hx => h x (by simp [Call.operands]; exact .inr (by simpa using hx))
  cases callee
  case value f =>
   have hf : ρ f = ρ' f := h f (by simp [Call.operands])
   simp only [astep]
   rw [hf, List.map_congr_left hargs]
  case builtin b =>
   cases b <;> (try simp only [astep]) <;> (try rw [hp])
   case append =>
    split <;> simp_all
  case invoke r m => simp only [astep]; rw [hp]
theorem aLoad_congr {P : Program} {t : TypeId} {x z : AV} {H H' : Heap} {rs : List Nat} (h : aLoad P t x H = some (z, rs)) (hk : ∀ k, k ∈ rs → H'.get k = H.get k) : aLoad P t x H' = some (z, rs) := by
 unfold aLoad at h ⊢
 split at h
 ·rename_i ha
  try simp only [ha]
  split at h
  ·rename_i n r off hs
   try simp only [hs]
   split at h
   ·rename_i cs hcs
    split at h
    ·rename_i hle
     simp only [Option.some.injEq, Prod.mk.injEq] at h
     obtain ⟨rfl, rfl⟩ := h
     simp only [hk r (by simp), hcs, if_pos hle]
    ·cases h
   ·cases h
  ·rename_i n cs hs
   try simp only [hs]
   exact h
  ·cases h
 ·rename_i ha
  try simp only [ha]
  split at h
  ·rename_i r off
   split at h
   ·rename_i cs hcs
    split at h
    ·rename_i v hv
     simp only [Option.some.injEq, Prod.mk.injEq] at h
     obtain ⟨rfl, rfl⟩ := h
     simp only [hk r (by simp), hcs, hv]
    ·cases h
   ·cases h
  ·exact h
  ·cases h
 ·cases h
theorem aStore_congr {P : Program} {t : TypeId} {x z : AV} {H H' : Heap} {us : List U} (h : aStore P t x z H = some us) (hk : ∀ u, u ∈ us → H'.get u.key = H.get u.key) : aStore P t x z H' = some us := by
 unfold aStore at h ⊢
 split at h
 ·rename_i n r off hs
  try simp only [hs]
  split at h
  ·rename_i cs hcs
   split at h
   ·rename_i hle
    simp only [Option.some.injEq] at h
    have hr : H'.get r = H.get r := hk (.box r _) (by rw [← h]; exact List.mem_cons_self ..)
    simp only [hr, hcs, if_pos hle, h]
   ·cases h
  ·cases h
 ·cases h
theorem aAppend_congr {P : Program} {t : TypeId} {s x z : AV} {H H' : Heap} {us : List U} {rs : List Nat} {id : Nat} (h : aAppend P t s x H id = some (z, us, rs)) (hk : ∀ k, k ∈ rs → H'.isLive k = H.isLive k) :
  aAppend P t s x H' id = some (z, us, rs) := by
 unfold aAppend at h ⊢
 split at h
 ·rename_i e sz by_ o es ox xs het
  try simp only [het]
  split at h
  ·exact h
  ·rename_i x0 xs'
   split at h
   ·rename_i hc
    try simp only [if_pos hc]
    split at h
    ·exact h
    ·exact h
    ·rename_i k e' sz'
     split at h
     ·rename_i hl
      simp only [Option.some.injEq, Prod.mk.injEq] at h
      have := hk k (by rw [← h.2.2]; simp)
      rw [if_pos (by rw [this]; exact hl)]
      simp only [h.1, h.2.1, h.2.2]
     ·cases h
    ·cases h
   ·cases h
 ·cases h
theorem aLookup_congr {P : Program} {t : TypeId} {m k z : AV} {ok : Bool} {H H' : Heap} {rs : List Nat} (h : aLookup P t m k ok H = some (z, rs)) (hk : ∀ i, i ∈ rs → H'.ho i = H.ho i) : aLookup P t m k ok H' = some (z, rs) := by
 unfold aLookup at h ⊢
 split at h
 ·rename_i d e r hty
  try simp only [hty]
  have hr : H'.getM r = H.getM r := by
   rw [Heap.getM, Heap.getM, hk r]
   split at h
   ·split at h
    ·split at h
     ·obtain ⟨v, _, hv⟩ := Option.map_eq_some_iff.1 h
      simp only [Prod.mk.injEq] at hv
      rw [← hv.2]; simp
     ·obtain ⟨v, _, hv⟩ := Option.map_eq_some_iff.1 h
      simp only [Prod.mk.injEq] at hv
      rw [← hv.2]; simp
     ·cases h
    ·cases h
   ·cases h
  rw [hr]; exact h
 ·cases h
theorem aMapSet_congr {P : Program} {t : TypeId} {m k v : AV} {H H' : Heap} {us : List U} (h : aMapSet P t m k v H = some us) (hk : ∀ u, u ∈ us → H'.ho u.key = H.ho u.key) : aMapSet P t m k v H' = some us := by
 unfold aMapSet at h ⊢
 split at h
 ·rename_i d e r hty
  try simp only [hty]
  have hr : H'.getM r = H.getM r := by
   rw [Heap.getM, Heap.getM]
   split at h
   ·split at h
    ·split at h
     ·simp only [Option.some.injEq] at h
      have := hk _ (by rw [← h]; exact List.mem_cons_self ..)
      simp only [U.key] at this; rw [this]
     ·simp only [Option.some.injEq] at h
      have := hk _ (by rw [← h]; exact List.mem_cons_self ..)
      simp only [U.key] at this; rw [this]
     ·cases h
    ·cases h
   ·cases h
  rw [hr]; exact h
 ·cases h
def Sr.keys : Sr → List Nat
 | .val _ us rs => rs ++ us.map U.key
 | _ => []
theorem astep_heap {P : Program} {ρ : Operand → AV} {H H' : Heap} {id : Nat} {op : Op} {r : Sr} (h : astep P ρ H id op = some r) (hk : ∀ k, k ∈ r.keys → obs H' k = obs H k) : astep P ρ H' id op = some r := by
 have ho : ∀ k, k ∈ r.keys → H'.ho k = H.ho k := fun k hkk => by have := hk k hkk; simp only [obs, Prod.mk.injEq] at this; exact this.1
 have hg : ∀ k, k ∈ r.keys → H'.get k = H.get k := fun k hkk => by rw [Heap.get, Heap.get, ho k hkk]
 have hl : ∀ k, k ∈ r.keys → H'.isLive k = H.isLive k := fun k hkk => by have := hk k hkk; simp only [obs, Prod.mk.injEq] at this; exact this.2
 cases op <;> simp only [astep] at h ⊢ <;> try exact h
 case load t x =>
  cases hb : aLoad P t (ρ x) H with
  | none => simp [hb] at h
  | some p =>
   obtain ⟨v, rs⟩ := p
   simp [hb] at h
   subst h
   rw [aLoad_congr hb (fun k hkk => hg k (by simp [Sr.keys, hkk]))]
   rfl
 case store t x v =>
  cases hb : aStore P t (ρ x) (ρ v) H with
  | none => simp [hb] at h
  | some us =>
   simp [hb] at h
   subst h
   rw [aStore_congr hb (fun u hu => hg u.key (by simp [Sr.keys]; exact ⟨u, hu, rfl⟩))]
   rfl
 case makeMap t n => cases n <;> simp only [astep] at h ⊢ <;> exact h
 case insert t m k v =>
  cases hb : aMapSet P t (ρ m) (ρ k) (ρ v) H with
  | none => simp [hb] at h
  | some us =>
   simp [hb] at h
   subst h
   rw [aMapSet_congr hb (fun u hu => ho u.key (by simp [Sr.keys]; exact ⟨u, hu, rfl⟩))]
   rfl
 case mapUpdate t m k v =>
  cases hb : aMapSet P t (ρ m) (ρ k) (ρ v) H with
  | none => simp [hb] at h
  | some us =>
   simp [hb] at h
   subst h
   rw [aMapSet_congr hb (fun u hu => ho u.key (by simp [Sr.keys]; exact ⟨u, hu, rfl⟩))]
   rfl
 case lookup t m k ok =>
  cases hb : aLookup P t (ρ m) (ρ k) ok H with
  | none => simp [hb] at h
  | some p =>
   obtain ⟨v, rs⟩ := p
   simp [hb] at h
   subst h
   rw [aLookup_congr hb (fun k hkk => ho k (by simp [Sr.keys, hkk]))]
   rfl
 case call c =>
  obtain ⟨callee, args, argTypes⟩ := c
  cases callee <;> (try simp only [astep] at h ⊢) <;> (try exact h)
  rename_i b
  cases b <;> (try simp only [astep] at h ⊢) <;> (try exact h)
  split at h
  ·rename_i s x t t' hargs hts
   try simp only [hargs, hts]
   split at h
   ·rename_i htt
    try rw [if_pos htt]
    cases hb : aAppend P t (ρ s) (ρ x) H id with
    | none => simp [hb] at h
    | some p =>
     obtain ⟨v, us, rs⟩ := p
     simp [hb] at h
     subst h
     rw [aAppend_congr hb (fun k hkk => hl k (by simp [Sr.keys, hkk]))]
     rfl
   ·cases h
  ·cases h
theorem aWanted_congr {ops : Array Oper} {e e' : List AV} {o : Oper} (h : ∀ d, d ∈ o.looksAt ops → gget .bad e' d = gget .bad e d) : aWanted ops e' o = aWanted ops e o := by
 unfold aWanted
 cases hg : o.guard with
 | none => rfl
 | some p =>
  obtain ⟨j, want⟩ := p
  simp only
  cases hd : (ops[j]?).bind (·.dst) with
  | none => rfl
  | some d => simp only; rw [h d (by simp [Oper.looksAt, hg, hd])]
theorem aeval_congr {ops : Array Oper} {e e' : List AV} {o : Oper} (h : ∀ d, d ∈ o.looksAt ops → gget .bad e' d = gget .bad e d) (x : Operand) (hx : x ∈ o.op.operands) : aeval e' x = aeval e x := by
 cases x with
 | tmp t =>
  refine h t ?_
  unfold Oper.looksAt
  exact List.mem_append_left _ (List.mem_filterMap.2 ⟨.tmp t, by simpa using hx, rfl⟩)
 | _ => rfl
/-- What is known of operation number i. -/
def Spec (P : Program) (K : Calling) (imp : FuncId → Bool) (ops : Array Oper) (base : Nat) (o : Oper) (i : Nat) (L : List AV) (G : Heap) (pk : Option (Nat × AV × Heap)) : Tr → Prop
 | .dead => ∃ k x, pk = some (k, x) ∧ anc ops k i = true
 | .pan => ∃ v Hp, pk = some (i, v, Hp) ∧ aWanted ops L o = some true ∧
   ((astep P (aeval L) G (base + i) o.op = some (.pan v) ∧ Hp = G) ∨ ∃ f args, astep P (aeval L) G (base + i) o.op = some (.call f args) ∧ imp f = true ∧ K f args G = some (.pan v Hp))
 | .val v us rs => (aWanted ops L o = some false ∧ v = .tup [] ∧ us = [] ∧ rs = []) ∨ (aWanted ops L o = some true ∧ (astep P (aeval L) G (base + i) o.op = some (.val v us rs) ∨
   ∃ f args H', astep P (aeval L) G (base + i) o.op = some (.call f args) ∧ imp f = false ∧ K f args G = some (.ret v H') ∧ us = [] ∧ rs = []))
 | .call v Hb Ha => aWanted ops L o = some true ∧ Hb = G ∧ ∃ f args, astep P (aeval L) G (base + i) o.op = some (.call f args) ∧ imp f = true ∧ K f args G = some (.ret v Ha)
theorem runTr_spec {P : Program} {K : Calling} {imp : FuncId → Bool} {ops : Array Oper} {base : Nat} {op : Nat → Oper} {t : Nat → Tr} {e0 : List AV} {H0 : Heap} (hop : ∀ j o, ops[j]? = some o → op j = o) :
  ∀ (os : List Oper) (i : Nat) (pk : Option (Nat × AV × Heap)) (e : List AV) (H : Heap) (tr : List Tr) (pk' : Option (Nat × AV × Heap)) (e' : List AV) (H' : Heap),
  runTr P K imp ops base os i pk e H = some (tr, pk', e', H') → os = ops.toList.drop i → (∀ j, j < os.length → t (i + j) = tr.getD j .dead) → e = eAt op t full e0 i → H = hAt t full H0 i →
  (∀ k x, pk = some (k, x) → k < i) →
  (∀ j, i ≤ j → j < i + os.length → Spec P K imp ops base (op j) j (eAt op t full e0 j) (hAt t full H0 j) pk' (t j) ∧ (∀ k x, pk' = some (k, x) → k < j → loud (t j) = false)) ∧
   e' = eAt op t full e0 (i + os.length) ∧ H' = hAt t full H0 (i + os.length) ∧ (∀ x, pk = some x → pk' = some x) ∧
   (∀ k x, pk' = some (k, x) → pk = some (k, x) ∨ (i ≤ k ∧ k < i + os.length ∧ t k = .pan)) := by
 intro os
 induction os with
 | nil =>
  intro i pk e H tr pk' e' H' h _ _ he hH _
  simp only [runTr, Option.some.injEq, Prod.mk.injEq] at h
  obtain ⟨rfl, rfl, rfl, rfl⟩ := h
  exact ⟨fun j h1 h2 => absurd h2 (by simp; omega), by simpa using he, by simpa using hH, fun x h => h, fun k x h => .inl h⟩
 | cons o os ih =>
  intro i pk e H tr pk' e' H' h hos ht he hH hpk
  have hoi : op i = o := by
   refine hop i o ?_
   have : (ops.toList.drop i)[0]? = some o := by rw [← hos]; rfl
   simpa using this
  have hos' : os = ops.toList.drop (i + 1) := by
   have : (o :: os).tail = (ops.toList.drop i).tail := by rw [hos]
   simpa using this
  have hlen : (o :: os).length = os.length + 1 := rfl
  -- one step, then the rest
  have go : ∀ (t0 : Tr) (pk1 : Option (Nat × AV × Heap)) (tr1 : List Tr), runTr P K imp ops base os (i + 1) pk1 (putT o t0 e) (appT t0 H) = some (tr1, pk', e', H') → tr = t0 :: tr1 →
    (∀ k x, pk1 = some (k, x) → k < i + 1) → (∀ x, pk = some x → pk1 = some x) → (∀ k x, pk1 = some (k, x) → pk = some (k, x) ∨ (k = i ∧ t0 = .pan)) →
    ((∀ x, pk1 = some x → pk' = some x) → (∀ k x, pk' = some (k, x) → k < i → pk = some (k, x)) → Spec P K imp ops base o i e H pk' t0 ∧ (∀ k x, pk' = some (k, x) → k < i → loud t0 = false)) →
    (∀ j, i ≤ j → j < i + (o :: os).length → Spec P K imp ops base (op j) j (eAt op t full e0 j) (hAt t full H0 j) pk' (t j) ∧ (∀ k x, pk' = some (k, x) → k < j → loud (t j) = false)) ∧
     e' = eAt op t full e0 (i + (o :: os).length) ∧ H' = hAt t full H0 (i + (o :: os).length) ∧ (∀ x, pk = some x → pk' = some x) ∧
     (∀ k x, pk' = some (k, x) → pk = some (k, x) ∨ (i ≤ k ∧ k < i + (o :: os).length ∧ t k = .pan)) := by
   intro t0 pk1 tr1 hrun htr hp1 hp2 hp3 hspec
   have hti : t i = t0 := by have := ht 0 (by simp); rw [htr] at this; simpa using this
   have h1 : putT o t0 e = eAt op t full e0 (i + 1) := by
    simp only [eAt]
    rw [if_pos (full_eq i), hti, hoi, ← he]
   have h2 : appT t0 H = hAt t full H0 (i + 1) := by
    simp only [hAt]
    rw [if_pos (full_eq i), hti, ← hH]
   obtain ⟨q1, q2, q3, q4, q5⟩ := ih (i + 1) pk1 _ _ tr1 pk' e' H' hrun hos' (fun j hj => by
    have := ht (j + 1) (by simp; omega)
    rw [htr] at this
    rw [show i + 1 + j = i + (j + 1) by omega, this]
    simp) h1 h2 hp1
   obtain ⟨s1, s2⟩ := hspec q4 (fun k x hx hk => by
    rcases q5 k x hx with h3 | ⟨h3, _⟩
    ·rcases hp3 k x h3 with h4 | ⟨h4, _⟩
     ·exact h4
     ·omega
    ·omega)
   refine ⟨?_, by rw [hlen, q2]; congr 1; omega, by rw [hlen, q3]; congr 1; omega, fun x hx => q4 x (hp2 x hx), ?_⟩
   ·intro j hj1 hj2
    by_cases hji : j = i
    ·subst hji
     rw [hti, hoi, ← he, ← hH]
     exact ⟨s1, s2⟩
    ·exact q1 j (by omega) (by rw [hlen] at hj2; omega)
   ·intro k x hx
    rcases q5 k x hx with h3 | ⟨h3, h4, h5⟩
    ·rcases hp3 k x h3 with h4 | ⟨h4, h5⟩
     ·exact .inl h4
     ·exact .inr ⟨by omega, by rw [hlen]; omega, by rw [h4, hti, h5]⟩
    ·exact .inr ⟨by omega, by rw [hlen]; omega, h5⟩
  simp only [runTr] at h
  -- an operation that leaves 'pk' alone
  have stay : ∀ (t0 : Tr) (tr1 : List Tr), runTr P K imp ops base os (i + 1) pk (putT o t0 e) (appT t0 H) = some (tr1, pk', e', H') → tr = t0 :: tr1 → (pk.isSome = true → loud t0 = false) →
    ((∀ x, pk = some x → pk' = some x) → Spec P K imp ops base o i e H pk' t0) → _ :=
   fun t0 tr1 hrun htr hld hsp => go t0 pk tr1 hrun htr (fun k x hx => Nat.lt_succ_of_lt (hpk k x hx)) (fun x hx => hx) (fun k x hx => .inl hx)
    (fun q4 q5 => ⟨hsp q4, fun k x hx hk => hld (by rw [q5 k x hx hk]; rfl)⟩)
  -- one that panics
  have stop : ∀ (v : AV) (Hp : Heap) (tr1 : List Tr), pk = none → runTr P K imp ops base os (i + 1) (some (i, v, Hp)) e H = some (tr1, pk', e', H') → tr = .pan :: tr1 →
    (pk' = some (i, v, Hp) → Spec P K imp ops base o i e H pk' .pan) → _ :=
   fun v Hp tr1 hn hrun htr hsp => go .pan (some (i, v, Hp)) tr1 hrun htr (fun k x hx => by simp at hx; omega) (fun x hx => by rw [hn] at hx; cases hx)
    (fun k x hx => by simp at hx; exact .inr ⟨hx.1.symm, rfl⟩) (fun q4 _ => ⟨hsp (q4 _ rfl), fun _ _ _ _ => rfl⟩)
  by_cases hdead : behind ops pk i = true
  ·-- dead
   rw [if_pos hdead] at h
   split at h
   ·rename_i tr1 r1 hrun
    simp only [Option.some.injEq, Prod.mk.injEq] at h
    obtain ⟨rfl, rfl⟩ := h
    refine stay .dead tr1 hrun rfl (fun _ => rfl) (fun q4 => ?_)
    cases hpk0 : pk with
    | none => rw [hpk0] at hdead; simp [behind] at hdead
    | some y =>
     obtain ⟨k, x⟩ := y
     rw [hpk0] at hdead
     exact ⟨k, x, q4 _ hpk0, hdead⟩
   ·cases h
  ·rw [if_neg hdead] at h
   cases hw : aWanted ops e o with
   | none => simp [hw] at h
   | some b =>
    simp only [hw] at h
    cases b with
    | false =>
     simp only at h
     split at h
     ·rename_i tr1 r1 hrun
      simp only [Option.some.injEq, Prod.mk.injEq] at h
      obtain ⟨rfl, rfl⟩ := h
      exact stay (.val (.tup []) [] []) tr1 hrun rfl (fun _ => rfl) (fun _ => .inl ⟨hw, rfl, rfl, rfl⟩)
     ·cases h
    | true =>
     simp only at h
     cases hst : astep P (aeval e) H (base + i) o.op with
     | none => simp [hst] at h
     | some r =>
      simp only [hst] at h
      cases r with
      | val v us rs =>
       simp only at h
       split at h
       ·cases h
       ·rename_i hnl
        split at h
        ·rename_i tr1 r1 hrun
         simp only [Option.some.injEq, Prod.mk.injEq] at h
         obtain ⟨rfl, rfl⟩ := h
         refine stay (.val v us rs) tr1 hrun rfl (fun hs => ?_) (fun _ => .inr ⟨hw, .inl hst⟩)
         simp only [loud, Bool.not_eq_false']
         cases hus : us.isEmpty with
         | true => rfl
         | false => exact absurd ⟨hs, hus⟩ hnl
        ·cases h
      | pan v =>
       simp only at h
       split at h
       ·cases h
       ·rename_i hnone
        have hn : pk = none := by cases hq : pk with | none => rfl | some y => rw [hq] at hnone; exact absurd rfl hnone
        split at h
        ·rename_i tr1 r1 hrun
         simp only [Option.some.injEq, Prod.mk.injEq] at h
         obtain ⟨rfl, rfl⟩ := h
         exact stop v H tr1 hn hrun rfl (fun hp => ⟨v, H, hp, hw, .inl ⟨hst, rfl⟩⟩)
        ·cases h
      | call f args =>
       simp only at h
       split at h
       ·rename_i himp
        split at h
        ·cases h
        ·rename_i hnone
         have hn : pk = none := by cases hq : pk with | none => rfl | some y => rw [hq] at hnone; exact absurd rfl hnone
         cases hc : K f args H with
         | none => simp [hc] at h
         | some c =>
          simp only [hc] at h
          cases c with
          | ret v H1 =>
           simp only at h
           split at h
           ·rename_i tr1 r1 hrun
            simp only [Option.some.injEq, Prod.mk.injEq] at h
            obtain ⟨rfl, rfl⟩ := h
            exact stay (.call v H H1) tr1 hrun rfl (fun hs => by rw [hn] at hs; cases hs) (fun _ => ⟨hw, rfl, f, args, hst, himp, hc⟩)
           ·cases h
          | pan v H1 =>
           simp only at h
           split at h
           ·rename_i tr1 r1 hrun
            simp only [Option.some.injEq, Prod.mk.injEq] at h
            obtain ⟨rfl, rfl⟩ := h
            exact stop v H1 tr1 hn hrun rfl (fun hp => ⟨v, H1, hp, hw, .inr ⟨f, args, hst, himp, hc⟩⟩)
           ·cases h
       ·rename_i himp
        have himp' : imp f = false := by simpa using himp
        split at h
        ·rename_i v H1 hc
         split at h
         ·rename_i tr1 r1 hrun
          simp only [Option.some.injEq, Prod.mk.injEq] at h
          obtain ⟨rfl, rfl⟩ := h
          exact stay (.val v [] []) tr1 hrun rfl (fun _ => rfl) (fun _ => .inr ⟨hw, .inr ⟨f, args, H1, hst, himp', hc, rfl, rfl⟩⟩)
         ·cases h
        ·cases h
end Go.Proofs.YtghhkbigmmjanaaGreatDoor.VA

/-! Vb6 -/
namespace Go.Proofs.YtghhkbigmmjanaaGreatDoor.VA
open Go Go.RowKit
set_option linter.unusedSimpArgs false

theorem astep_quiet {P : Program} {ρ : Operand → AV} {H : Heap} {id : Nat} {o : Oper} {r : Sr} (ht : touchy o = false) (h : astep P ρ H id o.op = some r) : ∃ v, r = .val v [] [] := by
 obtain ⟨dst, op, type, pos, after, guard⟩ := o
 have pure : ∀ {x : Option AV}, x.map (fun v => Sr.val v [] []) = some r → ∃ v, r = .val v [] [] := by
  intro x hx
  cases x with
  | none => cases hx
  | some v => simp at hx; exact ⟨v, hx.symm⟩
 cases op <;> simp only [touchy, Bool.true_eq_false] at ht <;> simp only [astep] at h <;> try exact pure h
 case makeMap t n =>
  cases n with
  | none => simp [touchy] at ht
  | some n => simp only [astep] at h; exact pure h
 case call c =>
  obtain ⟨callee, args, argTypes⟩ := c
  cases callee <;> (try simp only [touchy, Bool.true_eq_false] at ht) <;> (try exact pure h)
  rename_i b
  cases b <;> (try simp only [touchy, Bool.true_eq_false] at ht) <;> exact pure h
theorem mem_unord {ops : Array Oper} {i j : Nat} (hij : i < j) (hj : j < ops.size) (hi : touchy (ops.getD i default) = true) (hjt : touchy (ops.getD j default) = true) (ha : anc ops i j = false) : (i, j) ∈ unord ops := by
 unfold unord
 simp only [List.mem_flatMap, List.mem_filter, List.mem_range, List.mem_map, Bool.and_eq_true, decide_eq_true_eq, Bool.not_eq_true']
 exact ⟨j, ⟨hj, hjt⟩, i, ⟨⟨by omega, hi⟩, hij, ha⟩, rfl⟩
def isVal : Tr → Bool
 | .val _ _ _ | .call _ _ _ => true
 | _ => false
theorem drawOk_spec {ops : Array Oper} (h : drawOk ops = true) : (∀ j, j < ops.size → ∀ e, e ∈ (ops.getD j default).after → Region.binds .any e = true → e.on < j) ∧
  (∀ i j, i < j → j < ops.size → anc ops i j = true ∨ (ops.getD i default).apart ops (ops.getD j default) = true) := by
 simp only [drawOk, List.all_eq_true, List.mem_range, Bool.and_eq_true, Bool.or_eq_true] at h
 constructor
 ·intro j hj e he hb
  have := (h j hj).1
  rw [Array.all_eq_true_iff_forall_mem] at this
  have := this e he
  simp [hb] at this
  exact this
 ·intro i j hij hj
  exact (h j hj).2 i hij
theorem getD_of {ops : Array Oper} {i : Nat} {o : Oper} (h : ops[i]? = some o) : ops.getD i default = o := by simp [h]
theorem of_lt {ops : Array Oper} {i : Nat} (h : i < ops.size) : ops[i]? = some (ops.getD i default) := by simp [h]
set_option maxHeartbeats 2000000 in
theorem draw_sound {P : Program} {C : Cond} {K : Calling} {imp : FuncId → Bool} (hK : KOk P C K imp) (hm : P.follows .mixedOrders = true) {ops : Array Oper} {n rid : Nat} (hd : drawOk ops = true) (hds : ∀ o, o ∈ ops.toList → dstOk n o = true)
  {e e' : List AV} {H H2 : Heap} {tr : List Tr} {pk : Option (Nat × AV × Heap)} (hrun : runTr P K imp ops H.next ops.toList 0 none e { H with next := H.next + ops.size } = some (tr, pk, e', H2)) (hok : TrOk ops tr)
  {g : Gh} {a : Act} {w : World} (hC : g.cond = C) (hi : Inv g H w) (he : EnvRel g w e a.tmps) (hn : a.tmps.size = n) (htop : Top g H.next) (Q : Exit → Act → World → Prop)
  (hQn : pk = none → ∀ g' a' w', Past H.next g w g' H2 w' → KeptL ops.toList a a' → a'.tmps.size = n → EnvRel g' w' e' a'.tmps → Q .normal a' w')
  (hQp : ∀ k v Hp, pk = some (k, v, Hp) → ∀ g' a' w' u, Past H.next g w g' Hp w' → KeptL ops.toList a a' → a'.tmps.size = n → Rel g' w' v u → Q (.panic (oneEntry u)) a' w') :
  (Code.region rid ops true).wp P Q a w := by
 obtain ⟨hback, hslot⟩ := drawOk_spec hd
 generalize hbase : H.next = base at *
 generalize hH0 : ({ H with next := base + ops.size } : Heap) = H0 at *
 let op : Nat → Oper := fun j => ops.getD j default
 let t : Nat → Tr := fun j => tr.getD j .dead
 have hop : ∀ j o, ops[j]? = some o → op j = o := fun j o h => getD_of h
 obtain ⟨hspec, hE, hHH, _, hpk⟩ := runTr_spec (P := P) (K := K) (imp := imp) (ops := ops) (base := base) (op := op) (t := t) (e0 := e) (H0 := H0) hop ops.toList 0 none e H0 tr pk e' H2 hrun (by simp) (fun j _ => by rw [Nat.zero_add]) rfl rfl (fun k x h => by cases h)
 simp only [Nat.zero_le, true_implies, Nat.zero_add, Array.length_toList] at hspec hE hHH hpk
 -- whoever waits for nobody lets alone
 have hquiet : ∀ i, i < ops.size → touchy (op i) = false → (∃ v, t i = .val v [] []) ∨ t i = .dead := by
  intro i hil ht
  have hs := (hspec i hil).1
  generalize t i = ti at hs
  cases ti with
  | dead => exact .inr rfl
  | pan =>
   obtain ⟨v, Hp, _, _, h | ⟨f, args, h, _⟩⟩ := hs
   ·obtain ⟨v', hv⟩ := astep_quiet ht h.1; cases hv
   ·obtain ⟨v', hv⟩ := astep_quiet ht h; cases hv
  | val v us rs =>
   left
   rcases hs with ⟨_, _, rfl, rfl⟩ | ⟨_, h | ⟨f, args, H', _, _, _, rfl, rfl⟩⟩
   ·exact ⟨v, rfl⟩
   ·obtain ⟨v', hv⟩ := astep_quiet ht h
    simp only [Sr.val.injEq] at hv
    obtain ⟨rfl, rfl, rfl⟩ := hv
    exact ⟨v, rfl⟩
   ·exact ⟨v, rfl⟩
  | call v Hb Ha =>
   obtain ⟨_, _, f, args, h, _⟩ := hs
   obtain ⟨v', hv⟩ := astep_quiet ht h; cases hv
 have hNC : ∀ i j, i < j → j < ops.size → anc ops i j = false → NoConf (t i) (t j) := by
  intro i j hij hj ha
  have q1 : ∀ (x : Tr) (v : AV), NoConf (.val v [] []) x := by intro x v; cases x <;> simp [NoConf]
  have q2 : ∀ (x : Tr) (v : AV), NoConf x (.val v [] []) := by intro x v; cases x <;> simp [NoConf]
  have q3 : ∀ (x : Tr), NoConf .dead x := by intro x; cases x <;> simp [NoConf]
  have q4 : ∀ (x : Tr), NoConf x .dead := by intro x; cases x <;> simp [NoConf]
  cases h1 : touchy (op i) with
  | false =>
   rcases hquiet i (by omega) h1 with ⟨v, h⟩ | h
   ·rw [h]; exact q1 _ _
   ·rw [h]; exact q3 _
  | true =>
   cases h2 : touchy (op j) with
   | false =>
    rcases hquiet j hj h2 with ⟨v, h⟩ | h
    ·rw [h]; exact q2 _ _
    ·rw [h]; exact q4 _
   | true => exact hok (i, j) (mem_unord hij hj h1 h2 ha)
 have hHb : ∀ i v Hb Ha, i < ops.size → t i = .call v Hb Ha → Hb = hAt t full H0 i := by
  intro i v Hb Ha hil hti
  have hs := (hspec i hil).1
  rw [hti] at hs
  exact hs.2.1
 have hpan : ∀ k x, pk = some (k, x) → k < ops.size ∧ t k = .pan := by
  intro k x hx
  rcases hpk k x hx with h | ⟨_, h2, h3⟩
  ·cases h
  ·exact ⟨h2, h3⟩
 refine wp_region_any hm ?_
 have main : ∀ (fuel : Nat) (listed : Array Bool) (a1 : Act) (w1 : World) (S : Nat → Bool), listed.size = ops.size → (∀ j, S j = listed.getD j false) → Shut ops S → (∀ j, S j = true → isVal (t j) = true) →
   ((List.range ops.size).filter fun j => !S j).length ≤ fuel →
   (∃ g1, Past base g w g1 (hAt t S H0 ops.size) w1 ∧ EnvRel g1 w1 (eAt op t S e ops.size) a1.tmps ∧ (∀ j, j < ops.size → S j = false → Fresh g1 (hAt t S H0 ops.size) (base + j)) ∧ base + ops.size ≤ (hAt t S H0 ops.size).next) →
   a1.tmps.size = n → KeptL ops.toList a a1 → wpAny P .any ops Q fuel listed a1 w1 := by
  intro fuel
  induction fuel with
  | zero =>
   intro listed a1 w1 S hsz hS hshut hval hcnt hst hn1 hd1
   have hall : ∀ j, j < ops.size → S j = true := by
    intro j hj
    cases hSj : S j with
    | true => rfl
    | false =>
     exfalso
     have : j ∈ (List.range ops.size).filter fun j => !S j := by simp [hj, hSj]
     have := List.length_pos_of_mem this
     omega
   have hnone : pk = none := by
    cases hp : pk with
    | none => rfl
    | some kx =>
     exfalso
     obtain ⟨h1, h2⟩ := hpan kx.1 kx.2 hp
     have := hval kx.1 (hall kx.1 h1)
     rw [h2] at this; cases this
   have hr : Region.ready .any ops listed = [] := by
    rw [List.eq_nil_iff_forall_not_mem]
    intro j hj
    obtain ⟨h0, o, ho, _⟩ := mem_ready.1 hj
    have hlt := (Array.getElem?_eq_some_iff.1 ho).1
    have := hall j hlt
    rw [hS] at this
    simp only [Array.getD_eq_getD_getElem?] at this h0
    rw [Array.getElem?_eq_getElem (by omega)] at this h0
    simp at this h0
    rw [this] at h0; cases h0
   refine wpAny_done hr ?_ 0
   obtain ⟨g1, hp, hen, _, _⟩ := hst
   rw [eAt_all ops.size hall, ← hE] at hen
   rw [hAt_eq (S' := full) ops.size (fun j hj _ => by rw [hall j hj]; rfl), ← hHH] at hp
   exact hQn hnone g1 a1 w1 hp hd1 hn1 hen
  | succ fuel ih =>
   intro listed a1 w1 S hsz hS hshut hval hcnt hst hn1 hd1
   by_cases hr : Region.ready .any ops listed = []
   ·-- nothing is left
    have hall : ∀ j, j < ops.size → S j = true := by
     intro j
     induction j using Nat.strongRecOn with
     | _ j ihj =>
      intro hj
      cases hSj : S j with
      | true => rfl
      | false =>
       exfalso
       have : j ∈ Region.ready .any ops listed := by
        refine mem_ready.2 ⟨?_, op j, of_lt hj, fun ed hed hb => ?_⟩
        ·rw [hS] at hSj
         simp only [Array.getD_eq_getD_getElem?] at hSj ⊢
         rw [Array.getElem?_eq_getElem (by omega)] at hSj ⊢
         simpa using hSj
        ·have hlt := hback j hj ed hed hb
         rw [← hS]
         exact ihj ed.on hlt (by omega)
       rw [hr] at this; cases this
    have hnone : pk = none := by
     cases hp : pk with
     | none => rfl
     | some kx =>
      exfalso
      obtain ⟨h1, h2⟩ := hpan kx.1 kx.2 hp
      have := hval kx.1 (hall kx.1 h1)
      rw [h2] at this; cases this
    refine wpAny_done hr ?_ (fuel + 1)
    obtain ⟨g1, hp, hen, _, _⟩ := hst
    rw [eAt_all ops.size hall, ← hE] at hen
    rw [hAt_eq (S' := full) ops.size (fun j hj _ => by rw [hall j hj]; rfl), ← hHH] at hp
    exact hQn hnone g1 a1 w1 hp hd1 hn1 hen
   ·refine ⟨fun h => absurd h hr, fun i hir => ?_⟩
    obtain ⟨g1, hp, hen, hfr, hnx⟩ := hst
    obtain ⟨hun, o, ho, hpre⟩ := mem_ready.1 hir
    have hil := (Array.getElem?_eq_some_iff.1 ho).1
    have hoi : op i = o := hop i o ho
    have hSi : S i = false := by
     rw [hS]
     simp only [Array.getD_eq_getD_getElem?] at hun ⊢
     rw [Array.getElem?_eq_getElem (by omega)] at hun ⊢
     simpa using hun
    have hpre' : ∀ ed, ed ∈ o.after → Region.binds .any ed = true → S ed.on = true := fun ed h1 h2 => by rw [hS]; exact hpre ed h1 h2
    have before : ∀ j, anc ops j i = true → S j = true := fun j h => anc_shut hshut ho hpre' h
    have later : ∀ j, j < ops.size → anc ops i j = true → S j = false := by
     intro j hj h
     cases hSj : S j with
     | false => rfl
     | true =>
      have := anc_shut hshut (of_lt hj) (hshut j _ (of_lt hj) hSj) h
      rw [hSi] at this; cases this
    have hcl : ∀ (S1 : Nat → Bool), Shut ops S1 → CL t S1 ops.size := by
     intro S1 hsh k v Hb Ha hk htk hSk j hj hld
     cases ha : anc ops j k with
     | true => exact anc_shut hsh (of_lt hk) (hsh k _ (of_lt hk) hSk) ha
     | false =>
      exfalso
      have := hNC j k hj hk ha
      rw [htk] at this
      cases htj : t j with
      | val v us rs =>
       rw [htj] at this hld
       obtain ⟨h, _⟩ := this
       subst h
       cases hld
      | call v Hb Ha => rw [htj] at this; exact this
      | pan => rw [htj] at hld; cases hld
      | dead => rw [htj] at hld; cases hld
    have hup : ∀ m, m ≤ ops.size → Shut ops (upTo m) := by
     intro m hm k o' ho' hk ed hed hb
     have hkl := (Array.getElem?_eq_some_iff.1 ho').1
     have hkm : k < m := by simpa [upTo] using hk
     have : op k = o' := hop k o' ho'
     exact upTo_lt (by have := hback k hkl ed (by rw [getD_of ho']; exact hed) hb; omega)
    have hlook : ∀ d, d ∈ o.looksAt ops → gget .bad (eAt op t S e ops.size) d = gget .bad (eAt op t full e i) d := by
     intro d hdl
     rw [← eAt_upTo (op := op) (t := t) (e := e) (i := i) ops.size (by omega)]
     refine eAt_congr ops.size (fun j hj hdj => ?_)
     rcases Nat.lt_trichotomy j i with h | h | h
     ·rw [upTo_lt h]
      rcases hslot j i h hil with h1 | h1
      ·exact before j h1
      ·exact absurd (by rw [getD_of ho]; exact hdl) ((Oper.apart_spec h1).1 d hdj)
     ·subst h; rw [hSi]; exact (Bool.not_eq_true _ ▸ upTo_ge (Nat.le_refl j) : upTo j j = false).symm
     ·rw [show upTo i j = false by simpa using upTo_ge (i := i) (n := j) (by omega)]
      rcases hslot i j h hj with h1 | h1
      ·exact later j hj h1
      ·exact absurd (by rw [getD_of ho]; exact hdl) ((Oper.apart_spec h1).2.2 d hdj)
    have hwant : aWanted ops (eAt op t S e ops.size) o = aWanted ops (eAt op t full e i) o := aWanted_congr hlook
    have hdo : ∀ d, o.dst = some d → d < a1.tmps.size := by
     rw [hn1]; exact dstOk_spec (hds o (by rw [← Array.mem_def]; exact Array.mem_of_getElem? ho))
    -- the next state
    generalize hS' : (fun j => if j = i then true else S j) = S'
    have hS'i : S' i = true := by rw [← hS']; simp
    have hS'o : ∀ j, j ≠ i → S' j = S j := fun j hj => by rw [← hS']; simp [hj]
    have hlist' : ∀ j, S' j = (listed.setIfInBounds i true).getD j false := by
     intro j
     by_cases hji : j = i
     ·subst hji; rw [hS'i]; simp [show j < listed.size by omega]
     ·rw [hS'o j hji, hS, getD_set_ne false (Ne.symm hji)]
    have hshut' : Shut ops S' := by
     intro k o' ho' hk ed hed hb
     by_cases hki : k = i
     ·subst hki
      rw [ho] at ho'
      simp only [Option.some.injEq] at ho'
      subst ho'
      have h1 := hback k hil ed (by rw [getD_of ho]; exact hed) hb
      rw [hS'o _ (by omega)]
      exact hpre' ed hed hb
     ·rw [hS'o k hki] at hk
      have := hshut k o' ho' hk ed hed hb
      by_cases hei : ed.on = i
      ·rw [hei]; exact hS'i
      ·rw [hS'o _ hei]; exact this
    have hcnt' : ((List.range ops.size).filter fun j => !S' j).length ≤ fuel := by
     have hsub : ((List.range ops.size).filter fun j => !S' j) = ((List.range ops.size).filter fun j => !S j).filter fun j => decide (j ≠ i) := by
      rw [List.filter_filter]
      refine List.filter_congr fun j _ => ?_
      by_cases hji : j = i
      ·subst hji; simp [hS'i]
      ·simp [hS'o j hji, hji]
     rw [hsub]
     have hmem : i ∈ (List.range ops.size).filter fun j => !S j := by simp [hil, hSi]
     have := List.length_filter_lt_length_iff_exists (p := fun j => decide (j ≠ i)) (l := (List.range ops.size).filter fun j => !S j) |>.2 ⟨i, hmem, by simp⟩
     omega
    have hsz' : (listed.setIfInBounds i true).size = ops.size := by simpa using hsz
    have henv : ∀ v, isVal (t i) = true → (∀ e'', putT o (t i) e'' = aput e'' o.dst v) → ∀ s, gget .bad (eAt op t S' e ops.size) s = gget .bad (aput (eAt op t S e ops.size) o.dst v) s := by
     intro v _ hput s
     rw [gget_aput]
     by_cases hds' : o.dst = some s
     ·rw [if_pos hds']
      refine eAt_last (i := i) hS'i (by rw [hoi]; exact hds') (fun e'' => by rw [hoi, hput, gget_aput, if_pos hds']) ops.size hil (fun j h1 h2 h3 h4 => ?_)
      rcases hslot i j h1 h2 with h5 | h5
      ·have := later j h2 h5
       rw [hS'o j (by omega)] at h3
       rw [this] at h3; cases h3
      ·exact (Oper.apart_spec h5).2.1 s (by rw [getD_of ho]; exact hds') h4
     ·rw [if_neg hds']
      refine eAt_congr ops.size (fun j hj hdj => hS'o j (fun h => hds' (by rw [h, hoi] at hdj; exact hdj)))
    have hs := (hspec i hil).1
    rw [hoi] at hs
    -- all that is loud agrees with the text's order, at a call or a panic
    have hloudEq : (t i = .pan ∨ ∃ v Hb Ha, t i = .call v Hb Ha) → ∀ j, j < ops.size → j ≠ i → loud (t j) = true → S j = upTo i j := by
     intro hti j hj hji hld
     have noConf : ∀ x y, (x = .pan ∨ ∃ v Hb Ha, x = .call v Hb Ha) → loud y = true → ¬ NoConf x y ∧ ¬ NoConf y x := by
      intro x y hx hy
      rcases hx with rfl | ⟨v, Hb, Ha, rfl⟩
      ·cases y with
       | val v us rs => cases us <;> simp [loud] at hy <;> simp [NoConf]
       | call v Hb Ha => simp [NoConf]
       | pan => simp [loud] at hy
       | dead => simp [loud] at hy
      ·cases y with
       | val v us rs => cases us <;> simp [loud] at hy <;> simp [NoConf]
       | call v Hb Ha => simp [NoConf]
       | pan => simp [loud] at hy
       | dead => simp [loud] at hy
     rcases Nat.lt_trichotomy j i with h | h | h
     ·rw [upTo_lt h]
      cases ha : anc ops j i with
      | true => exact before j ha
      | false => exact absurd (hNC j i h hil ha) (noConf _ _ hti hld).2
     ·exact absurd h hji
     ·rw [show upTo i j = false by simpa using upTo_ge (i := i) (n := j) (by omega)]
      cases ha : anc ops i j with
      | true => exact later j hj ha
      | false => exact absurd (hNC i j h hj ha) (noConf _ _ hti hld).1
    have hmemEq : (t i = .pan ∨ ∃ v Hb Ha, t i = .call v Hb Ha) → hAt t S H0 ops.size = hAt t full H0 i := by
     intro hti
     rw [← hAt_upTo (t := t) (H := H0) (i := i) ops.size (by omega)]
     refine hAt_eq ops.size (fun j hj hld => ?_)
     by_cases hji : j = i
     ·subst hji; rw [hSi]; exact (show upTo j j = false by simpa using upTo_ge (Nat.le_refl j)).symm
     ·exact hloudEq hti j hj hji hld
    unfold wpOp
    rw [ho]
    simp only
    have hstepE : ∀ r, astep P (aeval (eAt op t full e i)) (hAt t full H0 i) (base + i) o.op = some r → astep P (aeval (eAt op t S e ops.size)) (hAt t full H0 i) (base + i) o.op = some r := by
     intro r hr'
     rw [← hr']
     exact astep_congr (fun x hx => aeval_congr hlook x hx)
    have hfri := hfr i hil hSi
    cases hti : t i with
    | dead =>
     rw [hti] at hs
     obtain ⟨k, x, hkx, hak⟩ := hs
     exfalso
     have h1 := before k hak
     have h2 := hval k h1
     rw [(hpan k x hkx).2] at h2; cases h2
    | pan =>
     rw [hti] at hs
     obtain ⟨v, Hp, hkx, hwt, hcase⟩ := hs
     rw [aWanted_sound (hwant.trans hwt) hen, if_pos rfl]
     left
     have hm' := hmemEq (.inl hti)
     rcases hcase with ⟨hst, rfl⟩ | ⟨f, args, hst, himp, hc⟩
     ·have hst' := hstepE _ hst
      rw [← hm'] at hst'
      refine oper_sound hK (N := base) hst' (hp.ext.cond.trans hC) hp.inv hen hp.top hfri (by omega) (by omega) (by omega) hdo (fun v us rs h => by cases h) (fun f args h => by cases h) ?_
      intro v' hv' u hrel
      simp only [Sr.pan.injEq] at hv'
      subst hv'
      refine hQp i v _ hkx g1 a1 w1 u ?_ hd1 hn1 hrel
      rw [← hm']; exact hp
     ·have hst' := hstepE _ hst
      rw [← hm'] at hst' hc
      refine oper_sound hK (N := base) hst' (hp.ext.cond.trans hC) hp.inv hen hp.top hfri (by omega) (by omega) (by omega) hdo (fun v us rs h => by cases h) ?_ (fun v h => by cases h)
      intro f' args' hfa
      simp only [Sr.call.injEq] at hfa
      obtain ⟨rfl, rfl⟩ := hfa
      refine ⟨_, hc, (fun v H' h => by cases h), ?_⟩
      intro v' H' hv' g2 u w2 hp2 hrel
      simp only [CR.pan.injEq] at hv'
      obtain ⟨rfl, rfl⟩ := hv'
      exact hQp i v _ hkx g2 a1 w2 u (hp.trans hp2 (by omega)) hd1 hn1 hrel
    | call v Hb Ha =>
     rw [hti] at hs
     obtain ⟨hwt, _, f, args, hst, himp, hc⟩ := hs
     rw [aWanted_sound (hwant.trans hwt) hen, if_pos rfl]
     left
     have hm' := hmemEq (.inr ⟨v, Hb, Ha, hti⟩)
     have hst' := hstepE _ hst
     rw [← hm'] at hst' hc
     refine oper_sound hK (N := base) hst' (hp.ext.cond.trans hC) hp.inv hen hp.top hfri (by omega) (by omega) (by omega) hdo (fun v us rs h => by cases h) ?_ (fun v h => by cases h)
     intro f' args' hfa
     simp only [Sr.call.injEq] at hfa
     obtain ⟨rfl, rfl⟩ := hfa
     refine ⟨_, hc, ?_, (fun v H' h => by cases h)⟩
     intro v' H' hv' g2 u w2 hp2 hrel
     simp only [CR.ret.injEq] at hv'
     obtain ⟨rfl, rfl⟩ := hv'
     have hmem' : hAt t S' H0 ops.size = Ha := by
      have h1 : hAt t S' H0 ops.size = hAt t (upTo (i + 1)) H0 ops.size := by
       refine hAt_eq ops.size (fun j hj hld => ?_)
       by_cases hji : j = i
       ·subst hji; rw [hS'i, upTo_lt (by omega)]
       ·rw [hS'o j hji, hloudEq (.inr ⟨v, Hb, Ha, hti⟩) j hj hji hld]
        simp only [upTo]
        exact decide_eq_decide.2 (by omega)
      rw [h1, hAt_upTo ops.size (by omega)]
      simp only [hAt]
      rw [if_pos (full_eq i), hti]
      rfl
     refine ih _ (a1.put o.dst u) w2 S' hsz' hlist' hshut' ?_ hcnt' ⟨g2, ?_, ?_, ?_, ?_⟩ (by rw [size_put]; exact hn1) (hd1.put (by rw [← Array.mem_def]; exact Array.mem_of_getElem? ho) _)
     ·intro j hj
      by_cases hji : j = i
      ·subst hji; rw [hti]; rfl
      ·exact hval j (by rw [← hS'o j hji]; exact hj)
     ·rw [hmem']; exact hp.trans hp2 (by omega)
     ·intro s
      rw [henv v (by rw [hti]; rfl) (fun e'' => by rw [hti]; rfl) s]
      exact hrel s
     ·intro j hj hSj
      have hji : j ≠ i := fun h => by subst h; rw [hS'i] at hSj; cases hSj
      rw [hmem']
      obtain ⟨q1, q2, _, _⟩ := hfr j hj (by rw [← hS'o j hji]; exact hSj)
      have := hp2.new (base + j) (by omega)
      exact hp2.inv.fresh_of (by rw [this.1]; exact q1) (by rw [this.2]; exact q2)
     ·rw [hmem']; have := hp2.next; omega
    | val v us rs =>
     rw [hti] at hs
     have hval' : ∀ j, S' j = true → isVal (t j) = true := by
      intro j hj
      by_cases hji : j = i
      ·subst hji; rw [hti]; rfl
      ·exact hval j (by rw [← hS'o j hji]; exact hj)
     have hnotcall : ∀ j v' Hb Ha, j < ops.size → t j = .call v' Hb Ha → S' j = S j := fun j v' Hb Ha _ hj => hS'o j (fun h => by subst h; rw [hti] at hj; cases hj)
     have hnext' : (hAt t S' H0 ops.size).next = (hAt t S H0 ops.size).next := hAt_next ops.size hnotcall
     -- who touches what operation i touches
     have htouch : ∀ k, (k ∈ rs ∨ ∃ u, u ∈ us ∧ u.key = k) → ∀ j, j < ops.size → j ≠ i →
       (∀ v' us' rs', t j = .val v' us' rs' → (∃ u, u ∈ us' ∧ u.key = k) → S j = upTo i j) ∧ (∀ v' Hb Ha, t j = .call v' Hb Ha → S j = upTo i j ∨ obs Hb k = obs Ha k) := by
      intro k hk j hj hji
      rcases Nat.lt_or_gt_of_ne hji with h | h
      ·rw [upTo_lt h]
       cases ha : anc ops j i with
       | true => exact ⟨fun _ _ _ _ _ => before j ha, fun _ _ _ _ => .inl (before j ha)⟩
       | false =>
        have hnc := hNC j i h hil ha
        rw [hti] at hnc
        refine ⟨fun v' us' rs' htj hu => ?_, fun v' Hb Ha htj => ?_⟩
        ·exfalso
         rw [htj] at hnc
         obtain ⟨u, hu1, hu2⟩ := hu
         rcases hk with hk | ⟨u', hu1', hu2'⟩
         ·exact (hnc.1 u hu1).2 (by rw [hu2]; exact hk)
         ·exact (hnc.1 u hu1).1 u' hu1' (by rw [hu2, hu2'])
        ·rw [htj] at hnc
         obtain ⟨rfl, hkp⟩ := hnc
         rcases hk with hk | ⟨u', hu1', _⟩
         ·have := hkp k hk
          exact .inr (by simp only [obs, this.1, this.2])
         ·cases hu1'
      ·rw [show upTo i j = false by simpa using upTo_ge (i := i) (n := j) (by omega)]
       cases ha : anc ops i j with
       | true => exact ⟨fun _ _ _ _ _ => later j hj ha, fun _ _ _ _ => .inl (later j hj ha)⟩
       | false =>
        have hnc := hNC i j h hj ha
        rw [hti] at hnc
        refine ⟨fun v' us' rs' htj hu => ?_, fun v' Hb Ha htj => ?_⟩
        ·exfalso
         rw [htj] at hnc
         obtain ⟨u, hu1, hu2⟩ := hu
         rcases hk with hk | ⟨u', hu1', hu2'⟩
         ·exact hnc.2 u hu1 (by rw [hu2]; exact hk)
         ·exact (hnc.1 u' hu1').1 u hu1 (by rw [hu2, hu2'])
        ·rw [htj] at hnc
         obtain ⟨rfl, hkp⟩ := hnc
         rcases hk with hk | ⟨u', hu1', _⟩
         ·have := hkp k hk
          exact .inr (by simp only [obs, this.1, this.2])
         ·cases hu1'
     have hupi : upTo i i = false := by simpa using upTo_ge (Nat.le_refl i)
     have hobs : ∀ k, (k ∈ rs ∨ ∃ u, u ∈ us ∧ u.key = k) → obs (hAt t S H0 ops.size) k = obs (hAt t full H0 i) k := by
      intro k hk
      rw [← hAt_upTo (t := t) (H := H0) (i := i) ops.size (by omega)]
      refine hAt_congr ops.size S (upTo i) (hcl S hshut) (hcl _ (hup i (by omega))) hHb ?_ ?_
      ·intro j v' us' rs' hj htj hu
       by_cases hji : j = i
       ·subst hji; rw [hSi, hupi]
       ·exact (htouch k hk j hj hji).1 v' us' rs' htj hu
      ·intro j v' Hb Ha hj htj
       by_cases hji : j = i
       ·subst hji; rw [hti] at htj; cases htj
       ·exact (htouch k hk j hj hji).2 v' Hb Ha htj
     have hobs' : ∀ k, obs (hAt t S' H0 ops.size) k = obs (appU (hAt t S H0 ops.size) us) k := by
      intro k
      by_cases hk : ∃ u, u ∈ us ∧ u.key = k
      ·have h1 : obs (hAt t S' H0 ops.size) k = obs (hAt t full H0 (i + 1)) k := by
        rw [← hAt_upTo (t := t) (H := H0) (i := i + 1) ops.size (by omega)]
        refine hAt_congr ops.size S' (upTo (i + 1)) (hcl S' hshut') (hcl _ (hup (i + 1) (by omega))) hHb ?_ ?_
        ·intro j v' us' rs' hj htj hu
         by_cases hji : j = i
         ·subst hji; rw [hS'i, upTo_lt (by omega)]
         ·rw [hS'o j hji, (htouch k (.inr hk) j hj hji).1 v' us' rs' htj hu]
          simp only [upTo]
          exact decide_eq_decide.2 (by omega)
        ·intro j v' Hb Ha hj htj
         by_cases hji : j = i
         ·subst hji; rw [hti] at htj; cases htj
         ·rcases (htouch k (.inr hk) j hj hji).2 v' Hb Ha htj with h | h
          ·left
           rw [hS'o j hji, h]
           simp only [upTo]
           exact decide_eq_decide.2 (by omega)
          ·exact .inr h
       rw [h1]
       simp only [hAt]
       rw [if_pos (full_eq i), hti]
       exact obs_appU_congr us _ _ _ (hobs k (.inr hk)).symm
      ·rw [obs_appU_other us _ _ (fun u hu h => hk ⟨u, hu, h⟩)]
       refine hAt_congr ops.size S' S (hcl S' hshut') (hcl S hshut) hHb ?_ ?_
       ·intro j v' us' rs' hj htj hu
        by_cases hji : j = i
        ·subst hji
         rw [hti] at htj
         simp only [Tr.val.injEq] at htj
         obtain ⟨_, rfl, _⟩ := htj
         exact absurd hu hk
        ·exact hS'o j hji
       ·intro j v' Hb Ha hj htj
        exact .inl (hnotcall j v' Hb Ha hj htj)
     -- the state behind it
     have next : ∀ g2 u w2, Past base g1 w1 g2 (appU (hAt t S H0 ops.size) us) w2 → (∀ j, j < ops.size → j ≠ i → S j = false → g2.box (base + j) = g1.box (base + j) ∧ g2.own (base + j) = g1.own (base + j)) →
       EnvRel g2 w2 (aput (eAt op t S e ops.size) o.dst v) (a1.put o.dst u).tmps → wpAny P .any ops Q fuel (listed.setIfInBounds i true) (a1.put o.dst u) w2 := by
      intro g2 u w2 hp2 hk hrel
      have hg : ∀ r, (hAt t S' H0 ops.size).ho r = (appU (hAt t S H0 ops.size) us).ho r := fun r => by have := hobs' r; simp only [obs, Prod.mk.injEq] at this; exact this.1
      have hl : ∀ r, (hAt t S' H0 ops.size).isLive r = (appU (hAt t S H0 ops.size) us).isLive r := fun r => by have := hobs' r; simp only [obs, Prod.mk.injEq] at this; exact this.2
      have hinv := hp2.inv.next hg hl
      have hp3 := hp.trans hp2 (Nat.le_refl _)
      refine ih _ (a1.put o.dst u) w2 S' hsz' hlist' hshut' hval' hcnt' ⟨g2, ⟨hp3.ext, hinv, ?_, hp3.new, ?_⟩, ?_, ?_, ?_⟩ (by rw [size_put]; exact hn1) (hd1.put (by rw [← Array.mem_def]; exact Array.mem_of_getElem? ho) _)
      ·have := hp2.top
       rw [appU_next] at this
       rw [hnext']; exact this
      ·rw [hnext']; omega
      ·intro s
       rw [henv v (by rw [hti]; rfl) (fun e'' => by rw [hti]; rfl) s]
       exact hrel s
      ·intro j hj hSj
       have hji : j ≠ i := fun h => by subst h; rw [hS'i] at hSj; cases hSj
       have hSj' : S j = false := by rw [← hS'o j hji]; exact hSj
       obtain ⟨q1, q2, _, _⟩ := hfr j hj hSj'
       have := hk j hj hji hSj'
       exact hinv.fresh_of (by rw [this.1]; exact q1) (by rw [this.2]; exact q2)
      ·rw [hnext']; exact hnx
     rcases hs with ⟨hwt, rfl, rfl, rfl⟩ | ⟨hwt, hst | ⟨f, args, H', hst, himp, hc, rfl, rfl⟩⟩
     ·rw [aWanted_sound (hwant.trans hwt) hen, if_neg (by simp)]
      exact next g1 undef w1 ⟨Ext.refl _ _, hp.inv, hp.top, New.refl _ _, hp.next⟩ (fun _ _ _ _ => ⟨rfl, rfl⟩) (hen.put hdo (.tup [] #[] rfl (by simp)))
     ·rw [aWanted_sound (hwant.trans hwt) hen, if_pos rfl]
      left
      have hst' := astep_heap (H' := hAt t S H0 ops.size) (hstepE _ hst) (fun k hk => hobs k (by
       simp only [Sr.keys, List.mem_append, List.mem_map] at hk
       exact hk))
      refine oper_sound hK (N := base) hst' (hp.ext.cond.trans hC) hp.inv hen hp.top hfri (by omega) (by omega) (by omega) hdo ?_ (fun f args h => by cases h) (fun v h => by cases h)
      intro v' us' rs' hv' g2 u w2 hp2 hk hrel
      simp only [Sr.val.injEq] at hv'
      obtain ⟨rfl, rfl, rfl⟩ := hv'
      exact next g2 u w2 hp2 (fun j hj hji _ => hk (base + j) (by omega)) hrel
     ·rw [aWanted_sound (hwant.trans hwt) hen, if_pos rfl]
      left
      have hst' := astep_heap (H' := hAt t S H0 ops.size) (hstepE _ hst) (fun k hk => by simp [Sr.keys] at hk)
      obtain ⟨v1, hv1, hall⟩ := hK.pure f args _ _ himp hc
      simp only [CR.ret.injEq] at hv1
      obtain ⟨rfl, _⟩ := hv1
      refine oper_sound hK (N := base) hst' (hp.ext.cond.trans hC) hp.inv hen hp.top hfri (by omega) (by omega) (by omega) hdo (fun v us rs h => by cases h) ?_ (fun v h => by cases h)
      intro f' args' hfa
      simp only [Sr.call.injEq] at hfa
      obtain ⟨rfl, rfl⟩ := hfa
      refine ⟨_, hall _, ?_, fun v H' h => by cases h⟩
      intro v' H'' hv' g2 u w2 hp2 hrel
      simp only [CR.ret.injEq] at hv'
      obtain ⟨rfl, rfl⟩ := hv'
      exact next g2 u w2 ⟨hp2.ext, hp2.inv, hp2.top, hp2.new.mono (by omega), by have := hp2.next; simp only [appU] at this ⊢; omega⟩
       (fun j hj _ _ => hp2.new (base + j) (by omega)) hrel
 obtain ⟨hdx, hdi⟩ := hi.drew
 have hno : ∀ j, (Array.replicate ops.size false).getD j false = false := fun j => by
  by_cases h : j < ops.size <;> simp [h]
 have hE0 : ∀ m, eAt op t (fun _ => false) e m = e := by intro m; induction m with | zero => rfl | succ m ih => simp [eAt, ih]
 have hH0' : ∀ m, hAt t (fun _ => false) H0 m = H0 := by intro m; induction m with | zero => rfl | succ m ih => simp [hAt, ih]
 refine main ops.size (Array.replicate ops.size false) a _ (fun _ => false) (by simp) (fun j => (hno j).symm) (fun _ _ _ h => by cases h) (fun _ h => by cases h) (Nat.le_trans (List.length_filter_le _ _) (by simp)) ⟨g, ?_, ?_, ?_, ?_⟩ hn (KeptL.refl _ _)
 ·rw [hH0', ← hH0]
  exact ⟨hdx, hdi.next (fun _ => rfl) (fun _ => rfl), htop.mono (by simp), New.refl _ _, by simp⟩
 ·rw [hE0]; exact he.ext hdx
 ·intro j hj _
  rw [hH0', ← hH0]
  have := htop (base + j) (by omega)
  exact (hdi.next (H' := { H with next := base + ops.size }) (fun _ => rfl) (fun _ => rfl)).fresh_of this.1 this.2
 ·rw [hH0', ← hH0]; simp
end Go.Proofs.YtghhkbigmmjanaaGreatDoor.VA

/-! Vb7 -/
namespace Go.Proofs.YtghhkbigmmjanaaGreatDoor.VA
open Go Go.RowKit
set_option linter.unusedSimpArgs false

/-- Is a function's code such that the interpreter may go over it? -/
def codeOk (n : Nat) : Code → Bool
 | .region _ ops d => ops.toList.all (dstOk n) && (!d || drawOk ops)
 | .seq a b => codeOk n a && codeOk n b
 | .cond _ a b => codeOk n a && codeOk n b
 | .block _ a => codeOk n a
 | .loop a => codeOk n a
 | .scope a => codeOk n a
 | _ => true
/-- Does a piece of code write a slot? -/
def noW (s : Nat) : Code → Bool
 | .region _ ops _ => ops.toList.all fun o => o.dst != some s
 | .seq a b | .cond _ a b => noW s a && noW s b
 | .block _ a | .loop a | .scope a => noW s a
 | _ => true
def Kept (c : Code) (a a' : Act) : Prop := a'.defers = a.defers ∧ ∀ s, noW s c = true → a'.tmps.getD s undef = a.tmps.getD s undef
theorem Kept.refl (c : Code) (a : Act) : Kept c a a := ⟨rfl, fun _ _ => rfl⟩
theorem Kept.left {x y : Code} {a a' : Act} (h : Kept x a a') : Kept (.seq x y) a a' := ⟨h.1, fun s hs => h.2 s (by simp only [noW, Bool.and_eq_true] at hs; exact hs.1)⟩
theorem Kept.seq {x y : Code} {a a1 a2 : Act} (h : Kept x a a1) (k : Kept y a1 a2) : Kept (.seq x y) a a2 :=
 ⟨k.1.trans h.1, fun s hs => by simp only [noW, Bool.and_eq_true] at hs; exact (k.2 s hs.2).trans (h.2 s hs.1)⟩
theorem Kept.condL {t : Operand} {x y : Code} {a a' : Act} (h : Kept x a a') : Kept (.cond t x y) a a' := ⟨h.1, fun s hs => h.2 s (by simp only [noW, Bool.and_eq_true] at hs; exact hs.1)⟩
theorem Kept.condR {t : Operand} {x y : Code} {a a' : Act} (h : Kept y a a') : Kept (.cond t x y) a a' := ⟨h.1, fun s hs => h.2 s (by simp only [noW, Bool.and_eq_true] at hs; exact hs.2)⟩
theorem Kept.block {id : Nat} {x : Code} {a a' : Act} (h : Kept x a a') : Kept (.block id x) a a' := ⟨h.1, fun s hs => h.2 s (by simpa only [noW] using hs)⟩
theorem Kept.scope {x : Code} {a a' : Act} (h : Kept x a a') : Kept (.scope x) a a' := ⟨h.1, fun s hs => h.2 s (by simpa only [noW] using hs)⟩
theorem Kept.one {x : Code} {a a' : Act} (h : Kept x a a') : Kept (.loop x) a a' := ⟨h.1, fun s hs => h.2 s (by simpa only [noW] using hs)⟩
theorem Kept.round {x : Code} {a a1 a2 : Act} (h : Kept x a a1) (k : Kept (.loop x) a1 a2) : Kept (.loop x) a a2 :=
 ⟨k.1.trans h.1, fun s hs => (k.2 s hs).trans (h.2 s (by simpa only [noW] using hs))⟩
theorem KeptL.region {id : Nat} {ops : Array Oper} {d : Bool} {a a' : Act} (h : KeptL ops.toList a a') : Kept (.region id ops d) a a' := ⟨h.1, fun s hs => h.2 s (by simpa only [noW] using hs)⟩
theorem exec_sound {P : Program} {C : Cond} {K : Calling} {imp : FuncId → Bool} (hK : KOk P C K imp) (hm : P.follows .mixedOrders = true) {n : Nat} : ∀ (k : Nat) (c : Code) (e : List AV) (H : Heap) (ex : Ex) (e' : List AV) (H' : Heap),
  exec P K imp k c e H = some (ex, e', H') → codeOk n c = true → ∀ (g : Gh) (a : Act) (w : World), g.cond = C → Inv g H w → EnvRel g w e a.tmps → a.tmps.size = n → Top g H.next → ∀ Q : Exit → Act → World → Prop,
  (∀ g' x a' w', Past H.next g w g' H' w' → Kept c a a' → a'.tmps.size = n → ExRel g' w' x a' ex e' → Q x a' w') →
  c.wp P Q a w ∧ ∀ body, c = .loop body → Code.rounds P body Q k a w := by
 intro k
 induction k with
 | zero => intro c e H ex e' H' h; simp [exec] at h
 | succ k ih =>
  intro c e H ex e' H' h hc g a w hC hi he hn ht Q hQ
  have hrefl : Past H.next g w g H w := ⟨Ext.refl g w, hi, ht, New.refl _ _, Nat.le_refl _⟩
  cases c with
  | skip =>
   simp only [exec, Option.some.injEq, Prod.mk.injEq] at h
   obtain ⟨rfl, rfl, rfl⟩ := h
   exact ⟨wp_skip (hQ g _ a w hrefl (Kept.refl _ _) hn ⟨rfl, he⟩), fun b hb => by cases hb⟩
  | label l =>
   simp only [exec, Option.some.injEq, Prod.mk.injEq] at h
   obtain ⟨rfl, rfl, rfl⟩ := h
   exact ⟨wp_label (hQ g _ a w hrefl (Kept.refl _ _) hn ⟨rfl, he⟩), fun b hb => by cases hb⟩
  | exit id =>
   simp only [exec, Option.some.injEq, Prod.mk.injEq] at h
   obtain ⟨rfl, rfl, rfl⟩ := h
   exact ⟨wp_exit (hQ g _ a w hrefl (Kept.refl _ _) hn ⟨rfl, he⟩), fun b hb => by cases hb⟩
  | ret =>
   simp only [exec, Option.some.injEq, Prod.mk.injEq] at h
   obtain ⟨rfl, rfl, rfl⟩ := h
   exact ⟨wp_ret (hQ g _ a w hrefl (Kept.refl _ _) hn ⟨rfl, he⟩), fun b hb => by cases hb⟩
  | goto l => simp [exec] at h
  | refuse why => simp [exec] at h
  | rangeFunc f ps as b => simp [exec] at h
  | region id ops d =>
   refine ⟨?_, fun b hb => by cases hb⟩
   simp only [exec] at h
   simp only [codeOk, Bool.and_eq_true, Bool.or_eq_true, Bool.not_eq_true'] at hc
   have hds : ∀ o, o ∈ ops.toList → dstOk n o = true := List.all_eq_true.1 hc.1
   cases d with
   | false =>
    simp only [runRegion] at h
    refine wp_region ?_
    have := runOps_sound hK (base := H.next) (n := n) ops.toList 0 e { H with next := H.next + ops.size } ex e' H' h (by simp) hds g a w hC (hi.next (fun _ => rfl) (fun _ => rfl)) he hn (ht.mono (by simp)) ?_ (by simp) Q ?_
    ·rw [Array.length_toList] at this
     rw [List.range_eq_range']
     exact this
    ·intro j h1 h2
     have := ht (H.next + j) (by omega)
     exact (hi.next (H' := { H with next := H.next + ops.size }) (fun _ => rfl) (fun _ => rfl)).fresh_of this.1 this.2
    ·intro g' x a' w' hp hd hs hx
     exact hQ g' x a' w' hp hd.region hs hx
   | true =>
    simp only [runRegion] at h
    split at h
    ·cases h
    ·rename_i tr pk e1 H1 hrun
     split at h
     ·rename_i hok
      have hdo : drawOk ops = true := by simpa using hc.2
      refine draw_sound hK hm hdo hds hrun hok hC hi he hn ht Q ?_ ?_
      ·intro hpk g' a' w' hp hd hs hen
       subst hpk
       simp only [Option.some.injEq, Prod.mk.injEq] at h
       obtain ⟨rfl, rfl, rfl⟩ := h
       exact hQ g' _ a' w' hp hd.region hs ⟨rfl, hen⟩
      ·intro kk v Hp hpk g' a' w' u hp hd hs hrel
       subst hpk
       simp only [Option.some.injEq, Prod.mk.injEq] at h
       obtain ⟨rfl, rfl, rfl⟩ := h
       exact hQ g' _ a' w' hp hd.region hs ⟨u, rfl, hrel⟩
     ·cases h
  | seq x y =>
   refine ⟨?_, fun b hb => by cases hb⟩
   simp only [codeOk, Bool.and_eq_true] at hc
   simp only [exec] at h
   refine wp_seq ?_
   cases hx : exec P K imp k x e H with
   | none => rw [hx] at h; cases h
   | some r =>
    obtain ⟨ex1, e1, H1⟩ := r
    rw [hx] at h
    refine (ih x e H ex1 e1 H1 hx hc.1 g a w hC hi he hn ht _ ?_).1
    intro g' x' a' w' hp hd hs hr
    cases ex1 with
    | nrm =>
     obtain ⟨rfl, hen⟩ := hr
     simp only at h
     exact (ih y e1 H1 ex e' H' h hc.2 g' a' w' (hp.ext.cond.trans hC) hp.inv hen hs hp.top Q (fun g2 x2 a2 w2 hp2 hd2 hs2 hr2 => hQ g2 x2 a2 w2 (hp.trans hp2 hp.next) (hd.seq hd2) hs2 hr2)).1
    | exit id =>
     simp only [Option.some.injEq, Prod.mk.injEq] at h
     obtain ⟨rfl, rfl, rfl⟩ := h
     obtain ⟨rfl, hen⟩ := hr
     exact hQ g' _ a' w' hp hd.left hs ⟨rfl, hen⟩
    | ret =>
     simp only [Option.some.injEq, Prod.mk.injEq] at h
     obtain ⟨rfl, rfl, rfl⟩ := h
     obtain ⟨rfl, hen⟩ := hr
     exact hQ g' _ a' w' hp hd.left hs ⟨rfl, hen⟩
    | pan v =>
     simp only [Option.some.injEq, Prod.mk.injEq] at h
     obtain ⟨rfl, rfl, rfl⟩ := h
     obtain ⟨u, rfl, hen⟩ := hr
     exact hQ g' _ a' w' hp hd.left hs ⟨u, rfl, hen⟩
  | cond cc x y =>
   refine ⟨?_, fun b hb => by cases hb⟩
   simp only [codeOk, Bool.and_eq_true] at hc
   simp only [exec] at h
   have hr := he.eval cc
   split at h
   ·rename_i hb
    rw [hb] at hr
    exact wp_cond_true hr.lit_inv (ih x e H ex e' H' h hc.1 g a w hC hi he hn ht Q (fun g2 x2 a2 w2 hp2 hd2 hs2 hr2 => hQ g2 x2 a2 w2 hp2 hd2.condL hs2 hr2)).1
   ·rename_i hb
    rw [hb] at hr
    exact wp_cond_false hr.lit_inv (ih y e H ex e' H' h hc.2 g a w hC hi he hn ht Q (fun g2 x2 a2 w2 hp2 hd2 hs2 hr2 => hQ g2 x2 a2 w2 hp2 hd2.condR hs2 hr2)).1
   ·cases h
  | block id x =>
   refine ⟨?_, fun b hb => by cases hb⟩
   simp only [codeOk] at hc
   simp only [exec] at h
   refine wp_block ?_
   cases hx : exec P K imp k x e H with
   | none => rw [hx] at h; cases h
   | some r =>
    obtain ⟨ex1, e1, H1⟩ := r
    rw [hx] at h
    refine (ih x e H ex1 e1 H1 hx hc g a w hC hi he hn ht _ ?_).1
    intro g' x' a' w' hp hd hs hr
    cases ex1 with
    | nrm =>
     simp only [Option.some.injEq, Prod.mk.injEq] at h
     obtain ⟨rfl, rfl, rfl⟩ := h
     obtain ⟨rfl, hen⟩ := hr
     exact hQ g' _ a' w' hp hd.block hs ⟨rfl, hen⟩
    | exit j =>
     obtain ⟨rfl, hen⟩ := hr
     simp only at h
     simp only [Exit.inBlock]
     split at h
     ·rename_i hj
      simp only [Option.some.injEq, Prod.mk.injEq] at h
      obtain ⟨rfl, rfl, rfl⟩ := h
      rw [if_pos hj]
      exact hQ g' _ a' w' hp hd.block hs ⟨rfl, hen⟩
     ·rename_i hj
      simp only [Option.some.injEq, Prod.mk.injEq] at h
      obtain ⟨rfl, rfl, rfl⟩ := h
      rw [if_neg hj]
      exact hQ g' _ a' w' hp hd.block hs ⟨rfl, hen⟩
    | ret =>
     simp only [Option.some.injEq, Prod.mk.injEq] at h
     obtain ⟨rfl, rfl, rfl⟩ := h
     obtain ⟨rfl, hen⟩ := hr
     exact hQ g' _ a' w' hp hd.block hs ⟨rfl, hen⟩
    | pan v =>
     simp only [Option.some.injEq, Prod.mk.injEq] at h
     obtain ⟨rfl, rfl, rfl⟩ := h
     obtain ⟨u, rfl, hen⟩ := hr
     exact hQ g' _ a' w' hp hd.block hs ⟨u, rfl, hen⟩
  | loop x =>
   simp only [codeOk] at hc
   simp only [exec] at h
   have hrounds : Code.rounds P x Q (k + 1) a w := by
    rw [rounds_succ]
    cases hx : exec P K imp k x e H with
    | none => rw [hx] at h; cases h
    | some r =>
     obtain ⟨ex1, e1, H1⟩ := r
     rw [hx] at h
     refine (ih x e H ex1 e1 H1 hx hc g a w hC hi he hn ht _ ?_).1
     intro g' x' a' w' hp hd hs hr
     cases ex1 with
     | nrm =>
      obtain ⟨rfl, hen⟩ := hr
      simp only at h
      exact (ih (.loop x) e1 H1 ex e' H' h (by simpa [codeOk] using hc) g' a' w' (hp.ext.cond.trans hC) hp.inv hen hs hp.top Q
       (fun g2 x2 a2 w2 hp2 hd2 hs2 hr2 => hQ g2 x2 a2 w2 (hp.trans hp2 hp.next) (hd.round hd2) hs2 hr2)).2 x rfl
     | exit id =>
      simp only [Option.some.injEq, Prod.mk.injEq] at h
      obtain ⟨rfl, rfl, rfl⟩ := h
      obtain ⟨rfl, hen⟩ := hr
      exact hQ g' _ a' w' hp hd.one hs ⟨rfl, hen⟩
     | ret =>
      simp only [Option.some.injEq, Prod.mk.injEq] at h
      obtain ⟨rfl, rfl, rfl⟩ := h
      obtain ⟨rfl, hen⟩ := hr
      exact hQ g' _ a' w' hp hd.one hs ⟨rfl, hen⟩
     | pan v =>
      simp only [Option.some.injEq, Prod.mk.injEq] at h
      obtain ⟨rfl, rfl, rfl⟩ := h
      obtain ⟨u, rfl, hen⟩ := hr
      exact hQ g' _ a' w' hp hd.one hs ⟨u, rfl, hen⟩
   refine ⟨wp_loop_rounds (k + 1) hrounds, fun b hb => ?_⟩
   simp only [Code.loop.injEq] at hb
   subst hb
   exact hrounds
  | scope x =>
   refine ⟨?_, fun b hb => by cases hb⟩
   simp only [codeOk] at hc
   simp only [exec] at h
   refine wp_scope_straight (ih x e H ex e' H' h hc g a w hC hi he hn ht _ ?_).1
   intro g' x' a' w' hp hd hs hr
   have hq := hQ g' x' a' w' hp hd.scope hs hr
   cases ex with
   | nrm => obtain ⟨rfl, hen⟩ := hr; exact hq
   | exit id => obtain ⟨rfl, hen⟩ := hr; exact hq
   | ret => obtain ⟨rfl, hen⟩ := hr; exact hq
   | pan v => obtain ⟨u, rfl, hen⟩ := hr; exact hq

/-! ### results -/
def resF (tmps : Array Value) : ResultVar → Sem Value
 | .tmp t => pure (tmps.getD t undef)
 | .cell a t => do loadVar t (← asAddr (tmps.getD a undef))
theorem results_eq (fn : Func) (tmps : Array Value) : results fn tmps = (do
  let vs ← fn.results.mapM (resF tmps)
  pure (if h : vs.size = 1 then vs[0] else .tuple vs)) := rfl
theorem aResult_sound {P : Program} {g : Gh} {H : Heap} {w : World} {e : List AV} {tmps : Array Value} {r : ResultVar} {v : AV} (h : aResult P e H r = some v) (hi : Inv g H w) (he : EnvRel g w e tmps) :
  ∃ u, (resF tmps r).run P w = .ok u w ∧ Rel g w v u := by
 cases r with
 | tmp t =>
  simp only [aResult, Option.some.injEq] at h
  subst h
  exact ⟨_, rfl, he t⟩
 | cell a t =>
  simp only [aResult] at h
  cases hl : aLoad P t (gget .bad e a) H with
  | none => simp [hl] at h
  | some p =>
   obtain ⟨z, rs⟩ := p
   simp [hl] at h
   subst h
   obtain ⟨u, h1, h2⟩ := aLoad_sound hl hi (he a)
   refine ⟨u, ?_, h2⟩
   have hr := he a
   simp only [Instr.loadAt] at h1
   have : ∃ ad, tmps.getD a undef = .pointer (some ad) := by
    generalize tmps.getD a undef = v at hr
    generalize gget .bad e a = x at hr hl
    cases hr with
    | ptr r off b hb => exact ⟨_, rfl⟩
    | ep cs b off f hv hc hrr => exact ⟨_, rfl⟩
    | _ => unfold aLoad at hl; split at hl <;> simp at hl
   obtain ⟨ad, hv⟩ := this
   simp only [resF]
   rw [hv] at h1 ⊢
   simpa [asAddr, Instr.sureAddr] using h1
theorem aResults_sound {P : Program} {g : Gh} {H : Heap} {w : World} {e : List AV} {tmps : Array Value} (hi : Inv g H w) (he : EnvRel g w e tmps) : ∀ (l : List ResultVar) (vs : List AV), aResults P e H l = some vs →
  ∃ us, (l.mapM (resF tmps)).run P w = .ok us w ∧ RelL g w vs us
 | [], vs, h => by simp [aResults] at h; subst h; exact ⟨[], rfl, RelL.nil g w⟩
 | r :: l, vs, h => by
  simp only [aResults] at h
  split at h
  ·rename_i v vs' h1 h2
   simp only [Option.some.injEq] at h
   subst h
   obtain ⟨u, q1, q2⟩ := aResult_sound h1 hi he
   obtain ⟨us, q3, q4⟩ := aResults_sound hi he l vs' h2
   refine ⟨u :: us, ?_, RelL.cons q2 q4⟩
   simp only [List.mapM_cons, Sem.run_bind, q1, Result.andThen_ok, q3, Sem.run_pure]
  ·cases h
theorem results_sound {P : Program} {g : Gh} {H : Heap} {w : World} {e : List AV} {tmps : Array Value} {fn : Func} {vs : List AV} (h : aResults P e H fn.results.toList = some vs) (hi : Inv g H w) (he : EnvRel g w e tmps) :
  ∃ u, (results fn tmps).run P w = .ok u w ∧ Rel g w (oneOr vs) u := by
 obtain ⟨us, h1, h2⟩ := aResults_sound hi he _ _ h
 rw [results_eq]
 simp only [Sem.run_bind, Array.mapM_eq_mapM_toList, Sem.run_map, h1, Result.andThen_ok, Sem.run_pure]
 refine ⟨_, rfl, ?_⟩
 cases vs with
 | nil =>
  cases us with
  | nil => exact .tup [] _ rfl (by simp)
  | cons u us => exact absurd h2.1 (by simp)
 | cons v vs =>
  cases us with
  | nil => exact absurd h2.1 (by simp)
  | cons u us =>
   cases vs with
   | nil =>
    cases us with
    | nil => simpa [oneOr] using h2.head
    | cons u' us => exact absurd h2.1 (by simp)
   | cons v' vs =>
    cases us with
    | nil => exact absurd h2.1 (by simp)
    | cons u' us =>
     simp only [oneOr]
     rw [dif_neg (by simp)]
     exact Rel.mk_tup (by simpa using h2)
end Go.Proofs.YtghhkbigmmjanaaGreatDoor.VA

/-! Vm2 -/
namespace Go.Proofs.YtghhkbigmmjanaaGreatDoor.VA
open Go Go.RowKit
set_option linter.unusedSimpArgs false

theorem renS_spec {N : Nat} {live : Nat → Bool} : ∀ (cs : List AV) (seen : List Nat) (j i s : Nat), renS N live seen j cs i = some s → j ≤ i ∧ i < 64 ∧ N ≤ s ∧ live s = true ∧ s ∉ seen
 | [], seen, j, i, s, h => by simp [renS] at h
 | x :: l, seen, j, i, s, h => by
  have up : ∀ seen', (∀ a, a ∈ seen → a ∈ seen') → renS N live seen' (j + 1) l i = some s → j ≤ i ∧ i < 64 ∧ N ≤ s ∧ live s = true ∧ s ∉ seen := fun seen' hs h => by
   obtain ⟨h1, h2, h3, h4, h5⟩ := renS_spec l seen' (j + 1) i s h
   exact ⟨by omega, h2, h3, h4, fun h => h5 (hs s h)⟩
  unfold renS at h
  split at h
  ·cases ‹_ = []›
  ·rename_i s' e z es l' i' heq
   obtain ⟨rfl, rfl⟩ := List.cons.inj heq
   split at h
   ·exact up seen (fun _ h => h) h
   ·split at h
    ·rename_i h1 h2
     split at h
     ·rename_i hij
      simp only [Option.some.injEq] at h
      subst h; subst hij
      exact ⟨Nat.le_refl _, h2.2.2, by omega, h2.1, h2.2.1⟩
     ·exact up _ (fun _ h => List.mem_cons_of_mem _ h) h
    ·exact up seen (fun _ h => h) h
  ·rename_i x' l' i' _ heq
   obtain ⟨rfl, rfl⟩ := List.cons.inj heq
   exact up seen (fun _ h => h) h
theorem renS_other {N : Nat} {live : Nat → Bool} {x : AV} {l : List AV} {seen : List Nat} {j i : Nat} (h : ∀ s e z es, x = .sl (.own s e z) es → False) : renS N live seen j (x :: l) i = renS N live seen (j + 1) l i := by
 cases x with
 | sl o es => cases o with
  | own s e z => exact (h _ _ _ _ rfl).elim
  | _ => rfl
 | _ => rfl
theorem renS_inj {N : Nat} {live : Nat → Bool} : ∀ (cs : List AV) (seen : List Nat) (j i i' s : Nat), renS N live seen j cs i = some s → renS N live seen j cs i' = some s → i = i'
 | [], seen, j, i, i', s, h, _ => by simp [renS] at h
 | x :: l, seen, j, i, i', s, h, h' => by
  have h0 := h'
  unfold renS at h h'
  split at h
  ·cases ‹_ = []›
  ·rename_i s' e z es l' i1 heq
   obtain ⟨rfl, rfl⟩ := List.cons.inj heq
   simp only at h'
   split at h
   ·rename_i h1
    rw [if_pos h1] at h'
    exact renS_inj l _ _ _ _ _ h h'
   ·rename_i h1
    rw [if_neg h1] at h'
    split at h
    ·rename_i h2
     rw [if_pos h2] at h'
     split at h
     ·rename_i hij
      simp only [Option.some.injEq] at h
      split at h'
      ·rename_i hij'; rw [hij, hij']
      ·have := (renS_spec l _ _ _ _ h').2.2.2.2
       rw [h] at this
       exact absurd (List.mem_cons_self ..) this
     ·split at h'
      ·simp only [Option.some.injEq] at h'
       have := (renS_spec l _ _ _ _ h).2.2.2.2
       rw [h'] at this
       exact absurd (List.mem_cons_self ..) this
      ·exact renS_inj l _ _ _ _ _ h h'
    ·rename_i h2
     rw [if_neg h2] at h'
     exact renS_inj l _ _ _ _ _ h h'
  ·rename_i x' l' i1 hne heq
   obtain ⟨rfl, rfl⟩ := List.cons.inj heq
   rw [renS_other hne] at h0
   exact renS_inj l _ _ _ _ _ h h0
/-- The same up to a number, and the renamed behind it. -/
structure Cut (N : Nat) (g g2 : Gh) : Prop where
 vis : ∀ b, g.vis b ≤ g2.vis b
 box : ∀ r, r < N → g2.box r = g.box r
 own : ∀ r, r < N → g2.own r = g.own r
theorem Rel.slC {g g2 : Gh} {w : World} {o o2 : Own} {es : List (List AV)} {v : Value} (h : Rel g w (.sl o es) v) (hv : ∀ b, g.vis b ≤ g2.vis b) (hn : o = .nil ↔ o2 = .nil) (hx : o2 = .ex → o = .ex)
  (ho : ∀ s e z, o2 = .own s e z → ∃ s', o = .own s' e z ∧ g2.own s = g.own s') : Rel g2 w (.sl o2 (sanLL es)) v := by
 cases h with
 | nil => rw [hn.1 rfl]; exact .nil
 | sl o es a n cap sz f ho' hn' hcap hex hown hsz h1 ha hr =>
  refine .sl o2 (sanLL es) a n cap sz f (fun h => ho' (hn.2 h)) (by rw [length_sanLL]; exact hn') hcap (fun h => hex (hx h)) ?_ ?_ h1 ?_ ?_
  ·intro s e z hs
   obtain ⟨s', h2, h3⟩ := ho s e z hs
   obtain ⟨h4, b, h5, h6⟩ := hown s' e z h2
   exact ⟨h4, b, h5, by rw [h3]; exact h6⟩
  ·intro x hx
   rw [sanLL_map] at hx
   obtain ⟨y, hy, rfl⟩ := List.mem_map.1 hx
   rw [length_sanL]; exact hsz y hy
  ·intro h0
   obtain ⟨b, off, h4, h2, h3⟩ := ha h0
   exact ⟨b, off, h4, Nat.le_trans h2 (hv b), h3⟩
  ·intro i e j x he hx
   obtain ⟨e', he', rfl⟩ := getElem?_sanLL he
   obtain ⟨x', hx', rfl⟩ := getElem?_sanL hx
   exact (hr i e' j x' he' hx').san hv
theorem Rel.sanT {N : Nat} {g g2 : Gh} {w : World} {x : AV} {v : Value} (h : Rel g w x v) (c : Cut N g g2) : Rel g2 w (sanT N x) v := by
 unfold VA.sanT
 split
 ·rename_i s e z es
  split
  ·rename_i hs
   exact h.slC c.vis (by simp) (by simp) (fun s' e' z' hh => by simp at hh; obtain ⟨rfl, rfl, rfl⟩ := hh; exact ⟨s, rfl, c.own s hs⟩)
  ·exact h.slC c.vis (by simp) (by simp) (fun s' e' z' hh => by cases hh)
 ·rename_i o es hno
  exact h.slC c.vis Iff.rfl (fun h => h) (fun s e z hh => absurd hh (hno s e z))
 ·rename_i r off
  split
  ·rename_i hr
   cases h with | ptr r off b hb => exact .ptr r off b (by rw [c.box r hr]; exact hb)
  ·exact .bad _
 ·rename_i r
  split
  ·rename_i hr
   cases h with | mp r b hb => exact .mp r b (by rw [c.box r hr]; exact hb)
  ·exact .bad _
 ·exact h.san c.vis
theorem RelL.sanT {N : Nat} {g g2 : Gh} {w : World} {cs : List AV} {vs : List Value} (h : RelL g w cs vs) (c : Cut N g g2) : RelL g2 w (cs.map (VA.sanT N)) vs := by
 refine ⟨by simp [h.1], fun i x v hx hv => ?_⟩
 rw [List.getElem?_map] at hx
 obtain ⟨y, hy, rfl⟩ := Option.map_eq_some_iff.1 hx
 exact (h.2 i y v hy hv).sanT c
theorem RelL.renC {N : Nat} {live : Nat → Bool} {g g2 : Gh} {w : World} (c : Cut N g g2) : ∀ (cs : List AV) (vs : List Value) (seen : List Nat) (j : Nat), RelL g w cs vs →
  (∀ i s, renS N live seen j cs i = some s → g2.own (N + i) = g.own s) → RelL g2 w (VA.renC N live seen j cs) vs
 | [], vs, seen, j, h, _ => by
  cases vs with
  | nil => exact RelL.nil _ _
  | cons v vs => exact absurd h.1 (by simp)
 | x :: l, vs, seen, j, h, ho => by
  cases vs with
  | nil => exact absurd h.1 (by simp)
  | cons v vs =>
   unfold VA.renC
   unfold renS at ho
   split
   ·cases ‹_ = []›
   ·rename_i s e z es l' heq
    obtain ⟨rfl, rfl⟩ := List.cons.inj heq
    simp only at ho
    split
    ·rename_i hs
     simp only [if_pos hs] at ho
     exact RelL.cons (h.head.slC c.vis (by simp) (by simp) (fun s' e' z' hh => by simp at hh; obtain ⟨rfl, rfl, rfl⟩ := hh; exact ⟨s, rfl, c.own s hs⟩)) (RelL.renC c l vs _ _ h.tail ho)
    ·rename_i hs
     simp only [if_neg hs] at ho
     split
     ·rename_i h2
      simp only [if_pos h2] at ho
      refine RelL.cons (h.head.slC c.vis (by simp) (by simp) (fun s' e' z' hh => by
       simp at hh; obtain ⟨rfl, rfl, rfl⟩ := hh
       exact ⟨s, rfl, ho j s (by rw [if_pos rfl])⟩)) (RelL.renC c l vs _ _ h.tail fun i s' hi => ho i s' ?_)
      have := (renS_spec l _ _ _ _ hi).1
      rw [if_neg (by omega)]; exact hi
     ·rename_i h2
      simp only [if_neg h2] at ho
      exact RelL.cons (h.head.slC c.vis (by simp) (by simp) (fun s' e' z' hh => by cases hh)) (RelL.renC c l vs _ _ h.tail ho)
   ·rename_i x' l' hne heq
    obtain ⟨rfl, rfl⟩ := List.cons.inj heq
    refine RelL.cons (h.head.sanT c) (RelL.renC c l vs _ _ h.tail fun i s hi => ho i s ?_)
    split
    ·cases ‹_ = []›
    ·rename_i s2 e2 z2 es2 l2 i2 heq2
     obtain ⟨rfl, rfl⟩ := List.cons.inj heq2
     exact absurd rfl (hne _ _ _ _)
    ·rename_i heq2; obtain ⟨_, rfl⟩ := List.cons.inj heq2; exact hi
/-- What meant something ahead, means the same without the new names. -/
theorem Rel.keep {N : Nat} {g0 g g2 : Gh} {w0 w : World} {x : AV} {v v0 : Value} (h : Rel g w x v) (c : Cut N g g2) (ht : Top g0 N) (h0 : Rel g0 w0 x v0) : Rel g2 w x v := by
 have lt : ∀ r b, g0.box r = some b → r < N := fun r b h => by
  apply Classical.byContradiction; intro hh
  rw [(ht r (by omega)).1] at h; cases h
 have lt2 : ∀ r b, g0.own r = some b → r < N := fun r b h => by
  apply Classical.byContradiction; intro hh
  rw [(ht r (by omega)).2] at h; cases h
 induction h generalizing v0 with
 | bad v => exact .bad v
 | lit v => exact .lit v
 | nil => exact .nil
 | sl o es a n cap sz f ho hn hcap hex hown hsz h1 ha hr ih =>
  cases h0 with
  | nil => exact absurd rfl ho
  | sl o es a' n' cap' sz' f' ho' hn' hcap' hex' hown' hsz' h1' ha' hr' =>
   refine .sl o es a n cap sz f ho hn hcap hex ?_ hsz h1 ?_ ?_
   ·intro s e z hs
    obtain ⟨h4, b, h2, h3⟩ := hown s e z hs
    obtain ⟨_, b', _, h3'⟩ := hown' s e z hs
    exact ⟨h4, b, h2, by rw [c.own s (lt2 s _ h3')]; exact h3⟩
   ·intro h0
    obtain ⟨b, off, h4, h2, h3⟩ := ha h0
    exact ⟨b, off, h4, Nat.le_trans h2 (c.vis b), h3⟩
   ·intro i e j x he hx
    exact ih i e j x he hx (hr' i e j x he hx)
 | ptr r off b h => cases h0 with | ptr r off b' h' => exact .ptr r off b (by rw [c.box r (lt r _ h')]; exact h)
 | ep cs b off f hv hc hr ih =>
  cases h0 with
  | ep cs b' off' f' hv' hc' hr' => exact .ep cs b off f (Nat.le_trans hv (c.vis b)) hc (fun j x hx => ih j x hx (hr' j x hx))
 | fn fid caps vs hl hr ih =>
  cases h0 with
  | fn fid caps vs' hl' hr' =>
   refine .fn fid caps vs hl (fun i x v hx hv => ?_)
   have hi : i < vs'.size := by have := (List.getElem?_eq_some_iff.1 hx).1; omega
   exact ih i x v hx hv (hr' i x _ hx (Array.getElem?_eq_getElem hi))
 | ifc t x v h ih => cases h0 with | ifc t x v' h' => exact .ifc t x v (ih h')
 | mp r b h => cases h0 with | mp r b' h' => exact .mp r b (by rw [c.box r (lt r _ h')]; exact h)
 | agg cs vs hl hr ih =>
  cases h0 with
  | agg cs vs' hl' hr' =>
   refine .agg cs vs hl (fun i x v hx hv => ?_)
   have hi : i < vs'.size := by have := (List.getElem?_eq_some_iff.1 hx).1; omega
   exact ih i x v hx hv (hr' i x _ hx (Array.getElem?_eq_getElem hi))
 | tup cs vs hl hr ih =>
  cases h0 with
  | tup cs vs' hl' hr' =>
   refine .tup cs vs hl (fun i x v hx hv => ?_)
   have hi : i < vs'.size := by have := (List.getElem?_eq_some_iff.1 hx).1; omega
   exact ih i x v hx hv (hr' i x _ hx (Array.getElem?_eq_getElem hi))
theorem RelL.keep {N : Nat} {g0 g g2 : Gh} {w0 w : World} {cs : List AV} {vs vs0 : List Value} (h : RelL g w cs vs) (c : Cut N g g2) (ht : Top g0 N) (h0 : RelL g0 w0 cs vs0) : RelL g2 w cs vs := by
 refine ⟨h.1, fun i x v hx hv => ?_⟩
 have hi : i < vs0.length := by rw [← h0.1]; exact (List.getElem?_eq_some_iff.1 hx).1
 exact (h.2 i x v hx hv).keep c ht (h0.2 i x _ hx (List.getElem?_eq_getElem hi))
theorem trim_past {g g' : Gh} {H H' : Heap} {w w' : World} (hi : Inv g H w) (ht : Top g H.next) (hp : Past H.next g w g' H' w') (R : Option Nat) :
  ∃ g2, Past H.next g w g2 (trimH H H' R) w' ∧ ∀ b, g'.vis b ≤ g2.vis b := by
 generalize hN : H.next = N at *
 let g2 : Gh := { g' with box := fun k => if k < N then g'.box k else none, own := fun k => if k < N then g'.own k else (trimS H H' R (k - N)).bind g'.own }
 have c : Cut N g' g2 := ⟨fun _ => Nat.le_refl _, fun r hr => by simp [g2, hr], fun r hr => by simp [g2, hr]⟩
 have hx := hp.ext
 have he : Ext g w g2 w' := ⟨hx.lo, hx.os, hx.tape, hx.output, hx.size, hx.low, hx.lowv, hx.vis, hx.cell, fun r b hb => by
   have hr : r < N := by apply Classical.byContradiction; intro hh; rw [(ht r (by omega)).1] at hb; cases hb
   rw [c.box r hr]; exact hx.box r b hb, fun s x hs => by
   have hr : s < N := by apply Classical.byContradiction; intro hh; rw [(ht s (by omega)).2] at hs; cases hs
   rw [c.own s hr]; exact hx.own s x hs, hx.cond⟩
 -- which name a name behind had
 have hS : ∀ i s, trimS H H' R i = some s → N ≤ s ∧ H'.isLive s = true ∧ i < 64 ∧ g2.own (N + i) = g'.own s := by
  intro i s h
  have h' := h
  unfold trimS at h
  cases R with
  | none => cases h
  | some r =>
   simp only at h
   split at h
   ·cases hg : H'.get r with
    | none => rw [hg] at h; cases h
    | some cs =>
     rw [hg] at h
     simp only [Option.bind_some, hN] at h
     obtain ⟨_, h2, h3, h4, _⟩ := renS_spec cs _ _ _ _ h
     refine ⟨h3, h4, h2, ?_⟩
     simp only [g2]
     rw [if_neg (by omega), Nat.add_sub_cancel_left, h']
     rfl
   ·cases h
 have hSi : ∀ i i' s, trimS H H' R i = some s → trimS H H' R i' = some s → i = i' := by
  intro i i' s h h'
  unfold trimS at h h'
  cases R with
  | none => cases h
  | some r =>
   simp only at h h'
   split at h
   ·rename_i hc
    rw [if_pos hc] at h'
    cases hg : H'.get r with
    | none => rw [hg] at h; cases h
    | some cs =>
     rw [hg] at h h'
     exact renS_inj cs _ _ _ _ _ h h'
   ·cases h
 have hlow : ∀ k, N ≤ k → H.ho k = none := by
  intro k hk
  cases ho : H.ho k with
  | none => rfl
  | some o =>
   cases o with
   | bx cs => obtain ⟨b, _, _, h1, _⟩ := hi.box k cs (HO.cells_some.2 ho); rw [(ht k hk).1] at h1; cases h1
   | mpo ks vs => obtain ⟨b, _, _, h1, _⟩ := hi.map k ks vs (HO.pairs_some.2 ho); rw [(ht k hk).1] at h1; cases h1
 have hll : ∀ k, N ≤ k → H.isLive k = false := by
  intro k hk
  cases hl : H.isLive k with
  | false => rfl
  | true => obtain ⟨b, n, cap, e, sz, vs, h1, _⟩ := hi.live k hl; rw [(ht k hk).2] at h1; cases h1
 -- what lives behind
 have hL : ∀ k, (trimH H H' R).isLive k = true → ∃ s, H'.isLive s = true ∧ g2.own k = g'.own s ∧ (k < N ∧ s = k ∨ N ≤ k ∧ trimS H H' R (k - N) = some s) := by
  intro k hk
  have hk' : (if k < H.next then H'.live k else if (trimS H H' R (k - H.next)).isSome then true else H.live k) = true := hk
  rw [hN] at hk'
  split at hk'
  ·rename_i h1; exact ⟨k, hk', c.own k h1, .inl ⟨h1, rfl⟩⟩
  ·rename_i h1
   cases hs : trimS H H' R (k - N) with
   | none => rw [hs] at hk'; have := hll k (by omega); simp only [Option.isSome_none] at hk'; rw [Heap.isLive] at this; rw [this] at hk'; cases hk'
   | some s =>
    obtain ⟨h2, h3, _, h4⟩ := hS _ _ hs
    exact ⟨s, h3, by rw [← h4]; congr 1; omega, .inr ⟨by omega, rfl⟩⟩
 have hv := hp.inv
 refine ⟨g2, ⟨he, ⟨hv.lo, hv.fresh, ?_, ?_, ?_, ?_, ?_, ?_, hv.cond⟩, ?_, ?_, ?_⟩, fun _ => Nat.le_refl _⟩
 ·intro r b hb
  simp only [g2] at hb
  split at hb
  ·exact hv.boxB r b hb
  ·cases hb
 ·intro r r' b h1 h2
  simp only [g2] at h1 h2
  split at h1
  ·split at h2
   ·exact hv.boxI r r' b h1 h2
   ·cases h2
  ·cases h1
 ·intro r cs hr
  have hr' := HO.cells_some.1 hr
  simp only [trimH] at hr'
  split at hr'
  ·rename_i hrN
   rw [hN] at hrN
   split at hr'
   ·rename_i heq
    obtain ⟨b, vs, t, h1, h2, h3⟩ := hv.box r cs (HO.cells_some.2 (heq.trans hr'))
    obtain ⟨b0, vs0, t0, k1, k2, k3⟩ := hi.box r cs (HO.cells_some.2 hr')
    exact ⟨b, vs, t, by rw [c.box r hrN]; exact h1, h2, h3.keep c ht k3⟩
   ·rename_i hneq
    cases ho : H'.ho r with
    | none => rw [ho] at hr'; cases hr'
    | some o =>
     cases o with
     | mpo ks vs => rw [ho] at hr'; cases hr'
     | bx ds =>
      obtain ⟨b, vs, t, h1, h2, h3⟩ := hv.box r ds (HO.cells_some.2 ho)
      rw [ho] at hr'
      simp only [trimO, Option.some.injEq, HO.bx.injEq] at hr'
      refine ⟨b, vs, t, by rw [c.box r hrN]; exact h1, h2, ?_⟩
      cases hR : (R == some r) with
      | false => rw [hR] at hr'; rw [← hr', hN]; exact h3.sanT c
      | true =>
       rw [hR] at hr'
       rw [← hr', hN]
       refine RelL.renC c ds _ _ _ h3 (fun i s hs => ?_)
       have hRr : R = some r := by simpa using hR
       refine (hS i s ?_).2.2.2
       subst hRr
       simp only [trimS, hN]
       rw [if_pos ⟨by rw [hN]; exact hrN, hneq⟩, show H'.get r = some ds from HO.cells_some.2 ho]
       exact hs
  ·rename_i hrN
   rw [hN] at hrN
   rw [hlow r (by omega)] at hr'; cases hr'
 ·intro k hk
  obtain ⟨s, h1, h2, _⟩ := hL k hk
  obtain ⟨b, n, cap, e, sz, vs, q1, q2, q3, q4, q5, q6, q7, q8⟩ := hv.live s h1
  refine ⟨b, n, cap, e, sz, vs, by rw [h2]; exact q1, q2, q3, q4, q5, q6, q7, fun r hr => ?_⟩
  simp only [g2] at hr
  split at hr
  ·exact q8 r hr
  ·cases hr
 ·intro k k' b x y hk hk' h1 h2
  obtain ⟨s, a1, a2, a3⟩ := hL k hk
  obtain ⟨s', b1, b2, b3⟩ := hL k' hk'
  rw [a2] at h1
  rw [b2] at h2
  have hss := hv.liveI s s' b x y a1 b1 h1 h2
  subst hss
  rcases a3 with ⟨a3, a4⟩ | ⟨a3, a4⟩ <;> rcases b3 with ⟨b3, b4⟩ | ⟨b3, b4⟩
  ·omega
  ·have := (hS _ _ b4).1; omega
  ·have := (hS _ _ a4).1; omega
  ·have := hSi _ _ _ a4 b4; omega
 ·intro r ks vs hr
  have hr' := HO.pairs_some.1 hr
  simp only [trimH] at hr'
  split at hr'
  ·rename_i hrN
   rw [hN] at hrN
   split at hr'
   ·rename_i heq
    obtain ⟨b, es, ck, h1, h2, h3, h4⟩ := hv.map r ks vs (HO.pairs_some.2 (heq.trans hr'))
    obtain ⟨b0, es0, ck0, k1, k2, k3, k4⟩ := hi.map r ks vs (HO.pairs_some.2 hr')
    exact ⟨b, es, ck, by rw [c.box r hrN]; exact h1, h2, h3.keep c ht k3, h4.keep c ht k4⟩
   ·cases ho : H'.ho r with
    | none => rw [ho] at hr'; cases hr'
    | some o =>
     cases o with
     | bx ds => rw [ho] at hr'; simp [trimO] at hr'
     | mpo ks' vs' =>
      obtain ⟨b, es, ck, h1, h2, h3, h4⟩ := hv.map r ks' vs' (HO.pairs_some.2 ho)
      rw [ho] at hr'
      simp only [trimO, Option.some.injEq, HO.mpo.injEq] at hr'
      obtain ⟨rfl, rfl⟩ := hr'
      rw [hN]
      exact ⟨b, es, ck, by rw [c.box r hrN]; exact h1, h2, h3.sanT c, h4.sanT c⟩
  ·rename_i hrN
   rw [hN] at hrN
   rw [hlow r (by omega)] at hr'; cases hr'
 ·intro k hk
  have hk2 : N + 64 ≤ k := by have : (trimH H H' R).next = H.next + 64 := rfl; omega
  refine ⟨by simp only [g2]; rw [if_neg (by omega)], ?_⟩
  simp only [g2]
  rw [if_neg (by omega)]
  cases hs : trimS H H' R (k - N) with
  | none => rfl
  | some s => have := (hS _ _ hs).2.2.1; omega
 ·intro r hr
  exact ⟨by rw [c.box r hr]; exact (hp.new r hr).1, by rw [c.own r hr]; exact (hp.new r hr).2⟩
 ·show N ≤ (trimH H H' R).next
  have : (trimH H H' R).next = H.next + 64 := rfl
  omega
end Go.Proofs.YtghhkbigmmjanaaGreatDoor.VA

/-! Vb8 -/
namespace Go.Proofs.YtghhkbigmmjanaaGreatDoor.VA
open Go Go.RowKit
set_option linter.unusedSimpArgs false

/-- What is asked of a function that is told outright. -/
def ToldOk (P : Program) (C : Cond) (f : FuncId) (h : List AV → Option AV) : Prop :=
 (∀ vs w, (callFunc f vs).run P w = .ok (.enter f vs) w) ∧
 ∀ args v, h args = some v → ∀ g H w (vs : Array Value), g.cond = C → Inv g H w → RelL g w args vs.toList →
  Calls P f vs w fun en w' => ∃ u g', en = .returned u ∧ Ext g w g' w' ∧ Inv g' H w' ∧ g'.box = g.box ∧ g'.own = g.own ∧ Rel g' w' v u
structure CfgOk (P : Program) (C : Cond) (c : Cfg) : Prop where
 mixed : P.follows .mixedOrders = true
 fn : ∀ f fn, c.fn f = some fn → P.funcs[f]? = some fn ∧ (fn.name == "runtime.NumGoroutine") = false ∧ ∀ code, fn.body = some code → codeOk fn.ntmps code = true
 told : ∀ f h, c.told f = some h → ToldOk P C f h
theorem callFunc_enter {P : Program} {f : FuncId} {fn : Func} {code : Code} (hf : P.funcs[f]? = some fn) (hn : (fn.name == "runtime.NumGoroutine") = false) (hb : fn.body = some code) (vs : Array Value) (w : World) :
  (callFunc f vs).run P w = .ok (.enter f vs) w := by
 have hn' : ¬ fn.name = "runtime.NumGoroutine" := by simpa using hn
 simp [callFunc, hf, hn', hb]
theorem env_init {g : Gh} {w : World} {args : List AV} {vs : Array Value} (h : RelL g w args vs.toList) (m : Nat) : EnvRel g w args (vs ++ Array.replicate m undef) := by
 have hget : ∀ (l : List AV) (i : Nat), gget .bad l i = (l[i]?).getD .bad := by
  intro l
  induction l with
  | nil => intro i; simp [gget]
  | cons x l ih => intro i; cases i with | zero => rfl | succ i => simpa [gget] using ih i
 intro i
 rw [hget]
 by_cases hi : i < args.length
 ·have hlen : args.length = vs.size := by simpa using h.1
  have hx : args[i]? = some args[i] := by simp [hi]
  rw [hx]
  refine h.2 i _ _ hx ?_
  simp only [Array.getD_eq_getD_getElem?]
  rw [Array.getElem?_append_left (by omega)]
  simp [show i < vs.size by omega]
 ·rw [List.getElem?_eq_none (by omega)]
  exact .bad _
theorem runFn_sound {P : Program} {C : Cond} {K : Calling} {imp : FuncId → Bool} (hK : KOk P C K imp) (hm : P.follows .mixedOrders = true) {f : FuncId} {fn : Func} (hf : P.funcs[f]? = some fn) (hc : ∀ code, fn.body = some code → codeOk fn.ntmps code = true)
  {k : Nat} {args : List AV} {H : Heap} {r : CR} (h : runFn P K imp k fn args H = some r) {g : Gh} {w : World} {vs : Array Value} (hC : g.cond = C) (hi : Inv g H w) (ht : Top g H.next) (hr : RelL g w args vs.toList) :
  (∃ code, fn.body = some code) ∧ Calls P f vs w (CPost g H.next w r) := by
 unfold runFn at h
 split at h
 ·cases h
 ·rename_i code hb
  refine ⟨⟨code, hb⟩, ?_⟩
  split at h
  ·rename_i hlen
   have hsz : (vs ++ Array.replicate (fn.ntmps - vs.size) undef).size = fn.ntmps := by
    have := hr.1
    simp at this
    simp
    omega
   refine calls_of_wp hf hb ?_
   cases hx : exec P K imp k code args H with
   | none => rw [hx] at h; cases h
   | some res =>
    obtain ⟨ex, e, H'⟩ := res
    rw [hx] at h
    refine (exec_sound hK hm k code args H ex e H' hx (hc code hb) g { tmps := vs ++ Array.replicate (fn.ntmps - vs.size) undef, defers := [] } w hC hi (env_init hr _) hsz ht _ ?_).1
    intro g' x a' w' hp hd hs hrel
    have fin : ∀ vs', aResults P e H' fn.results.toList = some vs' → EnvRel g' w' e a'.tmps → r = .ret (san (oneOr vs')) H' →
      a'.defers = [] ∧ ∃ v, (results fn a'.tmps).run P w' = .ok v w' ∧ CPost g H.next w r (.returned v) w' := by
     intro vs' h1 h2 h3
     obtain ⟨u, q1, q2⟩ := results_sound h1 hp.inv h2
     refine ⟨hd.1, u, q1, ?_⟩
     subst h3
     exact ⟨u, g', rfl, hp, q2.san (fun _ => Nat.le_refl _)⟩
    cases ex with
    | nrm =>
     simp only at h
     split at h
     ·rename_i vs' hv
      simp only [Option.some.injEq] at h
      obtain ⟨rfl, hen⟩ := hrel
      exact fin vs' hv hen h.symm
     ·cases h
    | ret =>
     simp only at h
     split at h
     ·rename_i vs' hv
      simp only [Option.some.injEq] at h
      obtain ⟨rfl, hen⟩ := hrel
      exact fin vs' hv hen h.symm
     ·cases h
    | exit id => cases h
    | pan v =>
     simp only [Option.some.injEq] at h
     subst h
     obtain ⟨u, rfl, hu⟩ := hrel
     exact ⟨hd.1, u, g', rfl, hp, hu.san (fun _ => Nat.le_refl _)⟩
  ·cases h
/-- What a call without the caller's own memory sees. -/
def Gh.sub (g : Gh) (w : World) : Gh := { lo := w.heap.size, vis := g.vis, box := fun _ => none, own := fun _ => none, cond := g.cond }
/-- A call without the caller's own memory, seen by the caller. -/
theorem pure_back {g g' : Gh} {H H' : Heap} {w w' : World} (hi : Inv g H w) (ht : Top g H.next) (hp : Past 0 (g.sub w) w g' H' w') :
  Past H.next g w { g with vis := g'.vis } H w' := by
 have hx := hp.ext
 have hsame : ∀ b, b < w.heap.size → w'.heap[b]? = w.heap[b]? := hx.low
 have hvis : ∀ b, b < w.heap.size → g'.vis b = g.vis b := hx.lowv
 have he : Ext g w { g with vis := g'.vis } w' :=
  ⟨rfl, hx.os, hx.tape, hx.output, hx.size, fun b hb => hsame b (Nat.lt_of_lt_of_le hb hi.lo), fun b hb => hvis b (Nat.lt_of_lt_of_le hb hi.lo), hx.vis, hx.cell, fun _ _ h => h, fun _ _ h => h, rfl⟩
 refine ⟨he, ⟨Nat.le_trans hi.lo hx.size, hp.inv.fresh, ?_, hi.boxI, ?_, ?_, hi.liveI, ?_, he.holds hi.cond⟩, ht, fun _ _ => ⟨rfl, rfl⟩, Nat.le_refl _⟩
 ·intro r b hb
  obtain ⟨h1, h2, h3⟩ := hi.boxB r b hb
  exact ⟨h1, Nat.lt_of_lt_of_le h2 hx.size, by rw [← h3]; exact hvis b h2⟩
 ·intro r cs hr
  obtain ⟨b, vs, t, h1, h2, h3⟩ := hi.box r cs hr
  exact ⟨b, vs, t, h1, by rw [hsame b (hi.boxB r b h1).2.1]; exact h2, h3.ext he⟩
 ·intro s hs
  obtain ⟨b, n, cap, e, sz, vs, h1, h2, h3, h4, h5, h6, h7, h8⟩ := hi.live s hs
  have hlt : b < w.heap.size := (Array.getElem?_eq_some_iff.1 h3).1
  exact ⟨b, n, cap, e, sz, vs, h1, h2, by rw [hsame b hlt]; exact h3, h4, h5, h6, by rw [← h7]; exact hvis b hlt, h8⟩
 ·intro r ks vs hr
  obtain ⟨b, es, ck, h1, h2, h3, h4⟩ := hi.map r ks vs hr
  exact ⟨b, es, ck, h1, by rw [hsame b (hi.boxB r b h1).2.1]; exact h2, h3.ext he, h4.ext he⟩
theorem inv_empty {g : Gh} {H : Heap} {w : World} (hi : Inv g H w) : Inv (g.sub w) Heap.empty w :=
 ⟨Nat.le_refl _, hi.fresh, (fun _ _ h => by cases h), (fun _ _ _ h => by cases h), (fun _ _ h => by simp at h), (fun _ h => by simp at h), (fun _ _ _ _ _ h => by simp at h), (fun _ _ _ h => by simp at h), g.cond.stable hi.cond hi.lo (fun _ _ => rfl)⟩
mutual
theorem san_san : ∀ (x : AV), san (san x) = san x
 | .bad => rfl
 | .lit v => rfl
 | .sl o es => by simp only [san, sanLL_san es]
 | .ptr r o => rfl
 | .ep cs => by simp only [san, sanL_san cs]
 | .fn f cs => by simp only [san, sanL_san cs]
 | .ifc t v => by simp only [san, san_san v]
 | .mp r => rfl
 | .agg cs => by simp only [san, sanL_san cs]
 | .tup cs => by simp only [san, sanL_san cs]
theorem sanL_san : ∀ (l : List AV), sanL (sanL l) = sanL l
 | [] => rfl
 | x :: l => by simp only [sanL, san_san x, sanL_san l]
theorem sanLL_san : ∀ (l : List (List AV)), sanLL (sanLL l) = sanLL l
 | [] => rfl
 | x :: l => by simp only [sanLL, sanL_san x, sanLL_san l]
end
theorem runFn_san {P : Program} {K : Calling} {imp : FuncId → Bool} {k : Nat} {fn : Func} {args : List AV} {H H' : Heap} {v : AV} (h : runFn P K imp k fn args H = some (.ret v H')) : san v = v := by
 unfold runFn at h
 split at h
 ·cases h
 ·split at h
  ·split at h
   ·cases h
   ·cases h
   ·split at h
    ·simp only [Option.some.injEq, CR.ret.injEq] at h
     rw [← h.1, san_san]
    ·cases h
   ·cases h
  ·cases h
theorem runFn_sanP {P : Program} {K : Calling} {imp : FuncId → Bool} {k : Nat} {fn : Func} {args : List AV} {H H' : Heap} {v : AV} (h : runFn P K imp k fn args H = some (.pan v H')) : san v = v := by
 unfold runFn at h
 split at h
 ·cases h
 ·split at h
  ·split at h
   ·simp only [Option.some.injEq, CR.pan.injEq] at h
    rw [← h.1, san_san]
   ·cases h
   ·split at h <;> cases h
   ·cases h
  ·cases h
theorem call_ok {P : Program} {C : Cond} {c : Cfg} (hc : CfgOk P C c) : ∀ k, KOk P C (call P c k) c.imp := by
 intro k
 induction k with
 | zero => exact ⟨fun f args H r h => by simp [call] at h, fun f args H r _ h => by simp [call] at h⟩
 | succ k ih =>
  constructor
  ·intro f args H r h g w vs hC hi ht hr
   simp only [call] at h
   split at h
   ·rename_i ht' htold
    split at h
    ·rename_i v hv
     simp only [Option.some.injEq] at h
     subst h
     obtain ⟨h1, h2⟩ := hc.told f ht' htold
     refine ⟨h1 vs w, (h2 _ v hv g H w vs hC hi (hr.san (fun _ => Nat.le_refl _))).mono fun en w' hpost => ?_⟩
     obtain ⟨u, g', rfl, q1, q2, q3, q4, q5⟩ := hpost
     exact ⟨u, g', rfl, ⟨q1, q2, fun r hr => by rw [q3, q4]; exact ht r hr, fun r _ => by rw [q3, q4]; exact ⟨rfl, rfl⟩, Nat.le_refl _⟩, q5⟩
    ·cases h
   ·split at h
    ·cases h
    ·rename_i fn hfn
     obtain ⟨hf, hname, hcode⟩ := hc.fn f fn hfn
     split at h
     ·unfold trimK at h
      split at h
      ·rename_i R _
       obtain ⟨r0, hr0, rfl⟩ := Option.map_eq_some_iff.1 h
       obtain ⟨⟨code, hb⟩, q⟩ := runFn_sound ih hc.mixed hf hcode hr0 hC hi ht hr
       refine ⟨callFunc_enter hf hname hb vs w, q.mono fun en w' hpost => ?_⟩
       cases r0 with
       | ret v H' =>
        obtain ⟨u, g', rfl, hp, hrel⟩ := hpost
        obtain ⟨g2, k1, k2⟩ := trim_past hi ht hp (R args H)
        exact ⟨u, g2, rfl, k1, by rw [← runFn_san hr0]; exact hrel.san k2⟩
       | pan v H' =>
        obtain ⟨u, g', rfl, hp, hrel⟩ := hpost
        obtain ⟨g2, k1, k2⟩ := trim_past hi ht hp (R args H)
        exact ⟨u, g2, rfl, k1, by rw [← runFn_sanP hr0]; exact hrel.san k2⟩
      ·obtain ⟨⟨code, hb⟩, q⟩ := runFn_sound ih hc.mixed hf hcode h hC hi ht hr
       exact ⟨callFunc_enter hf hname hb vs w, q⟩
     ·split at h
      ·rename_i v H' hrun
       simp only [Option.some.injEq] at h
       subst h
       obtain ⟨⟨code, hb⟩, q⟩ := runFn_sound ih hc.mixed hf hcode hrun (g := g.sub w) hC (inv_empty hi) (fun _ _ => ⟨rfl, rfl⟩) (hr.san (g' := (g.sub w)) (fun _ => Nat.le_refl _))
       refine ⟨callFunc_enter hf hname hb vs w, q.mono fun en w' hpost => ?_⟩
       obtain ⟨u, g', rfl, hp, hrel⟩ := hpost
       refine ⟨u, _, rfl, pure_back hi ht hp, ?_⟩
       rw [← runFn_san hrun]
       exact hrel.san (fun _ => Nat.le_refl _)
      ·cases h
  ·intro f args H r himp h
   simp only [call] at h ⊢
   split at h
   ·rename_i ht' htold
    split at h
    ·rename_i v hv
     simp only [Option.some.injEq] at h
     subst h
     exact ⟨v, rfl, fun H2 => by simp [htold, hv]⟩
    ·cases h
   ·rename_i htold
    split at h
    ·cases h
    ·rename_i fn hfn
     simp only [himp] at h ⊢
     split at h
     ·rename_i v H' hrun
      simp only [Option.some.injEq] at h
      subst h
      exact ⟨v, rfl, fun H2 => by simp [htold, hfn, hrun]⟩
     ·cases h
end Go.Proofs.YtghhkbigmmjanaaGreatDoor.VA

/-! Vb9 -/
namespace Go.Proofs.YtghhkbigmmjanaaGreatDoor.VA
open Go Go.RowKit
set_option linter.unusedSimpArgs false

def KLe (K K' : Calling) : Prop := ∀ f args H r, K f args H = some r → K' f args H = some r
theorem runOps_mono {P : Program} {K K' : Calling} (hK : KLe K K') {ops : Array Oper} {base : Nat} : ∀ (os : List Oper) (i : Nat) (e : List AV) (H : Heap) (r : Ex × List AV × Heap),
  runOps P K ops base os i e H = some r → runOps P K' ops base os i e H = some r := by
 intro os
 induction os with
 | nil => intro i e H r h; exact h
 | cons o os ih =>
  intro i e H r h
  simp only [runOps] at h ⊢
  split at h
  ·cases h
  ·exact ih _ _ _ _ h
  ·split at h
   ·cases h
   ·exact ih _ _ _ _ h
   ·exact h
   ·rename_i f args hst
    cases hc : K f args H with
    | none => rw [hc] at h; cases h
    | some c =>
     rw [hc] at h
     rw [hK _ _ _ _ hc]
     cases c with
     | ret v H' => exact ih _ _ _ _ h
     | pan v H' => exact h
theorem runTr_mono {P : Program} {K K' : Calling} (hK : KLe K K') {imp : FuncId → Bool} {ops : Array Oper} {base : Nat} : ∀ (os : List Oper) (i : Nat) (pk : Option (Nat × AV × Heap)) (e : List AV) (H : Heap) (r : List Tr × Option (Nat × AV × Heap) × List AV × Heap),
  runTr P K imp ops base os i pk e H = some r → runTr P K' imp ops base os i pk e H = some r := by
 intro os
 induction os with
 | nil => intro i pk e H r h; exact h
 | cons o os ih =>
  intro i pk e H r h
  have next : ∀ {i : Nat} {pk : Option (Nat × AV × Heap)} {e : List AV} {H : Heap} {t0 : Tr} {r : List Tr × Option (Nat × AV × Heap) × List AV × Heap},
    (match runTr P K imp ops base os i pk e H with | some (tr, r) => some (t0 :: tr, r) | none => none) = some r →
    (match runTr P K' imp ops base os i pk e H with | some (tr, r) => some (t0 :: tr, r) | none => none) = some r := by
   intro i pk e H t0 r h
   cases hr : runTr P K imp ops base os i pk e H with
   | none => rw [hr] at h; cases h
   | some x => rw [ih _ _ _ _ _ hr]; rw [hr] at h; exact h
  simp only [runTr] at h ⊢
  by_cases hb : behind ops pk i = true
  ·rw [if_pos hb] at h ⊢
   exact next h
  ·rw [if_neg hb] at h ⊢
   split at h
   ·cases h
   ·exact next h
   ·split at h
    ·cases h
    ·split at h
     ·cases h
     ·rename_i hcc
      rw [if_neg hcc]
      exact next h
    ·split at h
     ·cases h
     ·rename_i hcc
      rw [if_neg hcc]
      exact next h
    ·rename_i f args hst
     split at h
     ·rename_i himp
      rw [if_pos himp]
      split at h
      ·cases h
      ·rename_i hcc
       rw [if_neg hcc]
       cases hc : K f args H with
       | none => rw [hc] at h; cases h
       | some c =>
        rw [hc] at h
        rw [hK _ _ _ _ hc]
        cases c with
        | ret v H' => exact next h
        | pan v H' => exact next h
     ·rename_i himp
      rw [if_neg himp]
      cases hc : K f args H with
      | none => rw [hc] at h; cases h
      | some c =>
       rw [hc] at h
       rw [hK _ _ _ _ hc]
       cases c with
       | ret v H' => exact next h
       | pan v H' => cases h
theorem runRegion_mono {P : Program} {K K' : Calling} (hK : KLe K K') {imp : FuncId → Bool} {ops : Array Oper} {d : Bool} {e : List AV} {H : Heap} {r : Ex × List AV × Heap}
  (h : runRegion P K imp ops d e H = some r) : runRegion P K' imp ops d e H = some r := by
 cases d with
 | false => exact runOps_mono hK _ _ _ _ _ h
 | true =>
  simp only [runRegion] at h ⊢
  cases hr : runTr P K imp ops H.next ops.toList 0 none e { H with next := H.next + ops.size } with
  | none => rw [hr] at h; cases h
  | some x => rw [runTr_mono hK _ _ _ _ _ _ hr]; rw [hr] at h; exact h
theorem exec_mono {P : Program} {K K' : Calling} (hK : KLe K K') {imp : FuncId → Bool} : ∀ (k : Nat) (c : Code) (e : List AV) (H : Heap) (r : Ex × List AV × Heap), exec P K imp k c e H = some r →
  ∀ k', k ≤ k' → exec P K' imp k' c e H = some r := by
 intro k
 induction k with
 | zero => intro c e H r h; simp [exec] at h
 | succ k ih =>
  intro c e H r h k' hk
  obtain ⟨k', rfl⟩ : ∃ m, k' = m + 1 := ⟨k' - 1, by omega⟩
  have hk' : k ≤ k' := by omega
  cases c <;> simp only [exec] at h ⊢ <;> try exact h
  case region id ops d => exact runRegion_mono hK h
  case seq x y =>
   cases hx : exec P K imp k x e H with
   | none => rw [hx] at h; cases h
   | some r1 =>
    rw [ih x e H r1 hx k' hk']
    rw [hx] at h
    obtain ⟨ex1, e1, H1⟩ := r1
    cases ex1 with
    | nrm => exact ih y e1 H1 r h k' hk'
    | _ => exact h
  case cond cc x y =>
   split at h
   ·exact ih x e H r h k' hk'
   ·exact ih y e H r h k' hk'
   ·cases h
  case block id x =>
   cases hx : exec P K imp k x e H with
   | none => rw [hx] at h; cases h
   | some r1 =>
    rw [ih x e H r1 hx k' hk']
    rw [hx] at h
    exact h
  case loop x =>
   cases hx : exec P K imp k x e H with
   | none => rw [hx] at h; cases h
   | some r1 =>
    rw [ih x e H r1 hx k' hk']
    rw [hx] at h
    obtain ⟨ex1, e1, H1⟩ := r1
    cases ex1 with
    | nrm => exact ih (.loop x) e1 H1 r h k' hk'
    | _ => exact h
  case scope x => exact ih x e H r h k' hk'
theorem runFn_mono {P : Program} {K K' : Calling} (hK : KLe K K') {imp : FuncId → Bool} {k k' : Nat} (hk : k ≤ k') {fn : Func} {args : List AV} {H : Heap} {r : CR} (h : runFn P K imp k fn args H = some r) :
  runFn P K' imp k' fn args H = some r := by
 unfold runFn at h ⊢
 split at h
 ·cases h
 ·rename_i code hb
  try simp only [hb]
  split at h
  ·rename_i hl
   rw [if_pos hl]
   cases hx : exec P K imp k code args H with
   | none => rw [hx] at h; cases h
   | some r1 =>
    rw [exec_mono hK k code args H r1 hx k' hk]
    rw [hx] at h
    exact h
  ·cases h
theorem call_mono {P : Program} {c : Cfg} : ∀ k, KLe (call P c k) (call P c (k + 1)) := by
 intro k
 induction k with
 | zero => intro f args H r h; simp [call] at h
 | succ k ih =>
  intro f args H r h
  rw [call] at h ⊢
  split at h
  ·rename_i ht htold
   try simp only [htold]
   exact h
  ·rename_i htold
   try simp only [htold]
   split at h
   ·cases h
   ·rename_i fn hfn
    try simp only [hfn]
    split at h
    ·rename_i himp
     try simp only [himp]
     cases hr : runFn P (call P c k) c.imp k fn args H with
     | none => rw [hr] at h; unfold trimK at h; split at h <;> cases h
     | some r1 => rw [runFn_mono ih (Nat.le_succ _) hr]; rw [hr] at h; exact h
    ·rename_i himp
     try simp only [himp]
     split at h
     ·rename_i v H' hrun
      rw [runFn_mono ih (Nat.le_succ _) hrun]
      exact h
     ·cases h
theorem call_le {P : Program} {c : Cfg} {k k' : Nat} (h : k ≤ k') : KLe (call P c k) (call P c k') := by
 induction h with
 | refl => exact fun _ _ _ _ h => h
 | step _ ih => exact fun f args H r h => call_mono _ f args H r (ih f args H r h)
/-- All calls, with whatever fuel they want. -/
noncomputable def calls (P : Program) (c : Cfg) : Calling := fun f args H =>
 open Classical in if h : ∃ r k, call P c k f args H = some r then some h.choose else none
theorem calls_iff {P : Program} {c : Cfg} {f : FuncId} {args : List AV} {H : Heap} {r : CR} : calls P c f args H = some r ↔ ∃ k, call P c k f args H = some r := by
 unfold calls
 constructor
 ·intro h
  split at h
  ·rename_i hex
   simp only [Option.some.injEq] at h
   rw [← h]
   exact hex.choose_spec
  ·cases h
 ·rintro ⟨k, hk⟩
  have hex : ∃ r k, call P c k f args H = some r := ⟨r, k, hk⟩
  rw [dif_pos hex]
  obtain ⟨k', hk'⟩ := hex.choose_spec
  have h1 := call_le (Nat.le_max_left k k') _ _ _ _ hk
  have h2 := call_le (Nat.le_max_right k k') _ _ _ _ hk'
  rw [h1] at h2
  exact h2.symm
/-- What is answered with all calls is answered with some fuel. -/
theorem runOps_fuel {P : Program} {c : Cfg} {ops : Array Oper} {base : Nat} : ∀ (os : List Oper) (i : Nat) (e : List AV) (H : Heap) (r : Ex × List AV × Heap),
  runOps P (calls P c) ops base os i e H = some r → ∃ n, runOps P (call P c n) ops base os i e H = some r := by
 intro os
 induction os with
 | nil => intro i e H r h; exact ⟨0, h⟩
 | cons o os ih =>
  intro i e H r h
  simp only [runOps] at h ⊢
  split at h
  ·cases h
  ·exact ih _ _ _ _ h
  ·split at h
   ·cases h
   ·exact ih _ _ _ _ h
   ·exact ⟨0, h⟩
   ·rename_i f args hst
    cases hc : calls P c f args H with
    | none => rw [hc] at h; cases h
    | some cr =>
     rw [hc] at h
     obtain ⟨k, hk⟩ := calls_iff.1 hc
     cases cr with
     | pan v H' => exact ⟨k, by rw [hk]; exact h⟩
     | ret v H' =>
      obtain ⟨n, hn⟩ := ih _ _ _ _ h
      refine ⟨max k n, ?_⟩
      rw [call_le (Nat.le_max_left k n) _ _ _ _ hk]
      exact runOps_mono (call_le (Nat.le_max_right k n)) _ _ _ _ _ hn
theorem runTr_fuel {P : Program} {c : Cfg} {imp : FuncId → Bool} {ops : Array Oper} {base : Nat} : ∀ (os : List Oper) (i : Nat) (pk : Option (Nat × AV × Heap)) (e : List AV) (H : Heap) (r : List Tr × Option (Nat × AV × Heap) × List AV × Heap),
  runTr P (calls P c) imp ops base os i pk e H = some r → ∃ n, runTr P (call P c n) imp ops base os i pk e H = some r := by
 intro os
 induction os with
 | nil => intro i pk e H r h; exact ⟨0, h⟩
 | cons o os ih =>
  intro i pk e H r h
  have next : ∀ (k : Nat) {i : Nat} {pk : Option (Nat × AV × Heap)} {e : List AV} {H : Heap} {t0 : Tr} {r : List Tr × Option (Nat × AV × Heap) × List AV × Heap},
    (match runTr P (calls P c) imp ops base os i pk e H with | some (tr, r) => some (t0 :: tr, r) | none => none) = some r →
    ∃ n, k ≤ n ∧ (match runTr P (call P c n) imp ops base os i pk e H with | some (tr, r) => some (t0 :: tr, r) | none => none) = some r := by
   intro k i pk e H t0 r h
   cases hr : runTr P (calls P c) imp ops base os i pk e H with
   | none => rw [hr] at h; cases h
   | some x =>
    obtain ⟨n, hn⟩ := ih _ _ _ _ _ hr
    refine ⟨max k n, Nat.le_max_left .., ?_⟩
    rw [runTr_mono (call_le (Nat.le_max_right k n)) _ _ _ _ _ _ hn]
    rw [hr] at h
    exact h
  simp only [runTr] at h ⊢
  by_cases hb : behind ops pk i = true
  ·simp only [if_pos hb] at h ⊢
   obtain ⟨n, _, hn⟩ := next 0 h
   exact ⟨n, hn⟩
  ·simp only [if_neg hb] at h ⊢
   split at h
   ·cases h
   ·obtain ⟨n, _, hn⟩ := next 0 h
    exact ⟨n, hn⟩
   ·split at h
    ·cases h
    ·split at h
     ·cases h
     ·rename_i hcc
      simp only [if_neg hcc]
      obtain ⟨n, _, hn⟩ := next 0 h
      exact ⟨n, hn⟩
    ·split at h
     ·cases h
     ·rename_i hcc
      simp only [if_neg hcc]
      obtain ⟨n, _, hn⟩ := next 0 h
      exact ⟨n, hn⟩
    ·rename_i f args hst
     split at h
     ·rename_i himp
      simp only [if_pos himp]
      split at h
      ·cases h
      ·rename_i hcc
       simp only [if_neg hcc]
       cases hc : calls P c f args H with
       | none => rw [hc] at h; cases h
       | some cr =>
        rw [hc] at h
        obtain ⟨k, hk⟩ := calls_iff.1 hc
        cases cr with
        | ret v H' =>
         obtain ⟨n, hkn, hn⟩ := next k h
         refine ⟨n, ?_⟩
         rw [call_le hkn _ _ _ _ hk]
         exact hn
        | pan v H' =>
         obtain ⟨n, hkn, hn⟩ := next k h
         refine ⟨n, ?_⟩
         rw [call_le hkn _ _ _ _ hk]
         exact hn
     ·rename_i himp
      simp only [if_neg himp]
      cases hc : calls P c f args H with
      | none => rw [hc] at h; cases h
      | some cr =>
       rw [hc] at h
       obtain ⟨k, hk⟩ := calls_iff.1 hc
       cases cr with
       | ret v H' =>
        obtain ⟨n, hkn, hn⟩ := next k h
        refine ⟨n, ?_⟩
        rw [call_le hkn _ _ _ _ hk]
        exact hn
       | pan v H' => cases h
theorem runRegion_fuel {P : Program} {c : Cfg} {imp : FuncId → Bool} {ops : Array Oper} {d : Bool} {e : List AV} {H : Heap} {r : Ex × List AV × Heap}
  (h : runRegion P (calls P c) imp ops d e H = some r) : ∃ n, runRegion P (call P c n) imp ops d e H = some r := by
 cases d with
 | false => exact runOps_fuel _ _ _ _ _ h
 | true =>
  simp only [runRegion] at h ⊢
  cases hr : runTr P (calls P c) imp ops H.next ops.toList 0 none e { H with next := H.next + ops.size } with
  | none => rw [hr] at h; cases h
  | some x =>
   obtain ⟨n, hn⟩ := runTr_fuel _ _ _ _ _ _ hr
   refine ⟨n, ?_⟩
   rw [hn]
   rw [hr] at h
   exact h
theorem exec_fuel {P : Program} {c : Cfg} {imp : FuncId → Bool} : ∀ (k : Nat) (cd : Code) (e : List AV) (H : Heap) (r : Ex × List AV × Heap), exec P (calls P c) imp k cd e H = some r →
  ∃ n, exec P (call P c n) imp k cd e H = some r := by
 intro k
 induction k with
 | zero => intro cd e H r h; simp [exec] at h
 | succ k ih =>
  intro cd e H r h
  have two : ∀ {x y : Code} {e1 : List AV} {H1 : Heap} {n : Nat} {r r1 : Ex × List AV × Heap}, exec P (call P c n) imp k x e H = some r1 → exec P (calls P c) imp k y e1 H1 = some r →
    ∃ m, exec P (call P c m) imp k x e H = some r1 ∧ exec P (call P c m) imp k y e1 H1 = some r := by
   intro x y e1 H1 n r r1 h1 h2
   obtain ⟨m, hm⟩ := ih _ _ _ _ h2
   exact ⟨max n m, exec_mono (call_le (Nat.le_max_left n m)) _ _ _ _ _ h1 _ (Nat.le_refl _), exec_mono (call_le (Nat.le_max_right n m)) _ _ _ _ _ hm _ (Nat.le_refl _)⟩
  cases cd <;> simp only [exec] at h ⊢ <;> try exact ⟨0, h⟩
  case region id ops d => exact runRegion_fuel h
  case seq x y =>
   cases hx : exec P (calls P c) imp k x e H with
   | none => rw [hx] at h; cases h
   | some r1 =>
    obtain ⟨n, hn⟩ := ih x e H r1 hx
    rw [hx] at h
    obtain ⟨ex1, e1, H1⟩ := r1
    cases ex1 with
    | nrm =>
     obtain ⟨m, h1, h2⟩ := two hn h
     exact ⟨m, by rw [h1]; exact h2⟩
    | _ => exact ⟨n, by rw [hn]; exact h⟩
  case cond cc x y =>
   split at h
   ·exact ih x e H r h
   ·exact ih y e H r h
   ·cases h
  case block id x =>
   cases hx : exec P (calls P c) imp k x e H with
   | none => rw [hx] at h; cases h
   | some r1 =>
    obtain ⟨n, hn⟩ := ih x e H r1 hx
    rw [hx] at h
    exact ⟨n, by rw [hn]; exact h⟩
  case loop x =>
   cases hx : exec P (calls P c) imp k x e H with
   | none => rw [hx] at h; cases h
   | some r1 =>
    obtain ⟨n, hn⟩ := ih x e H r1 hx
    rw [hx] at h
    obtain ⟨ex1, e1, H1⟩ := r1
    cases ex1 with
    | nrm =>
     obtain ⟨m, h1, h2⟩ := two hn h
     exact ⟨m, by rw [h1]; exact h2⟩
    | _ => exact ⟨n, by rw [hn]; exact h⟩
  case scope x => exact ih x e H r h
end Go.Proofs.YtghhkbigmmjanaaGreatDoor.VA
