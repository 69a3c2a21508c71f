/- What is proved: rules by which one shows what the abstract interpreter (VA) answers, code piece by code piece. No condition.
What is proved: what each operation does in the abstract interpreter (VA), as equations to rewrite with, and how a function's body tells its calls. No condition.
What is proved: a function's call in the abstract interpreter (VA), by its body. No condition.
What is proved: memory, appending and slices in the abstract interpreter (VA), as equations to rewrite with. No condition.
What is proved: a call that may panic, in the abstract interpreter (VA), by its body. No condition.
What is proved: regions that draw their order, panics and all, in the abstract interpreter (VA), as equations to rewrite with. No condition.
What is defined and proved: what a lexer of the document's tokens answers, on lists of bytes, in plain Lean, with no program in sight; strings as lists of bytes. No condition.
What is defined and proved: the document's parser on lists of tokens, in plain Lean, with no program in sight. No condition.
What is proved: how the document's parser goes on: whatever it takes, it goes ahead, and never over the end. No program in sight. No condition.
What is defined and proved: whether programs are the same, and how long a parsed program's lists can be. No program in sight. No condition.
What is proved: rules for calls that write to one box of their caller's and may panic, in the abstract interpreter (VA). No condition.
What is proved: from an answer of the abstract interpreter (VA) to the call itself, in a world of which what is there is left alone. No condition. -/
import Derived.Test.YtghhkbigmmjanaaGreatDoorM2
/-! Vc1 -/
namespace Go.Proofs.YtghhkbigmmjanaaGreatDoor.VA
open Go Go.RowKit
set_option linter.unusedSimpArgs false

/-- What an exit is outside of a block. -/
def blk (id : Nat) : Ex → Ex
 | .exit j => if j = id then .nrm else .exit j
 | x => x
/-- Big steps, without fuel. -/
inductive XS (P : Program) (c : Cfg) : Code → List AV → Heap → Ex → List AV → Heap → Prop
 | skip (e H) : XS P c .skip e H .nrm e H
 | label (s e H) : XS P c (.label s) e H .nrm e H
 | region {id ops e H x e1 H1} (h : runOps P (calls P c) ops H.next ops.toList 0 e { H with next := H.next + ops.size } = some (x, e1, H1)) : XS P c (.region id ops false) e H x e1 H1
 | draw {id ops e H tr e1 H1} (h : runTr P (calls P c) c.imp ops H.next ops.toList 0 none e { H with next := H.next + ops.size } = some (tr, none, e1, H1)) (ht : TrOk ops tr) : XS P c (.region id ops true) e H .nrm e1 H1
 | drawP {id ops e H tr i v H2 e1 H1} (h : runTr P (calls P c) c.imp ops H.next ops.toList 0 none e { H with next := H.next + ops.size } = some (tr, some (i, v, H2), e1, H1)) (ht : TrOk ops tr) : XS P c (.region id ops true) e H (.pan v) e1 H2
 | seqN {a b e H e1 H1 x e2 H2} (h : XS P c a e H .nrm e1 H1) (k : XS P c b e1 H1 x e2 H2) : XS P c (.seq a b) e H x e2 H2
 | seqX {a b e H x e1 H1} (h : XS P c a e H x e1 H1) (hx : x ≠ .nrm) : XS P c (.seq a b) e H x e1 H1
 | condT {t a b e H x e1 H1} (ht : aeval e t = .lit (.bool true)) (h : XS P c a e H x e1 H1) : XS P c (.cond t a b) e H x e1 H1
 | condF {t a b e H x e1 H1} (ht : aeval e t = .lit (.bool false)) (h : XS P c b e H x e1 H1) : XS P c (.cond t a b) e H x e1 H1
 | block {id a e H x e1 H1} (h : XS P c a e H x e1 H1) : XS P c (.block id a) e H (blk id x) e1 H1
 | loopN {a e H e1 H1 x e2 H2} (h : XS P c a e H .nrm e1 H1) (k : XS P c (.loop a) e1 H1 x e2 H2) : XS P c (.loop a) e H x e2 H2
 | loopX {a e H x e1 H1} (h : XS P c a e H x e1 H1) (hx : x ≠ .nrm) : XS P c (.loop a) e H x e1 H1
 | exit (id e H) : XS P c (.exit id) e H (.exit id) e H
 | scope {a e H x e1 H1} (h : XS P c a e H x e1 H1) : XS P c (.scope a) e H x e1 H1
 | ret (e H) : XS P c .ret e H .ret e H
theorem KLe.refl (K : Calling) : KLe K K := fun _ _ _ _ h => h
theorem XS.exec {P : Program} {c : Cfg} {cd : Code} {e : List AV} {H : Heap} {x : Ex} {e1 : List AV} {H1 : Heap} (h : XS P c cd e H x e1 H1) : ∃ k, exec P (calls P c) c.imp k cd e H = some (x, e1, H1) := by
 have up : ∀ {cd : Code} {e : List AV} {H : Heap} {r : Ex × List AV × Heap} {k : Nat} (k' : Nat), k ≤ k' → VA.exec P (calls P c) c.imp k cd e H = some r → VA.exec P (calls P c) c.imp k' cd e H = some r :=
  fun k' hk h => exec_mono (KLe.refl _) _ _ _ _ _ h k' hk
 induction h with
 | skip e H => exact ⟨1, rfl⟩
 | label s e H => exact ⟨1, rfl⟩
 | region h => exact ⟨1, by simpa [VA.exec, runRegion] using h⟩
 | draw h ht => exact ⟨1, by simp [VA.exec, runRegion, h, ht]⟩
 | drawP h ht => exact ⟨1, by simp [VA.exec, runRegion, h, ht]⟩
 | seqN h k ih ik =>
  obtain ⟨m, hm⟩ := ih
  obtain ⟨n, hn⟩ := ik
  refine ⟨max m n + 1, ?_⟩
  simp only [VA.exec]
  rw [up _ (Nat.le_max_left m n) hm]
  exact up _ (Nat.le_max_right m n) hn
 | seqX h hx ih =>
  obtain ⟨m, hm⟩ := ih
  refine ⟨m + 1, ?_⟩
  simp only [VA.exec]
  rw [hm]
  split
  ·rename_i hh; simp at hh; exact absurd hh.1 hx
  ·rfl
 | condT ht h ih =>
  obtain ⟨m, hm⟩ := ih
  exact ⟨m + 1, by simp only [VA.exec]; rw [ht]; exact hm⟩
 | condF ht h ih =>
  obtain ⟨m, hm⟩ := ih
  exact ⟨m + 1, by simp only [VA.exec]; rw [ht]; exact hm⟩
 | @block id a e H x e1 H1 h ih =>
  obtain ⟨m, hm⟩ := ih
  refine ⟨m + 1, ?_⟩
  simp only [VA.exec]
  rw [hm]
  cases x with
  | exit j =>
   simp only [blk]
   by_cases hj : j = id
   ·simp [hj]
   ·simp [hj]
  | _ => rfl
 | loopN h k ih ik =>
  obtain ⟨m, hm⟩ := ih
  obtain ⟨n, hn⟩ := ik
  refine ⟨max m n + 1, ?_⟩
  simp only [VA.exec]
  rw [up _ (Nat.le_max_left m n) hm]
  exact up _ (Nat.le_max_right m n) hn
 | loopX h hx ih =>
  obtain ⟨m, hm⟩ := ih
  refine ⟨m + 1, ?_⟩
  simp only [VA.exec]
  rw [hm]
  split
  ·rename_i hh; simp at hh; exact absurd hh.1 hx
  ·rfl
 | exit id e H => exact ⟨1, rfl⟩
 | scope h ih =>
  obtain ⟨m, hm⟩ := ih
  exact ⟨m + 1, by simp only [VA.exec]; exact hm⟩
 | ret e H => exact ⟨1, rfl⟩

/-! ### what comes after -/
inductive Fr where
 | sq (b : Code)
 | bl (id : Nat)
 | lp (a : Code)
abbrev Post := Ex → List AV → Heap → Prop
/-- From a piece's end to the whole's end. -/
def Fin (P : Program) (c : Cfg) : List Fr → Ex → List AV → Heap → Post → Prop
 | [], x, e, H, Q => Q x e H
 | .sq b :: st, .nrm, e, H, Q => ∃ x e1 H1, XS P c b e H x e1 H1 ∧ Fin P c st x e1 H1 Q
 | .sq _ :: st, x, e, H, Q => Fin P c st x e H Q
 | .bl id :: st, x, e, H, Q => Fin P c st (blk id x) e H Q
 | .lp a :: st, .nrm, e, H, Q => ∃ x e1 H1, XS P c (.loop a) e H x e1 H1 ∧ Fin P c st x e1 H1 Q
 | .lp _ :: st, x, e, H, Q => Fin P c st x e H Q
def W (P : Program) (c : Cfg) (cd : Code) (st : List Fr) (e : List AV) (H : Heap) (Q : Post) : Prop := ∃ x e1 H1, XS P c cd e H x e1 H1 ∧ Fin P c st x e1 H1 Q
section
variable {P : Program} {c : Cfg} {st : List Fr} {e : List AV} {H : Heap} {Q : Post}
theorem Fin_nil {x : Ex} : Fin P c [] x e H Q = Q x e H := by simp only [Fin]
theorem Fin_sq {b : Code} : Fin P c (.sq b :: st) .nrm e H Q = W P c b st e H Q := rfl
theorem Fin_sq_exit {b : Code} {j : Nat} : Fin P c (.sq b :: st) (.exit j) e H Q = Fin P c st (.exit j) e H Q := rfl
theorem Fin_sq_ret {b : Code} : Fin P c (.sq b :: st) .ret e H Q = Fin P c st .ret e H Q := rfl
theorem Fin_sq_pan {b : Code} {v : AV} : Fin P c (.sq b :: st) (.pan v) e H Q = Fin P c st (.pan v) e H Q := rfl
theorem Fin_lp {b : Code} : Fin P c (.lp b :: st) .nrm e H Q = W P c (.loop b) st e H Q := rfl
theorem Fin_lp_exit {b : Code} {j : Nat} : Fin P c (.lp b :: st) (.exit j) e H Q = Fin P c st (.exit j) e H Q := rfl
theorem Fin_lp_ret {b : Code} : Fin P c (.lp b :: st) .ret e H Q = Fin P c st .ret e H Q := rfl
theorem Fin_lp_pan {b : Code} {v : AV} : Fin P c (.lp b :: st) (.pan v) e H Q = Fin P c st (.pan v) e H Q := rfl
theorem Fin_bl {id : Nat} : Fin P c (.bl id :: st) .nrm e H Q = Fin P c st .nrm e H Q := by simp only [Fin, blk]
theorem Fin_bl_ret {id : Nat} : Fin P c (.bl id :: st) .ret e H Q = Fin P c st .ret e H Q := by simp only [Fin, blk]
theorem Fin_bl_pan {id : Nat} {v : AV} : Fin P c (.bl id :: st) (.pan v) e H Q = Fin P c st (.pan v) e H Q := by simp only [Fin, blk]
theorem Fin_bl_exit {id : Nat} : Fin P c (.bl id :: st) (.exit id) e H Q = Fin P c st .nrm e H Q := by simp only [Fin, blk, if_true]
theorem Fin_bl_other {id j : Nat} (h : (j == id) = false) : Fin P c (.bl id :: st) (.exit j) e H Q = Fin P c st (.exit j) e H Q := by
 simp only [Fin, blk]; rw [if_neg (by simpa using h)]
theorem W_skip : W P c .skip st e H Q = Fin P c st .nrm e H Q := propext
 ⟨fun ⟨_, _, _, h, k⟩ => by cases h; exact k, fun h => ⟨_, _, _, .skip e H, h⟩⟩
theorem W_label {s : Nat} : W P c (.label s) st e H Q = Fin P c st .nrm e H Q := propext
 ⟨fun ⟨_, _, _, h, k⟩ => by cases h; exact k, fun h => ⟨_, _, _, .label s e H, h⟩⟩
theorem W_exit {id : Nat} : W P c (.exit id) st e H Q = Fin P c st (.exit id) e H Q := propext
 ⟨fun ⟨_, _, _, h, k⟩ => by cases h; exact k, fun h => ⟨_, _, _, .exit id e H, h⟩⟩
theorem W_ret : W P c .ret st e H Q = Fin P c st .ret e H Q := propext
 ⟨fun ⟨_, _, _, h, k⟩ => by cases h; exact k, fun h => ⟨_, _, _, .ret e H, h⟩⟩
theorem W_scope {a : Code} : W P c (.scope a) st e H Q = W P c a st e H Q := propext
 ⟨fun ⟨_, _, _, h, k⟩ => by cases h with | scope h => exact ⟨_, _, _, h, k⟩, fun ⟨_, _, _, h, k⟩ => ⟨_, _, _, .scope h, k⟩⟩
theorem W_seq {a b : Code} : W P c (.seq a b) st e H Q = W P c a (.sq b :: st) e H Q := propext
 ⟨fun ⟨x, _, _, h, k⟩ => by
  cases h with
  | seqN h1 h2 => exact ⟨_, _, _, h1, _, _, _, h2, k⟩
  | seqX h1 hx => exact ⟨_, _, _, h1, by cases x <;> first | exact k | exact absurd rfl hx⟩,
  fun ⟨x, _, _, h, k⟩ => by
  cases x with
  | nrm => obtain ⟨_, _, _, h2, k2⟩ := k; exact ⟨_, _, _, .seqN h h2, k2⟩
  | _ => exact ⟨_, _, _, .seqX h (by simp), k⟩⟩
theorem W_block {id : Nat} {a : Code} : W P c (.block id a) st e H Q = W P c a (.bl id :: st) e H Q := propext
 ⟨fun ⟨x, _, _, h, k⟩ => by
  cases h with
  | block h => exact ⟨_, _, _, h, by simp only [Fin]; exact k⟩,
  fun ⟨x, _, _, h, k⟩ => ⟨_, _, _, .block h, by simp only [Fin] at k; exact k⟩⟩
theorem W_loop {a : Code} : W P c (.loop a) st e H Q = W P c a (.lp a :: st) e H Q := propext
 ⟨fun ⟨x, _, _, h, k⟩ => by
  cases h with
  | loopN h1 h2 => exact ⟨_, _, _, h1, _, _, _, h2, k⟩
  | loopX h1 hx => exact ⟨_, _, _, h1, by cases x <;> first | exact k | exact absurd rfl hx⟩,
  fun ⟨x, _, _, h, k⟩ => by
  cases x with
  | nrm => obtain ⟨_, _, _, h2, k2⟩ := k; exact ⟨_, _, _, .loopN h h2, k2⟩
  | _ => exact ⟨_, _, _, .loopX h (by simp), k⟩⟩
/-- A loop, by what falls from round to round. -/
theorem W_loop_ind {a : Code} (I : Nat → List AV → Heap → Prop) (n : Nat) (h0 : I n e H)
  (step : ∀ n, (∀ m, m < n → ∀ e H, I m e H → W P c (.loop a) st e H Q) → ∀ e H, I n e H → W P c a (.lp a :: st) e H Q) : W P c (.loop a) st e H Q := by
 induction n using Nat.strongRecOn generalizing e H with
 | ind n ih =>
  rw [W_loop]
  exact step n (fun m hm e H hI => ih m hm hI) e H h0
def goB (P : Program) (c : Cfg) (v : AV) (a b : Code) (st : List Fr) (e : List AV) (H : Heap) (Q : Post) : Prop :=
 match v with
 | .lit (.bool true) => W P c a st e H Q
 | .lit (.bool false) => W P c b st e H Q
 | _ => False
theorem W_cond {t : Operand} {a b : Code} : W P c (.cond t a b) st e H Q = goB P c (aeval e t) a b st e H Q := propext
 ⟨fun ⟨x, _, _, h, k⟩ => by
  cases h with
  | condT ht h => rw [ht]; exact ⟨_, _, _, h, k⟩
  | condF ht h => rw [ht]; exact ⟨_, _, _, h, k⟩,
  fun h => by
  unfold goB at h
  split at h
  ·rename_i ht; obtain ⟨_, _, _, h1, k⟩ := h; exact ⟨_, _, _, .condT ht h1, k⟩
  ·rename_i ht; obtain ⟨_, _, _, h1, k⟩ := h; exact ⟨_, _, _, .condF ht h1, k⟩
  ·exact h.elim⟩
theorem goB_true {a b : Code} : goB P c (.lit (.bool true)) a b st e H Q = W P c a st e H Q := rfl
theorem goB_false {a b : Code} : goB P c (.lit (.bool false)) a b st e H Q = W P c b st e H Q := rfl

/-! ### regions whose order is the text's -/
def dsts (ops : Array Oper) : List (Option Tmp) := ops.toList.map (·.dst)
theorem dsts_get {ops : Array Oper} (j : Nat) : (ops[j]?).bind (·.dst) = gget none (dsts ops) j := by
 have h : ∀ (l : List Oper) (j : Nat), (l[j]?).bind (·.dst) = gget none (l.map (·.dst)) j := by
  intro l
  induction l with
  | nil => intro j; simp [gget]
  | cons x l ih => intro j; cases j with | zero => simp [gget] | succ j => simpa [gget] using ih j
 have := h ops.toList j
 simpa [dsts] using this
def WO (P : Program) (c : Cfg) (ds : List (Option Tmp)) (base : Nat) (os : List Oper) (i : Nat) (st : List Fr) (e : List AV) (H : Heap) (Q : Post) : Prop :=
 ∃ ops, dsts ops = ds ∧ ∃ x e1 H1, runOps P (calls P c) ops base os i e H = some (x, e1, H1) ∧ Fin P c st x e1 H1 Q
theorem aWanted_ds {ops ops' : Array Oper} (h : dsts ops = dsts ops') (e : List AV) (o : Oper) : aWanted ops e o = aWanted ops' e o := by
 unfold aWanted
 split
 ·rfl
 ·rw [dsts_get, dsts_get, h]
theorem runOps_ds {K : Calling} {ops ops' : Array Oper} (h : dsts ops = dsts ops') {base : Nat} : ∀ (os : List Oper) (i : Nat) (e : List AV) (H : Heap), runOps P K ops base os i e H = runOps P K ops' base os i e H := by
 intro os
 induction os with
 | nil => intro i e H; rfl
 | cons o os ih =>
  intro i e H
  simp only [runOps, aWanted_ds h e o, ih]
def Heap.up (H : Heap) (n : Nat) : Heap := { H with next := H.next + n }
theorem W_region {id : Nat} {ops : Array Oper} : W P c (.region id ops false) st e H Q = WO P c (dsts ops) H.next ops.toList 0 st e (H.up ops.size) Q := propext
 ⟨fun ⟨x, _, _, h, k⟩ => by
  cases h with
  | region h => exact ⟨ops, rfl, _, _, _, h, k⟩,
  fun ⟨ops', hd, x, _, _, h, k⟩ => ⟨_, _, _, .region (by rw [← runOps_ds hd]; exact h), k⟩⟩
def goC (P : Program) (c : Cfg) (r : Option CR) (ds : List (Option Tmp)) (base : Nat) (dst : Option Tmp) (os : List Oper) (i : Nat) (st : List Fr) (e : List AV) (Q : Post) : Prop :=
 match r with
 | some (.ret v H) => WO P c ds base os i st (aput e dst v) H Q
 | some (.pan v H) => Fin P c st (.pan v) e H Q
 | none => False
def goS (P : Program) (c : Cfg) (r : Option Sr) (ds : List (Option Tmp)) (base : Nat) (dst : Option Tmp) (os : List Oper) (i : Nat) (st : List Fr) (e : List AV) (H : Heap) (Q : Post) : Prop :=
 match r with
 | some (.val v us _) => WO P c ds base os i st (aput e dst v) (appU H us) Q
 | some (.pan v) => Fin P c st (.pan v) e H Q
 | some (.call f args) => goC P c (calls P c f args H) ds base dst os i st e Q
 | none => False
def goW (P : Program) (c : Cfg) (r : Option Bool) (op : Op) (ds : List (Option Tmp)) (base : Nat) (dst : Option Tmp) (os : List Oper) (i : Nat) (st : List Fr) (e : List AV) (H : Heap) (Q : Post) : Prop :=
 match r with
 | some true => goS P c (astep P (aeval e) H (base + i) op) ds base dst os (i + 1) st e H Q
 | some false => WO P c ds base os (i + 1) st (aput e dst (.tup [])) H Q
 | none => False
theorem WO_nil' {ds : List (Option Tmp)} {base i : Nat} (h : ∃ ops, dsts ops = ds) : WO P c ds base [] i st e H Q = Fin P c st .nrm e H Q := propext
 ⟨fun ⟨_, _, x, _, _, h, k⟩ => by simp [runOps] at h; obtain ⟨rfl, rfl, rfl⟩ := h; exact k, fun k => let ⟨ops, hd⟩ := h; ⟨ops, hd, _, _, _, rfl, k⟩⟩
theorem dsts_all (ds : List (Option Tmp)) : ∃ ops, dsts ops = ds :=
 ⟨(ds.map fun d => { (default : Oper) with dst := d }).toArray, by simp [dsts, Function.comp_def]⟩
theorem WO_nil {ds : List (Option Tmp)} {base i : Nat} : WO P c ds base [] i st e H Q = Fin P c st .nrm e H Q := WO_nil' (dsts_all ds)
theorem WO_cons {ops : Array Oper} {base i : Nat} {o : Oper} {os : List Oper} :
  WO P c (dsts ops) base (o :: os) i st e H Q = goW P c (aWanted ops e o) o.op (dsts ops) base o.dst os i st e H Q := by
 have key : ∀ (i : Nat) (e : List AV) (H : Heap), WO P c (dsts ops) base os i st e H Q = ∃ x e1 H1, runOps P (calls P c) ops base os i e H = some (x, e1, H1) ∧ Fin P c st x e1 H1 Q := by
  intro i e H
  exact propext ⟨fun ⟨ops', hd, x, e1, H1, h, k⟩ => ⟨x, e1, H1, by rw [← runOps_ds hd]; exact h, k⟩, fun ⟨x, e1, H1, h, k⟩ => ⟨ops, rfl, x, e1, H1, h, k⟩⟩
 have key0 : WO P c (dsts ops) base (o :: os) i st e H Q = ∃ x e1 H1, runOps P (calls P c) ops base (o :: os) i e H = some (x, e1, H1) ∧ Fin P c st x e1 H1 Q :=
  propext ⟨fun ⟨ops', hd, x, e1, H1, h, k⟩ => ⟨x, e1, H1, by rw [← runOps_ds hd]; exact h, k⟩, fun ⟨x, e1, H1, h, k⟩ => ⟨ops, rfl, x, e1, H1, h, k⟩⟩
 rw [key0]
 unfold goW
 simp only [runOps]
 cases aWanted ops e o with
 | none => simp
 | some b =>
  cases b with
  | false => simp only [key]
  | true =>
   simp only [goS]
   cases astep P (aeval e) H (base + i) o.op with
   | none => simp
   | some sr =>
    cases sr with
    | val v us rs => simp only [key]
    | pan v => exact propext ⟨fun ⟨_, _, _, h, k⟩ => by simp at h; obtain ⟨rfl, rfl, rfl⟩ := h; exact k, fun k => ⟨_, _, _, rfl, k⟩⟩
    | call f args =>
     simp only [goC]
     cases calls P c f args H with
     | none => simp
     | some cr =>
      cases cr with
      | ret v H' => simp only [key]
      | pan v H' => exact propext ⟨fun ⟨_, _, _, h, k⟩ => by simp at h; obtain ⟨rfl, rfl, rfl⟩ := h; exact k, fun k => ⟨_, _, _, rfl, k⟩⟩
/-- A guard's word. -/
def goG (P : Program) (c : Cfg) (v : AV) (want : Bool) (op : Op) (ds : List (Option Tmp)) (base : Nat) (dst : Option Tmp) (os : List Oper) (i : Nat) (st : List Fr) (e : List AV) (H : Heap) (Q : Post) : Prop :=
 match v with
 | .lit (.bool b) => goW P c (some (b == want)) op ds base dst os i st e H Q
 | .tup [] => goW P c (some false) op ds base dst os i st e H Q
 | _ => False
def goD (P : Program) (c : Cfg) (d : Option Tmp) (want : Bool) (op : Op) (ds : List (Option Tmp)) (base : Nat) (dst : Option Tmp) (os : List Oper) (i : Nat) (st : List Fr) (e : List AV) (H : Heap) (Q : Post) : Prop :=
 match d with
 | some d => goG P c (gget .bad e d) want op ds base dst os i st e H Q
 | none => goW P c (some false) op ds base dst os i st e H Q
variable {op : Op} {ds : List (Option Tmp)} {base i : Nat} {dst : Option Tmp} {os : List Oper}
theorem WO_plain {type : TypeId} {pos : String} {after : Array Edge} :
  WO P c ds base ({ dst, op, type, pos, after, guard := none } :: os) i st e H Q = goS P c (astep P (aeval e) H (base + i) op) ds base dst os (i + 1) st e H Q := by
 obtain ⟨ops, rfl⟩ := dsts_all ds
 rw [WO_cons]; rfl
theorem WO_guard {j : Nat} {want : Bool} {type : TypeId} {pos : String} {after : Array Edge} :
  WO P c ds base ({ dst, op, type, pos, after, guard := some (j, want) } :: os) i st e H Q = goD P c (gget none ds j) want op ds base dst os i st e H Q := by
 obtain ⟨ops, rfl⟩ := dsts_all ds
 rw [WO_cons]
 simp only [aWanted, dsts_get, goD]
 cases gget none (dsts ops) j with
 | none => rfl
 | some d =>
  simp only [goG]
  split <;> rename_i hv <;> simp [hv, goW]
theorem goD_some {d : Tmp} {want : Bool} : goD P c (some d) want op ds base dst os i st e H Q = goG P c (gget .bad e d) want op ds base dst os i st e H Q := rfl
theorem goG_tt : goG P c (.lit (.bool true)) true op ds base dst os i st e H Q = goS P c (astep P (aeval e) H (base + i) op) ds base dst os (i + 1) st e H Q := rfl
theorem goG_ff : goG P c (.lit (.bool false)) false op ds base dst os i st e H Q = goS P c (astep P (aeval e) H (base + i) op) ds base dst os (i + 1) st e H Q := rfl
theorem goG_tf : goG P c (.lit (.bool true)) false op ds base dst os i st e H Q = WO P c ds base os (i + 1) st (aput e dst (.tup [])) H Q := rfl
theorem goG_ft : goG P c (.lit (.bool false)) true op ds base dst os i st e H Q = WO P c ds base os (i + 1) st (aput e dst (.tup [])) H Q := rfl
theorem goG_tup {want : Bool} : goG P c (.tup []) want op ds base dst os i st e H Q = WO P c ds base os (i + 1) st (aput e dst (.tup [])) H Q := rfl
theorem goS_val {v : AV} {us : List U} {rs : List Nat} : goS P c (some (.val v us rs)) ds base dst os i st e H Q = WO P c ds base os i st (aput e dst v) (appU H us) Q := rfl
theorem goS_pan {v : AV} : goS P c (some (.pan v)) ds base dst os i st e H Q = Fin P c st (.pan v) e H Q := rfl
theorem goS_call {f : FuncId} {args : List AV} : goS P c (some (.call f args)) ds base dst os i st e H Q = goC P c (calls P c f args H) ds base dst os i st e Q := rfl
theorem goC_ret {v : AV} : goC P c (some (.ret v H)) ds base dst os i st e Q = WO P c ds base os i st (aput e dst v) H Q := rfl
theorem goC_pan {v : AV} : goC P c (some (.pan v H)) ds base dst os i st e Q = Fin P c st (.pan v) e H Q := rfl

end

/-! ### regions that draw their order -/
section
variable {P : Program} {c : Cfg}
theorem runTr_some {K : Calling} {imp : FuncId → Bool} {ops : Array Oper} {base : Nat} : ∀ (os : List Oper) (i : Nat) (x : Nat × AV × Heap) (e : List AV) (H : Heap) (r : List Tr × Option (Nat × AV × Heap) × List AV × Heap),
  runTr P K imp ops base os i (some x) e H = some r → ∃ y, r.2.1 = some y := by
 intro os
 induction os with
 | nil => intro i x e H r h; simp [runTr] at h; subst h; exact ⟨x, rfl⟩
 | cons o os ih =>
  intro i x e H r h
  have next : ∀ {x : Nat × AV × Heap} {e : List AV} {H : Heap} {t0 : Tr},
    (match runTr P K imp ops base os (i + 1) (some x) e H with | some (tr, r) => some (t0 :: tr, r) | none => none) = some r → ∃ y, r.2.1 = some y := by
   intro x e H t0 h
   cases hr : runTr P K imp ops base os (i + 1) (some x) e H with
   | none => rw [hr] at h; cases h
   | some q => rw [hr] at h; simp at h; obtain ⟨y, hy⟩ := ih _ _ _ _ _ hr; exact ⟨y, by rw [← h]; exact hy⟩
  simp only [runTr] at h
  split at h
  ·exact next h
  ·split at h
   ·cases h
   ·exact next h
   ·split at h
    ·cases h
    ·split at h
     ·cases h
     ·exact next h
    ·simp at h
    ·split at h
     ·simp at h
     ·split at h
      ·exact next h
      ·cases h
/-- One step of a region that draws its order, as long as nothing panics. -/
noncomputable def trStep (P : Program) (c : Cfg) (r : Option Sr) (H : Heap) : Option (Tr × AV × Heap) :=
 match r with
 | some (.val v us rs) => some (.val v us rs, v, appU H us)
 | some (.call f args) =>
  match c.imp f with
  | true =>
   match calls P c f args H with
   | some (.ret v H') => some (.call v H H', v, H')
   | _ => none
  | false =>
   match calls P c f args H with
   | some (.ret v _) => some (.val v [] [], v, H)
   | _ => none
 | _ => none
def gword (ds : List (Option Tmp)) (e : List AV) (g : Option (Nat × Bool)) : Option Bool :=
 match g with
 | none => some true
 | some (j, want) =>
  match gget none ds j with
  | some d =>
   match gget .bad e d with
   | .lit (.bool b) => some (b == want)
   | .tup [] => some false
   | _ => none
  | none => some false
theorem aWanted_gword (ops : Array Oper) (e : List AV) (o : Oper) : aWanted ops e o = gword (dsts ops) e o.guard := by
 unfold aWanted gword
 cases o.guard with
 | none => rfl
 | some g =>
  obtain ⟨j, want⟩ := g
  simp only [dsts_get]
  cases gget none (dsts ops) j with
  | none => rfl
  | some d => rfl
/-- The run of such a region. -/
noncomputable def runD (P : Program) (c : Cfg) (ds : List (Option Tmp)) (base : Nat) : List Oper → Nat → List AV → Heap → Option (List Tr × List AV × Heap)
 | [], _, e, H => some ([], e, H)
 | o :: os, i, e, H =>
  match gword ds e o.guard with
  | none => none
  | some false =>
   match runD P c ds base os (i + 1) (aput e o.dst (.tup [])) H with
   | some (tr, r) => some (.val (.tup []) [] [] :: tr, r)
   | none => none
  | some true =>
   match trStep P c (astep P (aeval e) H (base + i) o.op) H with
   | none => none
   | some (t, v, H') =>
    match runD P c ds base os (i + 1) (aput e o.dst v) H' with
    | some (tr, r) => some (t :: tr, r)
    | none => none
theorem runD_runTr {ops : Array Oper} {base : Nat} : ∀ (os : List Oper) (i : Nat) (e : List AV) (H : Heap) (tr : List Tr) (e1 : List AV) (H1 : Heap),
  runD P c (dsts ops) base os i e H = some (tr, e1, H1) → runTr P (calls P c) c.imp ops base os i none e H = some (tr, none, e1, H1) := by
 intro os
 induction os with
 | nil => intro i e H tr e1 H1 h; simp [runD] at h; obtain ⟨rfl, rfl, rfl⟩ := h; rfl
 | cons o os ih =>
  intro i e H tr e1 H1 h
  have next : ∀ {i : Nat} {e : List AV} {H : Heap} {t0 : Tr},
    (match runD P c (dsts ops) base os i e H with | some (tr, r) => some (t0 :: tr, r) | none => none) = some (tr, e1, H1) →
    (match runTr P (calls P c) c.imp ops base os i none e H with | some (tr, r) => some (t0 :: tr, r) | none => none) = some (tr, none, e1, H1) := by
   intro i e H t0 h
   cases hr : runD P c (dsts ops) base os i e H with
   | none => rw [hr] at h; cases h
   | some q =>
    obtain ⟨tq, eq, Hq⟩ := q
    rw [hr] at h
    rw [ih _ _ _ _ _ _ hr]
    simp at h
    obtain ⟨rfl, rfl, rfl⟩ := h
    rfl
  simp only [runD] at h
  simp only [runTr, behind, Bool.false_eq_true, if_false, aWanted_gword]
  split at h
  ·cases h
  ·rename_i hw
   rw [hw]
   exact next h
  ·rename_i hw
   rw [hw]
   simp only
   cases hs : astep P (aeval e) H (base + i) o.op with
   | none => simp [hs, trStep] at h
   | some sr =>
    rw [hs] at h
    cases sr with
    | val v us rs =>
     simp only [trStep] at h
     simp only [Option.isSome_none, Bool.false_eq_true, false_and, if_false]
     exact next h
    | pan v => simp [trStep] at h
    | call f args =>
     simp only [trStep] at h
     cases hi : c.imp f with
     | true =>
      simp only [hi] at h
      simp only [hi, if_true, Option.isSome_none, Bool.false_eq_true, if_false]
      cases hc : calls P c f args H with
      | none => simp [hc] at h
      | some cr =>
       cases cr with
       | pan v H' => simp [hc] at h
       | ret v H' =>
        simp only [hc] at h
        simp only
        exact next h
     | false =>
      simp only [hi] at h
      simp only [hi, Bool.false_eq_true, if_false]
      cases hc : calls P c f args H with
      | none => simp [hc] at h
      | some cr =>
       cases cr with
       | pan v H' => simp [hc] at h
       | ret v H' =>
        simp only [hc] at h
        simp only
        exact next h
variable {st : List Fr} {e : List AV} {H : Heap} {Q : Post}
def AllOk (un : List (Nat × Nat)) (tr : List Tr) : Prop := ∀ p ∈ un, NoConf (tr.getD p.1 .dead) (tr.getD p.2 .dead)
def WD (P : Program) (c : Cfg) (un : List (Nat × Nat)) (ds : List (Option Tmp)) (base : Nat) (os : List Oper) (i : Nat) (tr : List Tr) (st : List Fr) (e : List AV) (H : Heap) (Q : Post) : Prop :=
 ∃ tr' e1 H1, runD P c ds base os i e H = some (tr', e1, H1) ∧ AllOk un (tr ++ tr') ∧ Fin P c st .nrm e1 H1 Q
theorem W_draw {id : Nat} {ops : Array Oper} (un : List (Nat × Nat)) (hu : unord ops = un) (h : WD P c un (dsts ops) H.next ops.toList 0 [] st e (H.up ops.size) Q) : W P c (.region id ops true) st e H Q := by
 obtain ⟨tr, e1, H1, h1, h2, h3⟩ := h
 exact ⟨_, _, _, .draw (runD_runTr _ _ _ _ _ _ _ h1) (by rw [TrOk, hu]; exact h2), h3⟩
def dK (P : Program) (c : Cfg) (r : Option CR) (imp : Bool) (un : List (Nat × Nat)) (ds : List (Option Tmp)) (base : Nat) (dst : Option Tmp) (os : List Oper) (i : Nat) (tr : List Tr) (st : List Fr) (e : List AV) (H : Heap) (Q : Post) : Prop :=
 match r with
 | some (.ret v H') =>
  match imp with
  | true => WD P c un ds base os i (tr ++ [.call v H H']) st (aput e dst v) H' Q
  | false => WD P c un ds base os i (tr ++ [.val v [] []]) st (aput e dst v) H Q
 | _ => False
def dS (P : Program) (c : Cfg) (r : Option Sr) (un : List (Nat × Nat)) (ds : List (Option Tmp)) (base : Nat) (dst : Option Tmp) (os : List Oper) (i : Nat) (tr : List Tr) (st : List Fr) (e : List AV) (H : Heap) (Q : Post) : Prop :=
 match r with
 | some (.val v us rs) => WD P c un ds base os i (tr ++ [.val v us rs]) st (aput e dst v) (appU H us) Q
 | some (.call f args) => dK P c (calls P c f args H) (c.imp f) un ds base dst os i tr st e H Q
 | _ => False
def dG (P : Program) (c : Cfg) (v : AV) (want : Bool) (op : Op) (un : List (Nat × Nat)) (ds : List (Option Tmp)) (base : Nat) (dst : Option Tmp) (os : List Oper) (i : Nat) (tr : List Tr) (st : List Fr) (e : List AV) (H : Heap) (Q : Post) : Prop :=
 match v with
 | .lit (.bool b) =>
  match b == want with
  | true => dS P c (astep P (aeval e) H (base + i) op) un ds base dst os (i + 1) tr st e H Q
  | false => WD P c un ds base os (i + 1) (tr ++ [.val (.tup []) [] []]) st (aput e dst (.tup [])) H Q
 | .tup [] => WD P c un ds base os (i + 1) (tr ++ [.val (.tup []) [] []]) st (aput e dst (.tup [])) H Q
 | _ => False
variable {op : Op} {un : List (Nat × Nat)} {ds : List (Option Tmp)} {base i : Nat} {dst : Option Tmp} {os : List Oper} {tr : List Tr}
theorem WD_nil : WD P c un ds base [] i tr st e H Q = (AllOk un tr ∧ Fin P c st .nrm e H Q) := propext
 ⟨fun ⟨_, _, _, h, k, l⟩ => by simp [runD] at h; obtain ⟨rfl, rfl, rfl⟩ := h; simp at k; exact ⟨k, l⟩, fun ⟨k, l⟩ => ⟨_, _, _, rfl, by simpa using k, l⟩⟩
theorem WD_step {t : Tr} {v : AV} {H' : Heap} {i : Nat} : (∃ tr' e1 H1, (match runD P c ds base os i (aput e dst v) H' with | some (tr, r) => some (t :: tr, r) | none => none) = some (tr', e1, H1) ∧ AllOk un (tr ++ tr') ∧ Fin P c st .nrm e1 H1 Q) =
  WD P c un ds base os i (tr ++ [t]) st (aput e dst v) H' Q := by
 unfold WD
 cases runD P c ds base os i (aput e dst v) H' with
 | none => simp
 | some q =>
  obtain ⟨tq, eq, Hq⟩ := q
  refine propext ⟨fun ⟨_, _, _, h, k, l⟩ => ?_, fun ⟨_, _, _, h, k, l⟩ => ?_⟩
  ·simp at h
   obtain ⟨rfl, rfl, rfl⟩ := h
   exact ⟨_, _, _, rfl, by simpa using k, l⟩
  ·simp at h
   obtain ⟨rfl, rfl, rfl⟩ := h
   exact ⟨_, _, _, rfl, by simpa using k, l⟩
theorem dS_eq {r : Option Sr} : (∃ tr' e1 H1, (match trStep P c r H with
   | none => none
   | some (t, v, H') => match runD P c ds base os i (aput e dst v) H' with | some (tr, r) => some (t :: tr, r) | none => none) = some (tr', e1, H1) ∧ AllOk un (tr ++ tr') ∧ Fin P c st .nrm e1 H1 Q) =
  dS P c r un ds base dst os i tr st e H Q := by
 cases r with
 | none => simp [trStep, dS]
 | some sr =>
  cases sr with
  | val v us rs => exact WD_step
  | pan v => simp [trStep, dS]
  | call f args =>
   simp only [trStep, dS, dK]
   cases hi : c.imp f with
   | true =>
    cases calls P c f args H with
    | none => simp
    | some cr =>
     cases cr with
     | ret v H' => exact WD_step
     | pan v H' => simp
   | false =>
    cases calls P c f args H with
    | none => simp
    | some cr =>
     cases cr with
     | ret v H' => exact WD_step
     | pan v H' => simp
theorem WD_plain {type : TypeId} {pos : String} {after : Array Edge} :
  WD P c un ds base ({ dst, op, type, pos, after, guard := none } :: os) i tr st e H Q = dS P c (astep P (aeval e) H (base + i) op) un ds base dst os (i + 1) tr st e H Q := by
 rw [← dS_eq]; rfl
theorem WD_word {o : Oper} : WD P c un ds base (o :: os) i tr st e H Q =
  (match gword ds e o.guard with
  | some true => dS P c (astep P (aeval e) H (base + i) o.op) un ds base o.dst os (i + 1) tr st e H Q
  | some false => WD P c un ds base os (i + 1) (tr ++ [.val (.tup []) [] []]) st (aput e o.dst (.tup [])) H Q
  | none => False) := by
 conv => lhs; unfold WD; simp only [runD]
 cases gword ds e o.guard with
 | none => simp
 | some b =>
  cases b with
  | true => exact dS_eq
  | false => exact WD_step
theorem WD_guard {j : Nat} {d : Tmp} {want : Bool} {type : TypeId} {pos : String} {after : Array Edge} (hd : gget none ds j = some d) :
  WD P c un ds base ({ dst, op, type, pos, after, guard := some (j, want) } :: os) i tr st e H Q = dG P c (gget .bad e d) want op un ds base dst os i tr st e H Q := by
 rw [WD_word]
 simp only [gword, hd]
 generalize gget AV.bad e d = v
 unfold dG
 cases v with
 | lit u =>
  cases u with
  | bool b => simp only; cases b == want <;> rfl
  | _ => rfl
 | tup vs => cases vs <;> rfl
 | _ => rfl
theorem dG_tt : dG P c (.lit (.bool true)) true op un ds base dst os i tr st e H Q = dS P c (astep P (aeval e) H (base + i) op) un ds base dst os (i + 1) tr st e H Q := rfl
theorem dG_ff : dG P c (.lit (.bool false)) false op un ds base dst os i tr st e H Q = dS P c (astep P (aeval e) H (base + i) op) un ds base dst os (i + 1) tr st e H Q := rfl
theorem dG_tf : dG P c (.lit (.bool true)) false op un ds base dst os i tr st e H Q = WD P c un ds base os (i + 1) (tr ++ [.val (.tup []) [] []]) st (aput e dst (.tup [])) H Q := rfl
theorem dG_ft : dG P c (.lit (.bool false)) true op un ds base dst os i tr st e H Q = WD P c un ds base os (i + 1) (tr ++ [.val (.tup []) [] []]) st (aput e dst (.tup [])) H Q := rfl
theorem dG_tup {want : Bool} : dG P c (.tup []) want op un ds base dst os i tr st e H Q = WD P c un ds base os (i + 1) (tr ++ [.val (.tup []) [] []]) st (aput e dst (.tup [])) H Q := rfl
theorem dS_val {v : AV} {us : List U} {rs : List Nat} : dS P c (some (.val v us rs)) un ds base dst os i tr st e H Q = WD P c un ds base os i (tr ++ [.val v us rs]) st (aput e dst v) (appU H us) Q := rfl
theorem dS_call {f : FuncId} {args : List AV} : dS P c (some (.call f args)) un ds base dst os i tr st e H Q = dK P c (calls P c f args H) (c.imp f) un ds base dst os i tr st e H Q := rfl
theorem dK_pure {v : AV} {H' : Heap} : dK P c (some (.ret v H')) false un ds base dst os i tr st e H Q = WD P c un ds base os i (tr ++ [.val v [] []]) st (aput e dst v) H Q := rfl
theorem dK_imp {v : AV} {H' : Heap} : dK P c (some (.ret v H')) true un ds base dst os i tr st e H Q = WD P c un ds base os i (tr ++ [.call v H H']) st (aput e dst v) H' Q := rfl
end
end Go.Proofs.YtghhkbigmmjanaaGreatDoor.VA

/-! Vc2 -/
namespace Go.Proofs.YtghhkbigmmjanaaGreatDoor.VA
open Go Go.RowKit
set_option linter.unusedSimpArgs false

attribute [go_sem] Fin_nil Fin_sq Fin_sq_exit Fin_sq_ret Fin_sq_pan Fin_lp Fin_lp_exit Fin_lp_ret Fin_lp_pan Fin_bl Fin_bl_ret Fin_bl_pan Fin_bl_exit Fin_bl_other
attribute [go_sem] W_skip W_label W_exit W_ret W_scope W_seq W_block W_cond goB_true goB_false W_region WO_nil WO_plain WO_guard goD_some goG_tt goG_ff goG_tf goG_ft goG_tup goS_val goS_pan goS_call goC_ret goC_pan
attribute [go_sem] WD_nil WD_plain WD_guard dG_tt dG_ff dG_tf dG_ft dG_tup dS_val dS_call dK_pure dK_imp
attribute [go_sem] List.map_cons List.map_nil List.append_nil List.nil_append List.cons_append Option.map_some Option.bind_some Option.getD_some

section
variable {P : Program} {ρ : Operand → AV} {H : Heap} {id : Nat} {e : List AV}
@[go_sem] theorem dsts_eq (ops : List Oper) : dsts ops.toArray = ops.map (·.dst) := by simp [dsts]
@[go_sem] theorem gget_zero {α : Type} (d x : α) (l : List α) : gget d (x :: l) 0 = x := rfl
@[go_sem] theorem gget_next {α : Type} (d x : α) (l : List α) (i : Nat) : gget d (x :: l) (i + 1) = gget d l i := rfl
@[go_sem] theorem gget_lit {α : Type} (d x : α) (l : List α) (i : Nat) (h : (i == 0) = false) : gget d (x :: l) i = gget d l (i - 1) := by
 cases i with
 | zero => simp at h
 | succ i => rfl
attribute [go_sem] gget_nil
@[go_sem] theorem gget_same {α : Type} (d : α) (l : List α) (i : Nat) (v : α) : gget d (gset d l i v) i = v := by rw [gget_gset, if_pos rfl]
@[go_sem] theorem gget_other {α : Type} (d : α) (l : List α) (i : Nat) (v : α) (j : Nat) (h : (i == j) = false) : gget d (gset d l i v) j = gget d l j := by
 rw [gget_gset, if_neg (by simpa using h)]
@[go_sem] theorem aput_some (d : Tmp) (v : AV) : aput e (some d) v = gset .bad e d v := rfl
@[go_sem] theorem aput_none (v : AV) : aput e none v = e := rfl
@[go_sem] theorem appU_nil : appU H [] = H := rfl
@[go_sem] theorem appU_cons (u : U) (us : List U) : appU H (u :: us) = appU (u.app H) us := rfl
@[go_sem] theorem U_box (r : Nat) (cs : List AV) : (U.box r cs).app H = H.put r cs := rfl
@[go_sem] theorem U_live (s : Nat) (b : Bool) : (U.live s b).app H = H.setLive s b := rfl
@[go_sem] theorem U_map (r : Nat) (ks vs : List AV) : (U.map r ks vs).app H = H.putM r ks vs := rfl
@[go_sem] theorem up_ho (n r : Nat) : (H.up n).ho r = H.ho r := rfl
@[go_sem] theorem up_getM (n r : Nat) : (H.up n).getM r = H.getM r := rfl
@[go_sem] theorem up_get (n r : Nat) : (H.up n).get r = H.get r := rfl
@[go_sem] theorem up_isLive (n r : Nat) : (H.up n).isLive r = H.isLive r := rfl
@[go_sem] theorem up_next (n : Nat) : (H.up n).next = H.next + n := rfl
@[go_sem] theorem aeval_tmp (t : Tmp) : aeval e (.tmp t) = gget .bad e t := rfl
@[go_sem] theorem aeval_const (v : Value) : aeval e (.const v) = ofV v := rfl
@[go_sem] theorem aeval_func (f : FuncId) : aeval e (.func f) = .fn f [] := rfl
@[go_sem] theorem ofV_int (k : IntKind) (n : Int) : ofV (.int k n) = .lit (.int k n) := rfl
@[go_sem] theorem ofV_bool (b : Bool) : ofV (.bool b) = .lit (.bool b) := rfl
@[go_sem] theorem ofV_string (b : ByteArray) : ofV (.string b) = .lit (.string b) := rfl
@[go_sem] theorem ofV_slice : ofV (.slice none 0 0) = .sl .nil [] := rfl
@[go_sem] theorem ofV_iface : ofV .nilIface = .lit .nilIface := rfl
@[go_sem] theorem ofV_nilFunc : ofV .nilFunc = .lit .nilFunc := rfl
@[go_sem] theorem ofV_ptr : ofV (.pointer none) = .lit (.pointer none) := rfl

/-! ### operations -/
def ob (v : Option AV) : Option Sr := v.map fun v => .val v [] []
@[go_sem] theorem ob_some (v : AV) : ob (some v) = some (.val v [] []) := rfl
@[go_sem] theorem st_move (x : Operand) : astep P ρ H id (.move x) = some (.val (ρ x) [] []) := rfl
@[go_sem] theorem st_assign (x : Operand) : astep P ρ H id (.assign x) = some (.val (ρ x) [] []) := rfl
def pk (c a b : AV) : Option Sr :=
 match c with
 | .lit (.bool true) => some (.val a [] [])
 | .lit (.bool false) => some (.val b [] [])
 | _ => none
@[go_sem] theorem st_pick (x y z : Operand) : astep P ρ H id (.pick x y z) = pk (ρ x) (ρ y) (ρ z) := by
 have h1 : astep P ρ H id (.pick x y z) = (aPure P ρ (.pick x y z)).map fun v => .val v [] [] := rfl
 rw [h1]
 simp only [aPure, pk]
 generalize ρ x = v
 cases v with
 | lit u =>
  cases u with
  | bool b => cases b <;> rfl
  | _ => rfl
 | _ => rfl
@[go_sem] theorem pk_true (a b : AV) : pk (.lit (.bool true)) a b = some (.val a [] []) := rfl
@[go_sem] theorem pk_false (a b : AV) : pk (.lit (.bool false)) a b = some (.val b [] []) := rfl
theorem pk_lits (b x y : Bool) : pk (.lit (.bool b)) (.lit (.bool x)) (.lit (.bool y)) = some (.val (.lit (.bool (bif b then x else y))) [] []) := by cases b <;> rfl
@[go_sem] theorem st_bin (op : BinOp) (t t' : TypeId) (x y : Operand) : astep P ρ H id (.binOp op t x y t') = ob (aBin P op t (ρ x) (ρ y)) := rfl
@[go_sem] theorem bin_int (op : BinOp) (t : TypeId) (k : IntKind) (a b : Int) : aBin P op t (.lit (.int k a)) (.lit (.int k b)) = aInt op k a b := by
 simp only [aBin, if_true]
@[go_sem] theorem bin_str (op : BinOp) (t : TypeId) (a b : ByteArray) : aBin P op t (.lit (.string a)) (.lit (.string b)) = aStr op a b := rfl
@[go_sem] theorem bin_eqb {t : TypeId} (h : P.underlying t = some .bool) (a b : Bool) : aBin P .eql t (.lit (.bool a)) (.lit (.bool b)) = some (.lit (.bool (a == b))) := by
 simp only [aBin, h]
@[go_sem] theorem bin_neb {t : TypeId} (h : P.underlying t = some .bool) (a b : Bool) : aBin P .neq t (.lit (.bool a)) (.lit (.bool b)) = some (.lit (.bool (!(a == b)))) := by
 simp only [aBin, h]
@[go_sem] theorem int_add (k : IntKind) (a b : Int) : aInt .add k a b = some (.lit (.int k (k.wrap (a + b)))) := rfl
@[go_sem] theorem int_sub (k : IntKind) (a b : Int) : aInt .sub k a b = some (.lit (.int k (k.wrap (a - b)))) := rfl
@[go_sem] theorem int_mul (k : IntKind) (a b : Int) : aInt .mul k a b = some (.lit (.int k (k.wrap (a * b)))) := rfl
theorem int_quo (k : IntKind) (a b : Int) (h : b ≠ 0) : aInt .quo k a b = some (.lit (.int k (k.wrap (a.tdiv b)))) := by simp [aInt, h]
theorem int_rem (k : IntKind) (a b : Int) (h : b ≠ 0) : aInt .rem k a b = some (.lit (.int k (a.tmod b))) := by simp [aInt, h]
@[go_sem] theorem int_eql (k : IntKind) (a b : Int) : aInt .eql k a b = some (.lit (.bool (decide (a = b)))) := rfl
@[go_sem] theorem int_neq (k : IntKind) (a b : Int) : aInt .neq k a b = some (.lit (.bool (!decide (a = b)))) := rfl
@[go_sem] theorem int_lss (k : IntKind) (a b : Int) : aInt .lss k a b = some (.lit (.bool (decide (a < b)))) := rfl
@[go_sem] theorem int_leq (k : IntKind) (a b : Int) : aInt .leq k a b = some (.lit (.bool (decide (a ≤ b)))) := rfl
@[go_sem] theorem int_gtr (k : IntKind) (a b : Int) : aInt .gtr k a b = some (.lit (.bool (decide (b < a)))) := rfl
@[go_sem] theorem int_geq (k : IntKind) (a b : Int) : aInt .geq k a b = some (.lit (.bool (decide (b ≤ a)))) := rfl
theorem str_add (a b : ByteArray) (h : a.size + b.size ≤ 9223372036854775807) : aStr .add a b = some (.lit (.string (a ++ b))) := by simp [aStr, h]
@[go_sem] theorem str_eql (a b : ByteArray) : aStr .eql a b = some (.lit (.bool (decide (a = b)))) := by simp [aStr, strEq_decide]
@[go_sem] theorem str_neq (a b : ByteArray) : aStr .neq a b = some (.lit (.bool (!decide (a = b)))) := by simp [aStr, strEq_decide]
def un1 (op : UnOp) (x : AV) : Option AV :=
 match op, x with
 | .not, .lit (.bool b) => some (.lit (.bool (!b)))
 | .neg, .lit (.int k n) => some (.lit (.int k (k.wrap (0 - n))))
 | _, _ => none
@[go_sem] theorem st_un (op : UnOp) (t : TypeId) (x : Operand) : astep P ρ H id (.unOp op t x) = ob (un1 op (ρ x)) := rfl
@[go_sem] theorem un_not (b : Bool) : un1 .not (.lit (.bool b)) = some (.lit (.bool (!b))) := rfl
@[go_sem] theorem un_neg (k : IntKind) (n : Int) : un1 .neg (.lit (.int k n)) = some (.lit (.int k (k.wrap (0 - n)))) := rfl
/-- A string's byte at a place. -/
def bAt (s : ByteArray) (n : Nat) : UInt8 := s.data.toList.getD n 0
def ixs (u : Option TypeDesc) (x : AV) (i : Option Nat) : Option AV :=
 match u, x, i with
 | some .string, .lit (.string s), some i => if h : i < s.size then some (.lit (.int .u8 (s[i]'h).toNat)) else none
 | _, _, _ => none
@[go_sem] theorem st_index (t : TypeId) (x i : Operand) : astep P ρ H id (.index t x i) = ob (ixs (P.underlying t) (ρ x) (aNat (ρ i))) := rfl
theorem ixs_str {s : ByteArray} {n : Nat} (h : n < s.size) : ixs (some .string) (.lit (.string s)) (some n) = some (.lit (.int .u8 (bAt s n).toNat)) := by
 simp only [ixs, dif_pos h, bAt]
 congr 5
 have h' : n < s.data.toList.length := by simpa using h
 rw [List.getD_eq_getElem?_getD, List.getElem?_eq_getElem h']
 rfl
@[go_sem] theorem aNat_cast (k : IntKind) (n : Nat) : aNat (.lit (.int k (n : Int))) = some n := by simp [aNat]
@[go_sem] theorem aNat_zero (k : IntKind) : aNat (.lit (.int k 0)) = some 0 := by simp [aNat]
@[go_sem] theorem aNat_num (k : IntKind) (n : Nat) : aNat (.lit (.int k (OfNat.ofNat n))) = some n := aNat_cast k n
@[go_sem] theorem aNat_one (k : IntKind) : aNat (.lit (.int k 1)) = some 1 := by simp [aNat]
def lnn (P : Program) (t : TypeId) (x : AV) : Option AV :=
 match x with
 | .lit (.string s) => match P.underlying t with | some .string => some (.lit (.int .i64 s.size)) | _ => none
 | .sl _ es => match tElem P t with | some _ => some (.lit (.int .i64 es.length)) | none => none
 | _ => none
@[go_sem] theorem st_len (x : Operand) (t : TypeId) : astep P ρ H id (.call { callee := .builtin .len, args := #[x], argTypes := #[t] }) = ob (lnn P t (ρ x)) := rfl
@[go_sem] theorem lnn_str {t : TypeId} (h : P.underlying t = some .string) (s : ByteArray) : lnn P t (.lit (.string s)) = some (.lit (.int .i64 (s.size : Nat))) := by simp only [lnn, h]
@[go_sem] theorem lnn_sl {t : TypeId} {q : TypeId × Nat × Nat} (o : Own) (es : List (List AV)) (h : tElem P t = some q) : lnn P t (.sl o es) = some (.lit (.int .i64 (es.length : Nat))) := by simp only [lnn, h]
def mnx (mx : Bool) (x y : AV) : Option AV :=
 match x, y with
 | .lit (.int k a), .lit (.int _ b) => some (.lit (.int k (match mx with | false => (if b < a then b else a) | true => (if b > a then b else a))))
 | _, _ => none
@[go_sem] theorem st_min (x y : Operand) (ts : Array TypeId) : astep P ρ H id (.call { callee := .builtin .min, args := #[x, y], argTypes := ts }) = ob (mnx false (ρ x) (ρ y)) := rfl
@[go_sem] theorem st_max (x y : Operand) (ts : Array TypeId) : astep P ρ H id (.call { callee := .builtin .max, args := #[x, y], argTypes := ts }) = ob (mnx true (ρ x) (ρ y)) := rfl
def mnx3 (x y z : AV) : Option AV :=
 match x, y, z with
 | .lit (.int k a), .lit (.int _ b), .lit (.int _ c) => some (.lit (.int k (if c > (if b > a then b else a) then c else (if b > a then b else a))))
 | _, _, _ => none
@[go_sem] theorem st_max3 (x y z : Operand) (ts : Array TypeId) : astep P ρ H id (.call { callee := .builtin .max, args := #[x, y, z], argTypes := ts }) = ob (mnx3 (ρ x) (ρ y) (ρ z)) := rfl
@[go_sem] theorem mnx3_int (k l m : IntKind) (a b c : Int) : mnx3 (.lit (.int k a)) (.lit (.int l b)) (.lit (.int m c)) = some (.lit (.int k (if c > (if b > a then b else a) then c else (if b > a then b else a)))) := rfl
@[go_sem] theorem mnx_min (k l : IntKind) (a b : Int) : mnx false (.lit (.int k a)) (.lit (.int l b)) = some (.lit (.int k (if b < a then b else a))) := rfl
@[go_sem] theorem mnx_max (k l : IntKind) (a b : Int) : mnx true (.lit (.int k a)) (.lit (.int l b)) = some (.lit (.int k (if b > a then b else a))) := rfl
def cv (f : AV) (args : List AV) : Option Sr :=
 match f with
 | .fn k caps => some (.call k (args ++ caps))
 | _ => none
@[go_sem] theorem st_call (f : Operand) (args : List Operand) (ts : Array TypeId) : astep P ρ H id (.call { callee := .value f, args := args.toArray, argTypes := ts }) = cv (ρ f) (args.map ρ) := by
 simp only [astep, cv]
 rfl
@[go_sem] theorem cv_fn (k : FuncId) (caps args : List AV) : cv (.fn k caps) args = some (.call k (args ++ caps)) := rfl
def apd (r : Option (AV × List U × List Nat)) : Option Sr := r.map fun r => .val r.1 r.2.1 r.2.2
@[go_sem] theorem st_append (s x : Operand) (t : TypeId) : astep P ρ H id (.call { callee := .builtin .append, args := #[s, x], argTypes := #[t, t] }) = apd (aAppend P t (ρ s) (ρ x) H id) := by
 simp only [astep, if_true, apd]
@[go_sem] theorem apd_some (v : AV) (us : List U) (rs : List Nat) : apd (some (v, us, rs)) = some (.val v us rs) := rfl
/-- A struct's type: the fields' places, the zero. -/
def tBuild (P : Program) (t : TypeId) : Option (List (Nat × Nat) × List AV) :=
 match P.underlying t with
 | some (.struct fs) =>
  match tPlaces P fs.toList, tZero P t with
  | some pl, some z => some (pl, z)
  | _, _ => none
 | _ => none
def bld (q : Option (List (Nat × Nat) × List AV)) (ps : List (Nat × AV)) : Option AV :=
 match q with
 | some (pl, z) => (aFill (fun i => pl[i]?) z ps).map .agg
 | none => none
@[go_sem] theorem st_build (t : TypeId) (ps : List (Nat × Operand)) : astep P ρ H id (.build t ps.toArray) = ob (bld (tBuild P t) (ps.map fun p => (p.1, ρ p.2))) := by
 have h1 : astep P ρ H id (.build t ps.toArray) = (aPure P ρ (.build t ps.toArray)).map fun v => .val v [] [] := rfl
 rw [h1]
 simp only [aPure, tBuild, ob]
 generalize P.underlying t = u
 cases u with
 | none => rfl
 | some d =>
  cases d with
  | struct fs =>
   simp only
   cases tPlaces P fs.toList with
   | none => rfl
   | some pl =>
    cases tZero P t with
    | none => rfl
    | some z => rfl
  | _ => rfl
/-- One field laid down. -/
def lay (q : Option (Nat × Nat)) (v : List AV) (cells : List AV) : Option (List AV) :=
 match q with
 | some (off, size) => if v.length = size ∧ off + size ≤ cells.length ∧ v.all AV.one = true then some (cells.take off ++ (v ++ cells.drop (off + size))) else none
 | none => none
def fillK (q : Option (List AV)) (pl : List (Nat × Nat)) (ps : List (Nat × AV)) : Option AV :=
 match q with
 | some cells => bld (some (pl, cells)) ps
 | none => none
theorem bld_nil (pl : List (Nat × Nat)) (z : List AV) : bld (some (pl, z)) [] = some (.agg z) := rfl
theorem bld_cons (pl : List (Nat × Nat)) (z : List AV) (i : Nat) (v : AV) (ps : List (Nat × AV)) : bld (some (pl, z)) ((i, v) :: ps) = fillK (lay pl[i]? v.cells z) pl ps := by
 simp only [bld, aFill, fillK, lay]
 cases pl[i]? with
 | none => rfl
 | some q =>
  obtain ⟨off, size⟩ := q
  simp only
  split <;> rfl
attribute [go_sem] bld_nil bld_cons
@[go_sem] theorem fillK_some (cells : List AV) (pl : List (Nat × Nat)) (ps : List (Nat × AV)) : fillK (some cells) pl ps = bld (some (pl, cells)) ps := rfl
@[go_sem] theorem cells_lit (v : Value) : (AV.lit v).cells = [.lit v] := rfl
@[go_sem] theorem cells_sl (o : Own) (es : List (List AV)) : (AV.sl o es).cells = [.sl o es] := rfl
@[go_sem] theorem cells_agg (cs : List AV) : (AV.agg cs).cells = cs := rfl
@[go_sem] theorem cells_ifc (t : TypeId) (v : AV) : (AV.ifc t v).cells = [.ifc t v] := rfl
@[go_sem] theorem cells_fn (f : FuncId) (cs : List AV) : (AV.fn f cs).cells = [.fn f cs] := rfl
@[go_sem] theorem cells_ptr (r o : Nat) : (AV.ptr r o).cells = [.ptr r o] := rfl
@[go_sem] theorem one_sl (o : Own) (es : List (List AV)) : (AV.sl o es).one = true := rfl
@[go_sem] theorem one_ptr (r o : Nat) : (AV.ptr r o).one = true := rfl
@[go_sem] theorem one_ifc (t : TypeId) (v : AV) : (AV.ifc t v).one = true := rfl
@[go_sem] theorem one_fn (f : FuncId) (cs : List AV) : (AV.fn f cs).one = true := rfl
@[go_sem] theorem one_int (k : IntKind) (n : Int) : (AV.lit (.int k n)).one = true := rfl
@[go_sem] theorem one_bool (b : Bool) : (AV.lit (.bool b)).one = true := rfl
@[go_sem] theorem one_string (s : ByteArray) : (AV.lit (.string s)).one = true := rfl
@[go_sem] theorem one_niface : (AV.lit .nilIface).one = true := rfl
def fdd (q : Option (Nat × Nat × Bool)) (x : AV) : Option AV :=
 match q, x with
 | some (o, n, true), .agg cs => if o + n ≤ cs.length then some (.agg ((cs.drop o).take n)) else none
 | some (o, _, false), .agg cs => cs[o]?
 | _, _ => none
@[go_sem] theorem st_field (t : TypeId) (x : Operand) (k : Nat) : astep P ρ H id (.field t x k) = ob (fdd (tField P t k) (ρ x)) := rfl
@[go_sem] theorem fdd_one (o n : Nat) (cs : List AV) : fdd (some (o, n, false)) (.agg cs) = cs[o]? := rfl
theorem fdd_agg (o n : Nat) (cs : List AV) (h : o + n ≤ cs.length) : fdd (some (o, n, true)) (.agg cs) = some (.agg ((cs.drop o).take n)) := by simp [fdd, h]
def fad (q : Option (Nat × Nat × Bool)) (x : AV) : Option AV :=
 match q, x with
 | some (o, n, _), .ptr r off => if n = 0 then none else some (.ptr r (off + o))
 | some (o, n, _), .ep cs => if n = 0 then none else if o ≤ cs.length then some (.ep (cs.drop o)) else none
 | _, _ => none
@[go_sem] theorem st_fieldAddr (t : TypeId) (x : Operand) (k : Nat) : astep P ρ H id (.fieldAddr t x k) = ob (fad (tField P t k) (ρ x)) := rfl
@[go_sem] theorem fad_ptr (o n : Nat) (b : Bool) (r off : Nat) (h : (n == 0) = false) : fad (some (o, n, b)) (.ptr r off) = some (.ptr r (off + o)) := by
 simp only [fad]; rw [if_neg (by simpa using h)]
@[go_sem] theorem fad_ep (o n : Nat) (b : Bool) (cs : List AV) (h : (n == 0) = false) (h2 : decide (o ≤ cs.length) = true) : fad (some (o, n, b)) (.ep cs) = some (.ep (cs.drop o)) := by
 simp only [fad]; rw [if_neg (by simpa using h), if_pos (by simpa using h2)]
def iad (q : Option (TypeId × Nat × Nat)) (x : AV) (i : Option Nat) : Option AV :=
 match q, x, i with
 | some (_, n, _), .sl _ es, some i =>
  match es[i]? with
  | some e => if e.length = n then some (.ep e) else none
  | none => none
 | _, _, _ => none
@[go_sem] theorem st_indexAddr (t : TypeId) (x i : Operand) : astep P ρ H id (.indexAddr t x i) = ob (iad (tElem P t) (ρ x) (aNat (ρ i))) := rfl
theorem iad_some {t : TypeId} {n b : Nat} {o : Own} {es : List (List AV)} {i : Nat} {e : List AV} (h : es[i]? = some e) (hl : e.length = n) : iad (some (t, n, b)) (.sl o es) (some i) = some (.ep e) := by
 simp only [iad, h, hl, if_true]
def lod (r : Option (AV × List Nat)) : Option Sr := r.map fun r => .val r.1 [] r.2
@[go_sem] theorem st_load (t : TypeId) (x : Operand) : astep P ρ H id (.load t x) = lod (aLoad P t (ρ x) H) := rfl
@[go_sem] theorem lod_some (v : AV) (rs : List Nat) : lod (some (v, rs)) = some (.val v [] rs) := rfl
@[go_sem] theorem load_ep {t : TypeId} (h : tAgg P t = some false) (v : AV) (cs : List AV) : aLoad P t (.ep (v :: cs)) H = some (v, []) := by simp [aLoad, h]
theorem load_ep_agg {t : TypeId} {n : Nat} {cs : List AV} (h : tAgg P t = some true) (hs : tSize P t = some n) (hl : n ≤ cs.length) : aLoad P t (.ep cs) H = some (.agg (cs.take n), []) := by simp [aLoad, h, hs, hl]
theorem load_ptr {t : TypeId} {r off : Nat} {cs : List AV} {v : AV} (h : tAgg P t = some false) (hg : H.get r = some cs) (hv : cs[off]? = some v) : aLoad P t (.ptr r off) H = some (v, [r]) := by simp [aLoad, h, hg, hv]
theorem load_ptr_agg {t : TypeId} {r off n : Nat} {cs : List AV} (h : tAgg P t = some true) (hs : tSize P t = some n) (hg : H.get r = some cs) (hl : off + n ≤ cs.length) : aLoad P t (.ptr r off) H = some (.agg ((cs.drop off).take n), [r]) := by simp [aLoad, h, hs, hg, hl]
def sto (r : Option (List U)) : Option Sr := r.map fun us => .val (.tup []) us []
@[go_sem] theorem st_store (t : TypeId) (x v : Operand) : astep P ρ H id (.store t x v) = sto (aStore P t (ρ x) (ρ v) H) := rfl
@[go_sem] theorem sto_some (us : List U) : sto (some us) = some (.val (.tup []) us []) := rfl
theorem store_ptr {t : TypeId} {n r off : Nat} {cs : List AV} {v : AV} (hs : tSize P t = some n) (hg : H.get r = some cs) (h1 : v.cells.length = n) (h2 : off + n ≤ cs.length) (h3 : v.cells.all AV.one = true) :
  aStore P t (.ptr r off) v H = some [.box r (cs.take off ++ (v.cells ++ cs.drop (off + n)))] := by simp [aStore, hs, hg, h1, h2] ; simpa using h3
def alo (z : Option (List AV)) (id : Nat) : Option Sr := z.map fun z => .val (.ptr id 0) [.box id z] []
@[go_sem] theorem st_alloc (t : TypeId) : astep P ρ H id (.alloc t) = alo (tZero P t) id := by
 simp only [astep, alo]; cases tZero P t <;> rfl
@[go_sem] theorem alo_some (z : List AV) : alo (some z) id = some (.val (.ptr id 0) [.box id z] []) := rfl
def bxx (v : AV) (id : Nat) : Option Sr := if v.cells.all AV.one = true then some (.val (.ptr id 0) [.box id v.cells] []) else none
@[go_sem] theorem st_box (t : TypeId) (x : Operand) : astep P ρ H id (.box t x) = bxx (ρ x) id := rfl
theorem bxx_some {v : AV} (h : v.cells.all AV.one = true) : bxx v id = some (.val (.ptr id 0) [.box id v.cells] []) := by simp [bxx, h]
@[go_sem] theorem st_buildSlice (t : TypeId) (len : Nat) (ps : List (Nat × Operand)) : astep P ρ H id (.buildSlice t len ps.toArray) = ob (aBuildSlice P t len (ps.map fun p => (p.1, ρ p.2))) := rfl
@[go_sem] theorem st_makeFunc (f : FuncId) (caps : List Operand) : astep P ρ H id (.makeFunc (.func f) #[] caps.toArray) = some (.val (.fn f (caps.map ρ)) [] []) := by
 simp only [astep, aPure, if_true, Option.map_some]
@[go_sem] theorem st_makeIface {t : TypeId} (x : Operand) (h : P.concrete t = true) : astep P ρ H id (.makeInterface t x) = some (.val (.ifc t (ρ x)) [] []) := by
 simp only [astep, aPure, h, if_true, Option.map_some]
def pnn (x : AV) : Option Sr :=
 match x with
 | .ifc t v => some (.pan (.ifc t v))
 | _ => none
@[go_sem] theorem st_panic (x : Operand) : astep P ρ H id (.panic x) = pnn (ρ x) := rfl
@[go_sem] theorem pnn_ifc (t : TypeId) (v : AV) : pnn (.ifc t v) = some (.pan (.ifc t v)) := rfl
def ncc (x : AV) : Option AV :=
 match x with
 | .ptr r o => some (.ptr r o)
 | .ep cs => some (.ep cs)
 | .fn f cs => some (.fn f cs)
 | _ => none
@[go_sem] theorem st_nilCheck (x : Operand) : astep P ρ H id (.nilCheck x) = ob (ncc (ρ x)) := rfl
@[go_sem] theorem ncc_ptr (r o : Nat) : ncc (.ptr r o) = some (.ptr r o) := rfl
@[go_sem] theorem ncc_ep (cs : List AV) : ncc (.ep cs) = some (.ep cs) := rfl
@[go_sem] theorem ncc_fn (f : FuncId) (cs : List AV) : ncc (.fn f cs) = some (.fn f cs) := rfl
def ext (x : AV) (i : Nat) : Option AV :=
 match x with
 | .tup vs => vs[i]?
 | _ => none
@[go_sem] theorem st_extract (x : Operand) (i : Nat) : astep P ρ H id (.extract x i) = ob (ext (ρ x) i) := rfl
@[go_sem] theorem ext_tup (vs : List AV) (i : Nat) : ext (.tup vs) i = vs[i]? := rfl
attribute [go_sem] List.getElem?_cons_zero List.getElem?_cons_succ
@[go_sem] theorem st_slice (t : TypeId) (x : Operand) (lo hi : Option Operand) : astep P ρ H id (.slice t x lo hi none) = ob (aSlice P t (ρ x) (lo.map ρ) (hi.map ρ)) := rfl
theorem slice_str {t : TypeId} {s : ByteArray} {lo hi : Option AV} {l h : Nat} (ht : P.underlying t = some .string) (hh : optNat s.size hi = some h) (hl : optNat 0 lo = some l) (h1 : l ≤ h) (h2 : h ≤ s.size) :
  aSlice P t (.lit (.string s)) lo hi = some (.lit (.string (s.extract l h))) := by simp [aSlice, ht, hh, hl, h1, h2]
@[go_sem] theorem st_makeMap (t : TypeId) : astep P ρ H id (.makeMap t none) = some (.val (.mp id) [.map id [] []] []) := rfl
@[go_sem] theorem st_insert (t : TypeId) (m k v : Operand) : astep P ρ H id (.insert t m k v) = sto (aMapSet P t (ρ m) (ρ k) (ρ v) H) := rfl
@[go_sem] theorem st_mapUpdate (t : TypeId) (m k v : Operand) : astep P ρ H id (.mapUpdate t m k v) = sto (aMapSet P t (ρ m) (ρ k) (ρ v) H) := rfl
@[go_sem] theorem st_lookup (t : TypeId) (m k : Operand) (ok : Bool) : astep P ρ H id (.lookup t m k ok) = lod (aLookup P t (ρ m) (ρ k) ok H) := rfl
@[go_sem] theorem kEq_int (k : IntKind) (a b : Int) : kEq (.int k) (.lit (.int k a)) (.lit (.int k b)) = some (decide (a = b)) := by simp [kEq]
@[go_sem] theorem kEq_str (a b : ByteArray) : kEq .string (.lit (.string a)) (.lit (.string b)) = some (strEq a b) := rfl
@[go_sem] theorem kFind_nil (d : TypeDesc) (x : AV) : kFind d x [] = some none := rfl
def kFd (q : Option Bool) (r : Option (Option Nat)) : Option (Option Nat) :=
 match q with
 | some true => some (some 0)
 | some false => r.map (·.map (· + 1))
 | none => none
@[go_sem] theorem kFind_cons (d : TypeDesc) (x y : AV) (l : List AV) : kFind d x (y :: l) = kFd (kEq d x y) (kFind d x l) := rfl
@[go_sem] theorem kFd_true (r : Option (Option Nat)) : kFd (some true) r = some (some 0) := rfl
@[go_sem] theorem kFd_none : kFd (some false) (some none) = some none := rfl
@[go_sem] theorem kFd_some (n : Nat) : kFd (some false) (some (some n)) = some (some (n + 1)) := rfl
def lkp (q : Option (Option Nat)) (vs : List AV) (z : Option AV) (ok : Bool) (r : Nat) : Option (AV × List Nat) :=
 match q with
 | some (some i) => (vs[i]?).map fun v => (okd ok v true, [r])
 | some none => z.map fun z => (okd ok z false, [r])
 | none => none
theorem lookup_mp {t e : TypeId} {d : TypeDesc} {r : Nat} {ks vs : List AV} {k : AV} (ok : Bool) (ht : tKey P t = some (d, e)) (hg : H.getM r = some (ks, vs)) (hk : kEq d k k = some true) :
  aLookup P t (.mp r) k ok H = lkp (kFind d k ks) vs (tZ1 P e) ok r := by simp only [aLookup, ht, hg, hk, if_true]; rfl
@[go_sem] theorem lkp_some (i : Nat) (vs : List AV) (z : Option AV) (ok : Bool) (r : Nat) : lkp (some (some i)) vs z ok r = (vs[i]?).map fun v => (okd ok v true, [r]) := rfl
@[go_sem] theorem lkp_none (vs : List AV) (z : AV) (ok : Bool) (r : Nat) : lkp (some none) vs (some z) ok r = some (okd ok z false, [r]) := rfl
@[go_sem] theorem okd_true (v : AV) (b : Bool) : okd true v b = .tup [v, .lit (.bool b)] := rfl
@[go_sem] theorem okd_false (v : AV) (b : Bool) : okd false v b = v := rfl
def mst (q : Option (Option Nat)) (ks vs : List AV) (k v : AV) (r : Nat) : Option (List U) :=
 match q with
 | some (some i) => some [.map r ks (vs.set i v)]
 | some none => some [.map r (ks ++ [k]) (vs ++ [v])]
 | none => none
theorem mapSet_mp {t e : TypeId} {d : TypeDesc} {r : Nat} {ks vs : List AV} {k v : AV} (ht : tKey P t = some (d, e)) (hg : H.getM r = some (ks, vs)) (hk : kEq d k k = some true) :
  aMapSet P t (.mp r) k v H = mst (kFind d k ks) ks vs k v r := by simp only [aMapSet, ht, hg, hk, if_true]; rfl
@[go_sem] theorem mst_some (i : Nat) (ks vs : List AV) (k v : AV) (r : Nat) : mst (some (some i)) ks vs k v r = some [.map r ks (vs.set i v)] := rfl
@[go_sem] theorem mst_none (ks vs : List AV) (k v : AV) (r : Nat) : mst (some none) ks vs k v r = some [.map r (ks ++ [k]) (vs ++ [v])] := rfl
@[go_sem] theorem cells_mp (r : Nat) : (AV.mp r).cells = [.mp r] := rfl
@[go_sem] theorem one_mp (r : Nat) : (AV.mp r).one = true := rfl
def cvt (a b : Option TypeDesc) (x : AV) : Option AV :=
 match a, b, x with
 | some _, some (.int k), .lit (.int _ n) => some (.lit (.int k (k.wrap n)))
 | some .string, some .string, .lit (.string s) => some (.lit (.string s))
 | _, _, _ => none
@[go_sem] theorem st_convert (s d : TypeId) (x : Operand) : astep P ρ H id (.convert s d x) = ob (cvt (P.underlying s) (P.underlying d) (ρ x)) := rfl
@[go_sem] theorem cvt_int (a : TypeDesc) (k l : IntKind) (n : Int) : cvt (some a) (some (.int k)) (.lit (.int l n)) = some (.lit (.int k (k.wrap n))) := by
 cases a <;> rfl
end
end Go.Proofs.YtghhkbigmmjanaaGreatDoor.VA

/-! Vc3 -/
namespace Go.Proofs.YtghhkbigmmjanaaGreatDoor.VA
open Go Go.RowKit
set_option linter.unusedSimpArgs false

/-- A function's end, with what it answers. -/
def RetQ (P : Program) (rs : List ResultVar) (v : AV) : Post := fun x e H =>
 match x with
 | .nrm | .ret => (aResults P e H rs).map (fun vs => san (oneOr vs)) = some v
 | _ => False
def RetHQ (P : Program) (rs : List ResultVar) (R : AV → Heap → Prop) : Post := fun x e H =>
 match x with
 | .nrm | .ret => ∃ vs, aResults P e H rs = some vs ∧ R (san (oneOr vs)) H
 | _ => False
section
variable {P : Program} {c : Cfg} {rs : List ResultVar} {v : AV} {e : List AV} {H : Heap} {R : AV → Heap → Prop}
@[go_sem] theorem RetQ_nrm : RetQ P rs v .nrm e H = ((aResults P e H rs).map (fun vs => san (oneOr vs)) = some v) := rfl
@[go_sem] theorem RetQ_ret : RetQ P rs v .ret e H = ((aResults P e H rs).map (fun vs => san (oneOr vs)) = some v) := rfl
@[go_sem] theorem RetHQ_nrm : RetHQ P rs R .nrm e H = (∃ vs, aResults P e H rs = some vs ∧ R (san (oneOr vs)) H) := rfl
@[go_sem] theorem RetHQ_ret : RetHQ P rs R .ret e H = (∃ vs, aResults P e H rs = some vs ∧ R (san (oneOr vs)) H) := rfl
@[go_sem] theorem res_nil : aResults P e H [] = some [] := rfl
def resK (x : Option AV) (r : Option (List AV)) : Option (List AV) :=
 match x, r with
 | some v, some vs => some (v :: vs)
 | _, _ => none
@[go_sem] theorem res_tmp (t : Tmp) : aResults P e H (.tmp t :: rs) = resK (some (gget .bad e t)) (aResults P e H rs) := rfl
@[go_sem] theorem res_cell (a : Tmp) (t : TypeId) : aResults P e H (.cell a t :: rs) = resK ((aLoad P t (gget .bad e a) H).map (·.1)) (aResults P e H rs) := rfl
@[go_sem] theorem resK_some (x : AV) (xs : List AV) : resK (some x) (some xs) = some (x :: xs) := rfl
@[go_sem] theorem oneOr_one (x : AV) : oneOr [x] = x := rfl
@[go_sem] theorem oneOr_nil : oneOr [] = .tup [] := rfl
@[go_sem] theorem oneOr_two (x y : AV) (l : List AV) : oneOr (x :: y :: l) = .tup (x :: y :: l) := rfl
@[go_sem] theorem san_lit (u : Value) : san (.lit u) = .lit u := by simp only [san]
@[go_sem] theorem san_sl (o : Own) (es : List (List AV)) : san (.sl o es) = .sl .sh (sanLL es) := by simp only [san]
@[go_sem] theorem san_fn (f : FuncId) (cs : List AV) : san (.fn f cs) = .fn f (sanL cs) := by simp only [san]
@[go_sem] theorem san_ifc (t : TypeId) (v : AV) : san (.ifc t v) = .ifc t (san v) := by simp only [san]
@[go_sem] theorem san_agg (cs : List AV) : san (.agg cs) = .agg (sanL cs) := by simp only [san]
@[go_sem] theorem san_tup (cs : List AV) : san (.tup cs) = .tup (sanL cs) := by simp only [san]
@[go_sem] theorem sanL_nil : sanL [] = [] := rfl
@[go_sem] theorem sanL_cons (x : AV) (l : List AV) : sanL (x :: l) = san x :: sanL l := rfl
@[go_sem] theorem sanLL_nil : sanLL [] = [] := rfl
@[go_sem] theorem sanLL_cons (x : List AV) (l : List (List AV)) : sanLL (x :: l) = sanL x :: sanLL l := rfl
theorem sanLL_app (a b : List (List AV)) : sanLL (a ++ b) = sanLL a ++ sanLL b := by simp [sanLL_map]
/-- A list of elements that say nothing of memory. -/
theorem sanLL_of {α : Type} (f : α → List AV) (h : ∀ x, sanL (f x) = f x) (l : List α) : sanLL (l.map f) = l.map f := by
 rw [sanLL_map]; simp [h, Function.comp_def]
theorem runFn_of_XS {fn : Func} {code : Code} (hb : fn.body = some code) {args : List AV} (hn : args.length ≤ fn.ntmps) {x : Ex} {e1 : List AV} {H1 : Heap}
  (h : XS P c code args H x e1 H1) (hx : x = .nrm ∨ x = .ret) {vs : List AV} (hv : aResults P e1 H1 fn.results.toList = some vs) : ∃ k, runFn P (call P c k) c.imp k fn args H = some (.ret (san (oneOr vs)) H1) := by
 obtain ⟨k, hk⟩ := h.exec
 obtain ⟨n, hn'⟩ := exec_fuel _ _ _ _ _ hk
 have h2 : exec P (call P c (max k n)) c.imp k code args H = some (x, e1, H1) := exec_mono (call_le (Nat.le_max_right k n)) _ _ _ _ _ hn' _ (Nat.le_refl _)
 have h3 := exec_mono (KLe.refl _) _ _ _ _ _ h2 (max k n) (Nat.le_max_left k n)
 refine ⟨max k n, ?_⟩
 unfold runFn
 rcases hx with rfl | rfl <;> simp only [hb, hn, if_true, h3, hv]
/-- A function that leaves its caller's memory alone. -/
theorem calls_pure {f : FuncId} {fn : Func} {code : Code} {args : List AV} (ht : c.told f = none) (hf : c.fn f = some fn) (hi : c.imp f = false) (hb : fn.body = some code) (hn : Nat.ble args.length fn.ntmps = true)
  (h : W P c code [] (sanL args) Heap.empty (RetQ P fn.results.toList v)) (H : Heap) : calls P c f args H = some (.ret v H) := by
 obtain ⟨x, e1, H1, hx, hq⟩ := h
 rw [Fin_nil] at hq
 have hq' : (x = .nrm ∨ x = .ret) ∧ (aResults P e1 H1 fn.results.toList).map (fun vs => san (oneOr vs)) = some v := by
  cases x <;> first | exact ⟨.inl rfl, hq⟩ | exact ⟨.inr rfl, hq⟩ | exact hq.elim
 cases hv : aResults P e1 H1 fn.results.toList with
 | none => simp [hv] at hq'
 | some vs =>
  have hvv : san (oneOr vs) = v := by have := hq'.2; rw [hv] at this; simpa using this
  obtain ⟨k, hk⟩ := runFn_of_XS hb (by rw [length_sanL]; exact Nat.le_of_ble_eq_true hn) hx hq'.1 hv
  refine calls_iff.2 ⟨k + 1, ?_⟩
  simp only [call, ht, hf, hi, hk, hvv]
/-- A function that may write to its caller's memory. -/
theorem calls_imp {f : FuncId} {fn : Func} {code : Code} {args : List AV} (ht : c.told f = none) (hf : c.fn f = some fn) (hi : c.imp f = true) (hb : fn.body = some code) (hn : Nat.ble args.length fn.ntmps = true)
  (h : W P c code [] args H (RetHQ P fn.results.toList R)) (htr : c.trim f = none := by rfl) : ∃ v H', calls P c f args H = some (.ret v H') ∧ R v H' := by
 obtain ⟨x, e1, H1, hx, hq⟩ := h
 rw [Fin_nil] at hq
 have hq' : (x = .nrm ∨ x = .ret) ∧ ∃ vs, aResults P e1 H1 fn.results.toList = some vs ∧ R (san (oneOr vs)) H1 := by
  cases x <;> first | exact ⟨.inl rfl, hq⟩ | exact ⟨.inr rfl, hq⟩ | exact hq.elim
 obtain ⟨hx2, vs, hv, hr⟩ := hq'
 obtain ⟨k, hk⟩ := runFn_of_XS hb (Nat.le_of_ble_eq_true hn) hx hx2 hv
 refine ⟨_, _, calls_iff.2 ⟨k + 1, ?_⟩, hr⟩
 simp only [call, ht, hf, hi, hk, htr, trimK]
/-- A function that is told outright. -/
theorem calls_told {f : FuncId} {args : List AV} {h : List AV → Option AV} (ht : c.told f = some h) (hv : h (sanL args) = some v) (H : Heap) : calls P c f args H = some (.ret v H) :=
 calls_iff.2 ⟨1, by simp only [call, ht, hv]⟩
/-- Appending in place or to nothing. -/
def OwnOk (H : Heap) (o : Own) (e : TypeId) (sz : Nat) : Prop :=
 match o with
 | .nil => True
 | .own s e' z => e' = e ∧ z = sz ∧ H.isLive s = true
 | _ => False
theorem append_ok {t : TypeId} {e : TypeId} {sz bs : Nat} {o o' : Own} {es xs : List (List AV)} {x : List AV} {id : Nat} (ht : tElem P t = some (e, sz, bs)) (ho : OwnOk H o e sz) (hx : x.length = sz) (hs : (sz == 0) = false)
  (hz : zeroOk P e sz = true) (hb : (es.length + (xs.length + 1)) * bs ≤ 140737488355328) (hl : es.length + (xs.length + 1) ≤ 140737488355328) :
  ∃ us rs, aAppend P t (.sl o es) (.sl o' (x :: xs)) H id = some (.sl (.own id e sz) (es ++ sanLL (x :: xs)), us, rs) ∧ OwnOk (appU H us) (.own id e sz) e sz ∧ (appU H us).next = H.next := by
 have hne : sz ≠ 0 := by simpa using hs
 have hs' : 0 < sz := by omega
 cases o with
 | nil =>
  refine ⟨[.live id true], [], ?_, ?_, ?_⟩
  ·simp only [aAppend, ht]; rw [if_pos ⟨hx, hs', hz, hb, hl⟩]
  ·simp [OwnOk, appU, U.app]
  ·simp [appU, U.app]
 | own k e' z =>
  obtain ⟨rfl, rfl, h3⟩ := ho
  refine ⟨[.live k false, .live id true], [k], ?_, ?_, ?_⟩
  ·simp only [aAppend, ht]; rw [if_pos ⟨hx, hs', hz, hb, hl⟩, if_pos (by simp [h3])]
  ·simp [OwnOk, appU, U.app]
  ·simp [appU, U.app]
 | sh => exact ho.elim
 | ex => exact ho.elim
end
end Go.Proofs.YtghhkbigmmjanaaGreatDoor.VA

/-! Vc4 -/
namespace Go.Proofs.YtghhkbigmmjanaaGreatDoor.VA
open Go Go.RowKit
set_option linter.unusedSimpArgs false

attribute [go_sem] Heap.get_put Heap.isLive_put Heap.next_put Heap.isLive_setLive Heap.get_setLive Heap.next_setLive Heap.get_empty Heap.isLive_empty Heap.next_empty
section
variable {P : Program} {H : Heap} {id : Nat}
def laid1 (o : Option (List AV)) : Option (List AV) := o
@[go_sem] theorem lay_some (off size : Nat) (v cells : List AV) :
  lay (some (off, size)) v cells = if v.length = size ∧ off + size ≤ cells.length ∧ v.all AV.one = true then some (cells.take off ++ (v ++ cells.drop (off + size))) else none := rfl
attribute [go_sem] List.all_cons List.all_nil List.take_zero List.take_nil List.drop_nil List.drop_zero List.take_succ_cons List.drop_succ_cons Bool.and_true Bool.true_and and_self if_true
def stoK (n : Option Nat) (cs : Option (List AV)) (r off : Nat) (v : List AV) : Option (List U) :=
 match n, cs with
 | some n, some cs => (lay (some (off, n)) v cs).map fun cs => [.box r cs]
 | _, _ => none
@[go_sem] theorem store_eq (t : TypeId) (r off : Nat) (v : AV) : aStore P t (.ptr r off) v H = stoK (tSize P t) (H.get r) r off v.cells := by
 simp only [aStore, stoK]
 cases tSize P t with
 | none => rfl
 | some n =>
  cases hg : H.get r with
  | none => simp only [hg]
  | some cs =>
   simp only [hg, lay]
   split <;> rfl
@[go_sem] theorem stoK_some (n : Nat) (cs : List AV) (r off : Nat) (v : List AV) : stoK (some n) (some cs) r off v = (lay (some (off, n)) v cs).map fun cs => [.box r cs] := rfl
def ldK (b : Option Bool) (n : Option Nat) (cs : Option (List AV)) (r off : Nat) : Option (AV × List Nat) :=
 match b, n, cs with
 | some true, some n, some cs => if off + n ≤ cs.length then some (.agg ((cs.drop off).take n), [r]) else none
 | some false, _, some cs => (cs[off]?).map fun v => (v, [r])
 | _, _, _ => none
@[go_sem] theorem load_eq (t : TypeId) (r off : Nat) : aLoad P t (.ptr r off) H = ldK (tAgg P t) (tSize P t) (H.get r) r off := by
 simp only [aLoad, ldK]
 cases tAgg P t with
 | none => rfl
 | some b =>
  cases b with
  | true =>
   cases tSize P t with
   | none => rfl
   | some n => cases hg : H.get r <;> simp only [hg]
  | false =>
   cases hg : H.get r with
   | none => cases tSize P t <;> rfl
   | some cs =>
    simp only
    cases cs[off]? <;> cases tSize P t <;> rfl
@[go_sem] theorem ldK_true (n : Nat) (cs : List AV) (r off : Nat) : ldK (some true) (some n) (some cs) r off = if off + n ≤ cs.length then some (.agg ((cs.drop off).take n), [r]) else none := rfl
@[go_sem] theorem ldK_false (n : Option Nat) (cs : List AV) (r off : Nat) : ldK (some false) n (some cs) r off = (cs[off]?).map fun v => (v, [r]) := by cases n <;> rfl
def leK (b : Option Bool) (n : Option Nat) (cs : List AV) : Option (AV × List Nat) :=
 match b, n with
 | some true, some n => if n ≤ cs.length then some (.agg (cs.take n), []) else none
 | some false, _ => (cs[0]?).map fun v => (v, [])
 | _, _ => none
@[go_sem] theorem load_ep_eq (t : TypeId) (cs : List AV) : aLoad P t (.ep cs) H = leK (tAgg P t) (tSize P t) cs := by
 simp only [aLoad, leK]
 cases tAgg P t with
 | none => rfl
 | some b =>
  cases b with
  | true => cases tSize P t <;> rfl
  | false => cases tSize P t <;> cases cs <;> rfl
@[go_sem] theorem leK_true (n : Nat) (cs : List AV) : leK (some true) (some n) cs = if n ≤ cs.length then some (.agg (cs.take n), []) else none := rfl
@[go_sem] theorem leK_false (n : Option Nat) (cs : List AV) : leK (some false) n cs = (cs[0]?).map fun v => (v, []) := by cases n <;> rfl

/-! ### appending -/
def ownUs (o : Own) (id : Nat) : List U :=
 match o with
 | .own k _ _ => [.live k false, .live id true]
 | _ => [.live id true]
def ownRs (o : Own) : List Nat :=
 match o with
 | .own k _ _ => [k]
 | _ => []
theorem append_eq {t : TypeId} {e : TypeId} {sz bs : Nat} {o o' : Own} {es xs : List (List AV)} {x : List AV} (ht : tElem P t = some (e, sz, bs)) (hz : zeroOk P e sz = true) (hs : 0 < sz)
  (hb : (es.length + (xs.length + 1)) * bs ≤ 140737488355328) (hl : es.length + (xs.length + 1) ≤ 140737488355328) (hx : x.length = sz) (H : Heap) (id : Nat) (ho : OwnOk H o e sz) :
  aAppend P t (.sl o es) (.sl o' (x :: xs)) H id = some (.sl (.own id e sz) (es ++ sanLL (x :: xs)), ownUs o id, ownRs o) := by
 cases o with
 | nil => simp only [aAppend, ht]; rw [if_pos ⟨hx, hs, hz, hb, hl⟩]; rfl
 | own k e' z =>
  obtain ⟨rfl, rfl, h3⟩ := ho
  simp only [aAppend, ht]; rw [if_pos ⟨hx, hs, hz, hb, hl⟩, if_pos (by simp [h3])]; rfl
 | sh => exact ho.elim
 | ex => exact ho.elim
@[go_sem] theorem ownUs_get (o : Own) (r : Nat) : (appU H (ownUs o id)).get r = H.get r := by cases o <;> rfl
@[go_sem] theorem ownUs_next (o : Own) : (appU H (ownUs o id)).next = H.next := by cases o <;> rfl
@[go_sem] theorem OwnOk_ownUs (o : Own) (e : TypeId) (sz : Nat) : OwnOk (appU H (ownUs o id)) (.own id e sz) e sz = True := by
 apply eq_true
 cases o <;> simp [ownUs, appU, U.app, OwnOk]
@[go_sem] theorem OwnOk_up (n : Nat) (o : Own) (e : TypeId) (sz : Nat) : OwnOk (H.up n) o e sz = OwnOk H o e sz := by cases o <;> rfl
@[go_sem] theorem OwnOk_put (r : Nat) (cs : List AV) (o : Own) (e : TypeId) (sz : Nat) : OwnOk (H.put r cs) o e sz = OwnOk H o e sz := by cases o <;> rfl
@[go_sem] theorem OwnOk_nil (e : TypeId) (sz : Nat) : OwnOk H .nil e sz = True := rfl
/-- A literal of one element. -/
theorem build1 {t : TypeId} {e : TypeId} {sz bs : Nat} (ht : tElem P t = some (e, sz, bs)) (hs : sz ≤ 16777216) {z : List AV} (hz : tZero P e = some z) (hz1 : z.length = sz) (hz2 : z.all AV.one = true) (v : AV)
  (h1 : v.cells.length = sz) (h2 : v.cells.all AV.one = true) : aBuildSlice P t 1 [(0, v)] = some (.sl .ex [v.cells]) := by
 simp only [aBuildSlice, ht, hz]
 rw [if_pos (by omega), if_pos ⟨hz1, hz2⟩]
 simp only [aFill]
 have : (List.replicate 1 z).flatten = z := by simp
 rw [this, if_pos ⟨h1, by omega, h2⟩]
 simp only [Nat.zero_mul, Nat.zero_add, List.take_zero, List.nil_append]
 rw [List.drop_of_length_le (by omega), List.append_nil]
 simp only [chunk]
 rw [List.take_of_length_le (by omega)]
/-- An empty literal. -/
theorem build0 {t : TypeId} {e : TypeId} {sz bs : Nat} (ht : tElem P t = some (e, sz, bs)) {z : List AV} (hz : tZero P e = some z) (hz1 : z.length = sz) (hz2 : z.all AV.one = true) : aBuildSlice P t 0 [] = some (.sl .ex []) := by
 simp only [aBuildSlice, ht, hz]
 rw [if_pos (by omega), if_pos ⟨hz1, hz2⟩]
 rfl
/-- Appending to a literal without elements. -/
theorem append_ex {t : TypeId} {e : TypeId} {sz bs : Nat} {o' : Own} {xs : List (List AV)} {x : List AV} (ht : tElem P t = some (e, sz, bs)) (hz : zeroOk P e sz = true) (hs : 0 < sz)
  (hb : (0 + (xs.length + 1)) * bs ≤ 140737488355328) (hl : 0 + (xs.length + 1) ≤ 140737488355328) (hx : x.length = sz) (H : Heap) (id : Nat) :
  aAppend P t (.sl .ex []) (.sl o' (x :: xs)) H id = some (.sl (.own id e sz) (sanLL (x :: xs)), [.live id true], []) := by
 simp only [aAppend, ht]; rw [if_pos ⟨hx, hs, hz, hb, hl⟩]; rfl
end
end Go.Proofs.YtghhkbigmmjanaaGreatDoor.VA

/-! Vc5 -/
namespace Go.Proofs.YtghhkbigmmjanaaGreatDoor.VA
open Go Go.RowKit
set_option linter.unusedSimpArgs false

/-- A function's end: what it answers, or what it panics with. -/
def EndQ (P : Program) (rs : List ResultVar) (R : AV → Heap → Prop) (Rp : AV → Heap → Prop) : Post := fun x e H =>
 match x with
 | .nrm | .ret => ∃ vs, aResults P e H rs = some vs ∧ R (san (oneOr vs)) H
 | .pan v => Rp (san v) H
 | .exit _ => False
section
variable {P : Program} {c : Cfg} {rs : List ResultVar} {e : List AV} {H : Heap} {R Rp : AV → Heap → Prop}
@[go_sem] theorem EndQ_nrm : EndQ P rs R Rp .nrm e H = (∃ vs, aResults P e H rs = some vs ∧ R (san (oneOr vs)) H) := rfl
@[go_sem] theorem EndQ_ret : EndQ P rs R Rp .ret e H = (∃ vs, aResults P e H rs = some vs ∧ R (san (oneOr vs)) H) := rfl
@[go_sem] theorem EndQ_pan {v : AV} : EndQ P rs R Rp (.pan v) e H = Rp (san v) H := rfl
theorem runFn_of_pan {fn : Func} {code : Code} (hb : fn.body = some code) {args : List AV} (hn : args.length ≤ fn.ntmps) {v : AV} {e1 : List AV} {H1 : Heap}
  (h : XS P c code args H (.pan v) e1 H1) : ∃ k, runFn P (call P c k) c.imp k fn args H = some (.pan (san v) H1) := by
 obtain ⟨k, hk⟩ := h.exec
 obtain ⟨n, hn'⟩ := exec_fuel _ _ _ _ _ hk
 have h2 : exec P (call P c (max k n)) c.imp k code args H = some (.pan v, e1, H1) := exec_mono (call_le (Nat.le_max_right k n)) _ _ _ _ _ hn' _ (Nat.le_refl _)
 have h3 := exec_mono (KLe.refl _) _ _ _ _ _ h2 (max k n) (Nat.le_max_left k n)
 refine ⟨max k n, ?_⟩
 unfold runFn
 simp only [hb, hn, if_true, h3]
/-- A function that may write to its caller's memory, and may panic. -/
theorem calls_end {f : FuncId} {fn : Func} {code : Code} {args : List AV} (ht : c.told f = none) (hf : c.fn f = some fn) (hi : c.imp f = true) (hb : fn.body = some code) (hn : Nat.ble args.length fn.ntmps = true)
  (h : W P c code [] args H (EndQ P fn.results.toList R Rp)) (htr : c.trim f = none := by rfl) : (∃ v H', calls P c f args H = some (.ret v H') ∧ R v H') ∨ ∃ v H', calls P c f args H = some (.pan v H') ∧ Rp v H' := by
 obtain ⟨x, e1, H1, hx, hq⟩ := h
 rw [Fin_nil] at hq
 have hn' := Nat.le_of_ble_eq_true hn
 have good : (x = .nrm ∨ x = .ret) → (∃ vs, aResults P e1 H1 fn.results.toList = some vs ∧ R (san (oneOr vs)) H1) → (∃ v H', calls P c f args H = some (.ret v H') ∧ R v H') := by
  rintro hx2 ⟨vs, hv, hr⟩
  obtain ⟨k, hk⟩ := runFn_of_XS hb hn' hx hx2 hv
  exact ⟨_, _, calls_iff.2 ⟨k + 1, by simp only [call, ht, hf, hi, hk, htr, trimK]⟩, hr⟩
 cases x with
 | nrm => exact .inl (good (.inl rfl) hq)
 | ret => exact .inl (good (.inr rfl) hq)
 | exit j => exact hq.elim
 | pan v =>
  obtain ⟨k, hk⟩ := runFn_of_pan hb hn' hx
  exact .inr ⟨_, _, calls_iff.2 ⟨k + 1, by simp only [call, ht, hf, hi, hk, htr, trimK]⟩, hq⟩
end
end Go.Proofs.YtghhkbigmmjanaaGreatDoor.VA

/-! Vc6 -/
namespace Go.Proofs.YtghhkbigmmjanaaGreatDoor.VA
open Go Go.RowKit
set_option linter.unusedSimpArgs false

/-- Which operations wait for which one. -/
def deads (ops : Array Oper) : List (List Nat) := (List.range ops.size).map fun k => (List.range ops.size).filter fun i => anc ops k i
theorem gget_map_range (f : Nat → List Nat) (n k : Nat) (h : k < n) : gget [] ((List.range n).map f) k = f k := by
 have h1 : ∀ (l : List (List Nat)) (i : Nat), gget [] l i = (l[i]?).getD [] := by
  intro l
  induction l with
  | nil => intro i; simp [gget]
  | cons x l ih => intro i; cases i with | zero => rfl | succ i => simpa [gget] using ih i
 rw [h1, List.getElem?_map, List.getElem?_range h]
 rfl
theorem deads_anc {ops : Array Oper} {k i : Nat} (hk : k < ops.size) (hi : i < ops.size) : (gget [] (deads ops) k).contains i = anc ops k i := by
 rw [deads, gget_map_range _ _ _ hk, Bool.eq_iff_iff]
 simp [hi]
def memN : List Nat → Nat → Bool
 | [], _ => false
 | a :: l, i => match a == i with | true => true | false => memN l i
@[go_sem] theorem memN_nil (i : Nat) : memN [] i = false := rfl
@[go_sem] theorem memN_cons (a i : Nat) (l : List Nat) : memN (a :: l) i = if a = i then true else memN l i := by
 by_cases h : a = i
 ·subst h; simp [memN]
 ·have h1 : (a == i) = false := by simp [h]
  simp [memN, h1, h]
theorem memN_contains : ∀ (l : List Nat) (i : Nat), memN l i = l.contains i
 | [], i => rfl
 | a :: l, i => by
  simp only [memN, List.contains_cons, memN_contains l i]
  by_cases h : a = i
  ·subst h; simp
  ·have h1 : (a == i) = false := by simp [h]
   have h2 : (i == a) = false := by simp; exact fun h' => h h'.symm
   simp [h1, h2]

/-- One step behind a panic. -/
noncomputable def qStep (P : Program) (c : Cfg) (r : Option Sr) (H : Heap) : Option (Tr × AV) :=
 match r with
 | some (.val v [] rs) => some (.val v [] rs, v)
 | some (.call f args) =>
  match c.imp f with
  | true => none
  | false =>
   match calls P c f args H with
   | some (.ret v _) => some (.val v [] [], v)
   | _ => none
 | _ => none
/-- One step ahead of a panic. -/
noncomputable def eStep (P : Program) (c : Cfg) (r : Option Sr) (H : Heap) : Option ((Tr × AV × Heap) ⊕ (AV × Heap)) :=
 match r with
 | some (.val v us rs) => some (.inl (.val v us rs, v, appU H us))
 | some (.pan v) => some (.inr (v, H))
 | some (.call f args) =>
  match c.imp f with
  | true =>
   match calls P c f args H with
   | some (.ret v H') => some (.inl (.call v H H', v, H'))
   | some (.pan v H') => some (.inr (v, H'))
   | none => none
  | false =>
   match calls P c f args H with
   | some (.ret v _) => some (.inl (.val v [] [], v, H))
   | _ => none
 | none => none
/-- What is left of a region behind a panic. -/
def WX (P : Program) (c : Cfg) (un : List (Nat × Nat)) (ds : List (Option Tmp)) (dl : List Nat) (base : Nat) (st : List Fr) (pv : AV) (pH : Heap) (Q : Post) : List Oper → Nat → List Tr → List AV → Heap → Prop
 | [], _, tr, e, _ => AllOk un tr ∧ Fin P c st (.pan pv) e pH Q
 | o :: os, i, tr, e, H =>
  match memN dl i with
  | true => WX P c un ds dl base st pv pH Q os (i + 1) (tr ++ [.dead]) e H
  | false =>
   match gword ds e o.guard with
   | none => False
   | some false => WX P c un ds dl base st pv pH Q os (i + 1) (tr ++ [.val (.tup []) [] []]) (aput e o.dst (.tup [])) H
   | some true =>
    match qStep P c (astep P (aeval e) H (base + i) o.op) H with
    | none => False
    | some (t, v) => WX P c un ds dl base st pv pH Q os (i + 1) (tr ++ [t]) (aput e o.dst v) H
/-- A region. -/
def WE (P : Program) (c : Cfg) (un : List (Nat × Nat)) (ds : List (Option Tmp)) (dd : List (List Nat)) (base : Nat) (st : List Fr) (Q : Post) : List Oper → Nat → List Tr → List AV → Heap → Prop
 | [], _, tr, e, H => AllOk un tr ∧ Fin P c st .nrm e H Q
 | o :: os, i, tr, e, H =>
  match gword ds e o.guard with
  | none => False
  | some false => WE P c un ds dd base st Q os (i + 1) (tr ++ [.val (.tup []) [] []]) (aput e o.dst (.tup [])) H
  | some true =>
   match eStep P c (astep P (aeval e) H (base + i) o.op) H with
   | none => False
   | some (.inl (t, v, H')) => WE P c un ds dd base st Q os (i + 1) (tr ++ [t]) (aput e o.dst v) H'
   | some (.inr (pv, pH)) => WX P c un ds (gget [] dd i) base st pv pH Q os (i + 1) (tr ++ [.pan]) e H
section
variable {P : Program} {c : Cfg} {un : List (Nat × Nat)} {base : Nat} {st : List Fr} {Q : Post}
theorem WX_run {ops : Array Oper} {k : Nat} {pv : AV} {pH : Heap} (hk : k < ops.size) : ∀ (os : List Oper) (i : Nat) (tr : List Tr) (e : List AV) (H : Heap), i + os.length = ops.size →
  WX P c un (dsts ops) (gget [] (deads ops) k) base st pv pH Q os i tr e H →
  ∃ tr' e1 H1, runTr P (calls P c) c.imp ops base os i (some (k, pv, pH)) e H = some (tr', some (k, pv, pH), e1, H1) ∧ AllOk un (tr ++ tr') ∧ Fin P c st (.pan pv) e1 pH Q := by
 intro os
 induction os with
 | nil => intro i tr e H hi h; exact ⟨[], e, H, rfl, by rw [List.append_nil]; exact h.1, h.2⟩
 | cons o os ih =>
  intro i tr e H hi h
  simp only [List.length_cons] at hi
  have hd : memN (gget [] (deads ops) k) i = anc ops k i := by rw [memN_contains, deads_anc hk (by omega)]
  simp only [WX, hd] at h
  have next : ∀ {e : List AV} {t0 : Tr}, WX P c un (dsts ops) (gget [] (deads ops) k) base st pv pH Q os (i + 1) (tr ++ [t0]) e H →
    ∃ tr' e1 H1, (match runTr P (calls P c) c.imp ops base os (i + 1) (some (k, pv, pH)) e H with | some (tr, r) => some (t0 :: tr, r) | none => none) = some (tr', some (k, pv, pH), e1, H1) ∧ AllOk un (tr ++ tr') ∧ Fin P c st (.pan pv) e1 pH Q := by
   intro e t0 h
   obtain ⟨tr', e1, H1, h1, h2, h3⟩ := ih _ _ _ _ (by omega) h
   rw [h1]
   exact ⟨_, _, _, rfl, by simpa using h2, h3⟩
  simp only [runTr]
  by_cases hb : behind ops (some (k, pv, pH)) i = true
  ·have hb' : anc ops k i = true := hb
   rw [hb'] at h
   rw [if_pos hb]
   exact next h
  ·rw [if_neg hb, aWanted_gword]
   have hb' : anc ops k i = false := by rw [Bool.not_eq_true] at hb; exact hb
   rw [hb'] at h
   simp only at h
   split at h
   ·exact h.elim
   ·rename_i hw
    rw [hw]
    exact next h
   ·rename_i hw
    rw [hw]
    simp only
    cases hs : astep P (aeval e) H (base + i) o.op with
    | none => simp [hs, qStep] at h
    | some sr =>
     rw [hs] at h
     cases sr with
     | val v us rs =>
      cases us with
      | nil =>
       simp only [qStep] at h
       simp only [List.isEmpty_nil, Bool.true_eq_false, and_false, if_false, appU]
       exact next h
      | cons u us => simp [qStep] at h
     | pan v => simp [qStep] at h
     | call f args =>
      simp only [qStep] at h
      cases hi : c.imp f with
      | true => simp [hi] at h
      | false =>
       simp only [hi] at h
       simp only [hi, Bool.false_eq_true, if_false]
       cases hc : calls P c f args H with
       | none => simp [hc] at h
       | some cr =>
        cases cr with
        | pan v H' => simp [hc] at h
        | ret v H' =>
         simp only [hc] at h
         simp only
         exact next h
/-- What a region comes to. -/
def FinP (P : Program) (c : Cfg) (pk : Option (Nat × AV × Heap)) (st : List Fr) (e : List AV) (H : Heap) (Q : Post) : Prop :=
 match pk with
 | none => Fin P c st .nrm e H Q
 | some (_, v, H2) => Fin P c st (.pan v) e H2 Q
theorem WE_run {ops : Array Oper} : ∀ (os : List Oper) (i : Nat) (tr : List Tr) (e : List AV) (H : Heap), i + os.length = ops.size →
  WE P c un (dsts ops) (deads ops) base st Q os i tr e H →
  ∃ tr' pk e1 H1, runTr P (calls P c) c.imp ops base os i none e H = some (tr', pk, e1, H1) ∧ AllOk un (tr ++ tr') ∧ FinP P c pk st e1 H1 Q := by
 intro os
 induction os with
 | nil => intro i tr e H hi h; exact ⟨[], none, e, H, rfl, by rw [List.append_nil]; exact h.1, h.2⟩
 | cons o os ih =>
  intro i tr e H hi h
  simp only [List.length_cons] at hi
  simp only [WE] at h
  have next : ∀ {e : List AV} {H : Heap} {t0 : Tr}, WE P c un (dsts ops) (deads ops) base st Q os (i + 1) (tr ++ [t0]) e H →
    ∃ tr' pk e1 H1, (match runTr P (calls P c) c.imp ops base os (i + 1) none e H with | some (tr, r) => some (t0 :: tr, r) | none => none) = some (tr', pk, e1, H1) ∧ AllOk un (tr ++ tr') ∧ FinP P c pk st e1 H1 Q := by
   intro e H t0 h
   obtain ⟨tr', pk, e1, H1, h1, h2, h3⟩ := ih _ _ _ _ (by omega) h
   rw [h1]
   exact ⟨_, _, _, _, rfl, by simpa using h2, h3⟩
  have stop : ∀ {e : List AV} {H pH : Heap} {pv : AV}, WX P c un (dsts ops) (gget [] (deads ops) i) base st pv pH Q os (i + 1) (tr ++ [.pan]) e H →
    ∃ tr' pk e1 H1, (match runTr P (calls P c) c.imp ops base os (i + 1) (some (i, pv, pH)) e H with | some (tr, r) => some (.pan :: tr, r) | none => none) = some (tr', pk, e1, H1) ∧ AllOk un (tr ++ tr') ∧ FinP P c pk st e1 H1 Q := by
   intro e H pH pv h
   obtain ⟨tr', e1, H1, h1, h2, h3⟩ := WX_run (by omega) os (i + 1) (tr ++ [.pan]) e H (by omega) h
   rw [h1]
   exact ⟨_, _, _, _, rfl, by simpa using h2, h3⟩
  simp only [runTr, behind, Bool.false_eq_true, if_false, aWanted_gword]
  split at h
  ·exact h.elim
  ·rename_i hw
   rw [hw]
   exact next h
  ·rename_i hw
   rw [hw]
   simp only
   cases hs : astep P (aeval e) H (base + i) o.op with
   | none => simp [hs, eStep] at h
   | some sr =>
    rw [hs] at h
    cases sr with
    | val v us rs =>
     simp only [eStep] at h
     simp only [Option.isSome_none, Bool.false_eq_true, false_and, if_false]
     exact next h
    | pan v =>
     simp only [eStep] at h
     simp only [Option.isSome_none, Bool.false_eq_true, if_false]
     exact stop h
    | call f args =>
     simp only [eStep] at h
     cases hi : c.imp f with
     | true =>
      simp only [hi] at h
      simp only [hi, if_true, Option.isSome_none, Bool.false_eq_true, if_false]
      cases hc : calls P c f args H with
      | none => simp [hc] at h
      | some cr =>
       cases cr with
       | pan v H' =>
        simp only [hc] at h
        simp only
        exact stop h
       | ret v H' =>
        simp only [hc] at h
        simp only
        exact next h
     | false =>
      simp only [hi] at h
      simp only [hi, Bool.false_eq_true, if_false]
      cases hc : calls P c f args H with
      | none => simp [hc] at h
      | some cr =>
       cases cr with
       | pan v H' => simp [hc] at h
       | ret v H' =>
        simp only [hc] at h
        simp only
        exact next h
theorem W_drawE {id : Nat} {ops : Array Oper} {e : List AV} {H : Heap} (un : List (Nat × Nat)) (dd : List (List Nat)) (hu : (unord ops, deads ops) = (un, dd))
  (h : WE P c un (dsts ops) dd H.next st Q ops.toList 0 [] e (H.up ops.size)) : W P c (.region id ops true) st e H Q := by
 simp only [Prod.mk.injEq] at hu
 obtain ⟨hu1, hu2⟩ := hu
 rw [← hu2] at h
 obtain ⟨tr, pk, e1, H1, h1, h2, h3⟩ := WE_run _ _ _ _ _ (by simp) h
 rw [List.nil_append] at h2
 have ht : TrOk ops tr := by rw [TrOk, hu1]; exact h2
 cases pk with
 | none => exact ⟨_, _, _, .draw h1 ht, h3⟩
 | some q => obtain ⟨k, v, H2⟩ := q; exact ⟨_, _, _, .drawP h1 ht, h3⟩

/-! ### equations -/
variable {ds : List (Option Tmp)} {dd : List (List Nat)} {dl : List Nat} {pv : AV} {pH : Heap} {os : List Oper} {i : Nat} {tr : List Tr} {e : List AV} {H : Heap} {dst : Option Tmp} {op : Op}
def xK (P : Program) (c : Cfg) (r : Option CR) (imp : Bool) (un : List (Nat × Nat)) (ds : List (Option Tmp)) (dl : List Nat) (base : Nat) (st : List Fr) (pv : AV) (pH : Heap) (Q : Post) (dst : Option Tmp) (os : List Oper) (i : Nat) (tr : List Tr) (e : List AV) (H : Heap) : Prop :=
 match imp, r with
 | false, some (.ret v _) => WX P c un ds dl base st pv pH Q os (i + 1) (tr ++ [.val v [] []]) (aput e dst v) H
 | _, _ => False
def xS (P : Program) (c : Cfg) (r : Option Sr) (un : List (Nat × Nat)) (ds : List (Option Tmp)) (dl : List Nat) (base : Nat) (st : List Fr) (pv : AV) (pH : Heap) (Q : Post) (dst : Option Tmp) (os : List Oper) (i : Nat) (tr : List Tr) (e : List AV) (H : Heap) : Prop :=
 match r with
 | some (.val v [] rs) => WX P c un ds dl base st pv pH Q os (i + 1) (tr ++ [.val v [] rs]) (aput e dst v) H
 | some (.call f args) => xK P c (calls P c f args H) (c.imp f) un ds dl base st pv pH Q dst os i tr e H
 | _ => False
def xG (P : Program) (c : Cfg) (v : AV) (want : Bool) (op : Op) (un : List (Nat × Nat)) (ds : List (Option Tmp)) (dl : List Nat) (base : Nat) (st : List Fr) (pv : AV) (pH : Heap) (Q : Post) (dst : Option Tmp) (os : List Oper) (i : Nat) (tr : List Tr) (e : List AV) (H : Heap) : Prop :=
 match v with
 | .lit (.bool b) =>
  match b == want with
  | true => xS P c (astep P (aeval e) H (base + i) op) un ds dl base st pv pH Q dst os i tr e H
  | false => WX P c un ds dl base st pv pH Q os (i + 1) (tr ++ [.val (.tup []) [] []]) (aput e dst (.tup [])) H
 | .tup [] => WX P c un ds dl base st pv pH Q os (i + 1) (tr ++ [.val (.tup []) [] []]) (aput e dst (.tup [])) H
 | _ => False
def xGd (P : Program) (c : Cfg) (g : Option (Nat × Bool)) (op : Op) (un : List (Nat × Nat)) (ds : List (Option Tmp)) (dl : List Nat) (base : Nat) (st : List Fr) (pv : AV) (pH : Heap) (Q : Post) (dst : Option Tmp) (os : List Oper) (i : Nat) (tr : List Tr) (e : List AV) (H : Heap) : Prop :=
 match g with
 | none => xS P c (astep P (aeval e) H (base + i) op) un ds dl base st pv pH Q dst os i tr e H
 | some (j, want) =>
  match gget none ds j with
  | some d => xG P c (gget .bad e d) want op un ds dl base st pv pH Q dst os i tr e H
  | none => WX P c un ds dl base st pv pH Q os (i + 1) (tr ++ [.val (.tup []) [] []]) (aput e dst (.tup [])) H
def xM (P : Program) (c : Cfg) (dead : Bool) (g : Option (Nat × Bool)) (op : Op) (un : List (Nat × Nat)) (ds : List (Option Tmp)) (dl : List Nat) (base : Nat) (st : List Fr) (pv : AV) (pH : Heap) (Q : Post) (dst : Option Tmp) (os : List Oper) (i : Nat) (tr : List Tr) (e : List AV) (H : Heap) : Prop :=
 match dead with
 | true => WX P c un ds dl base st pv pH Q os (i + 1) (tr ++ [.dead]) e H
 | false => xGd P c g op un ds dl base st pv pH Q dst os i tr e H
@[go_sem] theorem WX_nil : WX P c un ds dl base st pv pH Q [] i tr e H = (AllOk un tr ∧ Fin P c st (.pan pv) e pH Q) := rfl
theorem xS_eq {r : Option Sr} : (match qStep P c r H with | none => False | some (t, v) => WX P c un ds dl base st pv pH Q os (i + 1) (tr ++ [t]) (aput e dst v) H) = xS P c r un ds dl base st pv pH Q dst os i tr e H := by
 cases r with
 | none => rfl
 | some sr =>
  cases sr with
  | val v us rs => cases us <;> rfl
  | pan v => rfl
  | call f args =>
   simp only [qStep, xS, xK]
   cases c.imp f with
   | true => rfl
   | false =>
    cases calls P c f args H with
    | none => rfl
    | some cr => cases cr <;> rfl
@[go_sem] theorem WX_cons {type : TypeId} {pos : String} {after : Array Edge} {guard : Option (Nat × Bool)} :
  WX P c un ds dl base st pv pH Q ({ dst, op, type, pos, after, guard } :: os) i tr e H = xM P c (memN dl i) guard op un ds dl base st pv pH Q dst os i tr e H := by
 simp only [WX, xS_eq]
 cases memN dl i with
 | true => rfl
 | false =>
  simp only [xM]
  cases guard with
  | none => rfl
  | some g =>
   obtain ⟨j, want⟩ := g
   simp only [gword, xGd]
   cases gget none ds j with
   | none => rfl
   | some d =>
    simp only
    generalize gget AV.bad e d = v
    unfold xG
    cases v with
    | lit u =>
     cases u with
     | bool b => simp only; cases b == want <;> rfl
     | _ => rfl
    | tup vs => cases vs <;> rfl
    | _ => rfl
@[go_sem] theorem xM_true {g : Option (Nat × Bool)} : xM P c true g op un ds dl base st pv pH Q dst os i tr e H = WX P c un ds dl base st pv pH Q os (i + 1) (tr ++ [.dead]) e H := rfl
@[go_sem] theorem xM_none : xM P c false none op un ds dl base st pv pH Q dst os i tr e H = xS P c (astep P (aeval e) H (base + i) op) un ds dl base st pv pH Q dst os i tr e H := rfl
@[go_sem] theorem xM_some {j : Nat} {want : Bool} {d : Tmp} (hd : gget none ds j = some d) : xM P c false (some (j, want)) op un ds dl base st pv pH Q dst os i tr e H = xG P c (gget .bad e d) want op un ds dl base st pv pH Q dst os i tr e H := by
 simp only [xM, xGd, hd]
@[go_sem] theorem xG_tt : xG P c (.lit (.bool true)) true op un ds dl base st pv pH Q dst os i tr e H = xS P c (astep P (aeval e) H (base + i) op) un ds dl base st pv pH Q dst os i tr e H := rfl
@[go_sem] theorem xG_ff : xG P c (.lit (.bool false)) false op un ds dl base st pv pH Q dst os i tr e H = xS P c (astep P (aeval e) H (base + i) op) un ds dl base st pv pH Q dst os i tr e H := rfl
@[go_sem] theorem xG_tf : xG P c (.lit (.bool true)) false op un ds dl base st pv pH Q dst os i tr e H = WX P c un ds dl base st pv pH Q os (i + 1) (tr ++ [.val (.tup []) [] []]) (aput e dst (.tup [])) H := rfl
@[go_sem] theorem xG_ft : xG P c (.lit (.bool false)) true op un ds dl base st pv pH Q dst os i tr e H = WX P c un ds dl base st pv pH Q os (i + 1) (tr ++ [.val (.tup []) [] []]) (aput e dst (.tup [])) H := rfl
@[go_sem] theorem xG_tup {want : Bool} : xG P c (.tup []) want op un ds dl base st pv pH Q dst os i tr e H = WX P c un ds dl base st pv pH Q os (i + 1) (tr ++ [.val (.tup []) [] []]) (aput e dst (.tup [])) H := rfl
@[go_sem] theorem xS_val {v : AV} {rs : List Nat} : xS P c (some (.val v [] rs)) un ds dl base st pv pH Q dst os i tr e H = WX P c un ds dl base st pv pH Q os (i + 1) (tr ++ [.val v [] rs]) (aput e dst v) H := rfl
@[go_sem] theorem xS_call {f : FuncId} {args : List AV} : xS P c (some (.call f args)) un ds dl base st pv pH Q dst os i tr e H = xK P c (calls P c f args H) (c.imp f) un ds dl base st pv pH Q dst os i tr e H := rfl
@[go_sem] theorem xK_ret {v : AV} {H' : Heap} : xK P c (some (.ret v H')) false un ds dl base st pv pH Q dst os i tr e H = WX P c un ds dl base st pv pH Q os (i + 1) (tr ++ [.val v [] []]) (aput e dst v) H := rfl

def eK (P : Program) (c : Cfg) (r : Option CR) (imp : Bool) (un : List (Nat × Nat)) (ds : List (Option Tmp)) (dd : List (List Nat)) (base : Nat) (st : List Fr) (Q : Post) (dst : Option Tmp) (os : List Oper) (i : Nat) (tr : List Tr) (e : List AV) (H : Heap) : Prop :=
 match imp, r with
 | false, some (.ret v _) => WE P c un ds dd base st Q os (i + 1) (tr ++ [.val v [] []]) (aput e dst v) H
 | true, some (.ret v H') => WE P c un ds dd base st Q os (i + 1) (tr ++ [.call v H H']) (aput e dst v) H'
 | true, some (.pan v H') => WX P c un ds (gget [] dd i) base st v H' Q os (i + 1) (tr ++ [.pan]) e H
 | _, _ => False
def eS (P : Program) (c : Cfg) (r : Option Sr) (un : List (Nat × Nat)) (ds : List (Option Tmp)) (dd : List (List Nat)) (base : Nat) (st : List Fr) (Q : Post) (dst : Option Tmp) (os : List Oper) (i : Nat) (tr : List Tr) (e : List AV) (H : Heap) : Prop :=
 match r with
 | some (.val v us rs) => WE P c un ds dd base st Q os (i + 1) (tr ++ [.val v us rs]) (aput e dst v) (appU H us)
 | some (.pan v) => WX P c un ds (gget [] dd i) base st v H Q os (i + 1) (tr ++ [.pan]) e H
 | some (.call f args) => eK P c (calls P c f args H) (c.imp f) un ds dd base st Q dst os i tr e H
 | none => False
def eG (P : Program) (c : Cfg) (v : AV) (want : Bool) (op : Op) (un : List (Nat × Nat)) (ds : List (Option Tmp)) (dd : List (List Nat)) (base : Nat) (st : List Fr) (Q : Post) (dst : Option Tmp) (os : List Oper) (i : Nat) (tr : List Tr) (e : List AV) (H : Heap) : Prop :=
 match v with
 | .lit (.bool b) =>
  match b == want with
  | true => eS P c (astep P (aeval e) H (base + i) op) un ds dd base st Q dst os i tr e H
  | false => WE P c un ds dd base st Q os (i + 1) (tr ++ [.val (.tup []) [] []]) (aput e dst (.tup [])) H
 | .tup [] => WE P c un ds dd base st Q os (i + 1) (tr ++ [.val (.tup []) [] []]) (aput e dst (.tup [])) H
 | _ => False
theorem eS_eq {r : Option Sr} : (match eStep P c r H with
   | none => False
   | some (.inl (t, v, H')) => WE P c un ds dd base st Q os (i + 1) (tr ++ [t]) (aput e dst v) H'
   | some (.inr (pv, pH)) => WX P c un ds (gget [] dd i) base st pv pH Q os (i + 1) (tr ++ [.pan]) e H) = eS P c r un ds dd base st Q dst os i tr e H := by
 cases r with
 | none => rfl
 | some sr =>
  cases sr with
  | val v us rs => rfl
  | pan v => rfl
  | call f args =>
   simp only [eStep, eS, eK]
   cases c.imp f with
   | true =>
    cases calls P c f args H with
    | none => rfl
    | some cr => cases cr <;> rfl
   | false =>
    cases calls P c f args H with
    | none => rfl
    | some cr => cases cr <;> rfl
@[go_sem] theorem WE_nil : WE P c un ds dd base st Q [] i tr e H = (AllOk un tr ∧ Fin P c st .nrm e H Q) := rfl
@[go_sem] theorem WE_plain {type : TypeId} {pos : String} {after : Array Edge} :
  WE P c un ds dd base st Q ({ dst, op, type, pos, after, guard := none } :: os) i tr e H = eS P c (astep P (aeval e) H (base + i) op) un ds dd base st Q dst os i tr e H := by
 rw [← eS_eq]; rfl
@[go_sem] theorem WE_guard {j : Nat} {d : Tmp} {want : Bool} {type : TypeId} {pos : String} {after : Array Edge} (hd : gget none ds j = some d) :
  WE P c un ds dd base st Q ({ dst, op, type, pos, after, guard := some (j, want) } :: os) i tr e H = eG P c (gget .bad e d) want op un ds dd base st Q dst os i tr e H := by
 simp only [WE, gword, hd, eS_eq]
 generalize gget AV.bad e d = v
 unfold eG
 cases v with
 | lit u =>
  cases u with
  | bool b => simp only; cases b == want <;> rfl
  | _ => rfl
 | tup vs => cases vs <;> rfl
 | _ => rfl
@[go_sem] theorem eG_tt : eG P c (.lit (.bool true)) true op un ds dd base st Q dst os i tr e H = eS P c (astep P (aeval e) H (base + i) op) un ds dd base st Q dst os i tr e H := rfl
@[go_sem] theorem eG_ff : eG P c (.lit (.bool false)) false op un ds dd base st Q dst os i tr e H = eS P c (astep P (aeval e) H (base + i) op) un ds dd base st Q dst os i tr e H := rfl
@[go_sem] theorem eG_tf : eG P c (.lit (.bool true)) false op un ds dd base st Q dst os i tr e H = WE P c un ds dd base st Q os (i + 1) (tr ++ [.val (.tup []) [] []]) (aput e dst (.tup [])) H := rfl
@[go_sem] theorem eG_ft : eG P c (.lit (.bool false)) true op un ds dd base st Q dst os i tr e H = WE P c un ds dd base st Q os (i + 1) (tr ++ [.val (.tup []) [] []]) (aput e dst (.tup [])) H := rfl
@[go_sem] theorem eG_tup {want : Bool} : eG P c (.tup []) want op un ds dd base st Q dst os i tr e H = WE P c un ds dd base st Q os (i + 1) (tr ++ [.val (.tup []) [] []]) (aput e dst (.tup [])) H := rfl
@[go_sem] theorem eS_val {v : AV} {us : List U} {rs : List Nat} : eS P c (some (.val v us rs)) un ds dd base st Q dst os i tr e H = WE P c un ds dd base st Q os (i + 1) (tr ++ [.val v us rs]) (aput e dst v) (appU H us) := rfl
@[go_sem] theorem eS_pan {v : AV} : eS P c (some (.pan v)) un ds dd base st Q dst os i tr e H = WX P c un ds (gget [] dd i) base st v H Q os (i + 1) (tr ++ [.pan]) e H := rfl
@[go_sem] theorem eS_call {f : FuncId} {args : List AV} : eS P c (some (.call f args)) un ds dd base st Q dst os i tr e H = eK P c (calls P c f args H) (c.imp f) un ds dd base st Q dst os i tr e H := rfl
@[go_sem] theorem eK_pure {v : AV} {H' : Heap} : eK P c (some (.ret v H')) false un ds dd base st Q dst os i tr e H = WE P c un ds dd base st Q os (i + 1) (tr ++ [.val v [] []]) (aput e dst v) H := rfl
@[go_sem] theorem eK_imp {v : AV} {H' : Heap} : eK P c (some (.ret v H')) true un ds dd base st Q dst os i tr e H = WE P c un ds dd base st Q os (i + 1) (tr ++ [.call v H H']) (aput e dst v) H' := rfl
@[go_sem] theorem eK_pan {v : AV} {H' : Heap} : eK P c (some (.pan v H')) true un ds dd base st Q dst os i tr e H = WX P c un ds (gget [] dd i) base st v H' Q os (i + 1) (tr ++ [.pan]) e H := rfl
end

/-! ### what a trace may be -/
@[go_sem] theorem AllOk_nil (tr : List Tr) : AllOk [] tr = True := by simp [AllOk]
@[go_sem] theorem AllOk_cons (i j : Nat) (un : List (Nat × Nat)) (tr : List Tr) : AllOk ((i, j) :: un) tr = (NoConf (gget .dead tr i) (gget .dead tr j) ∧ AllOk un tr) := by
 have h : ∀ (l : List Tr) (i : Nat), l.getD i .dead = gget .dead l i := by
  intro l
  induction l with
  | nil => intro i; simp [gget]
  | cons x l ih => intro i; cases i with | zero => rfl | succ i => simpa [gget] using ih i
 simp only [AllOk, List.forall_mem_cons, h]
@[go_sem] theorem NoConf_quiet (v v' : AV) (rs rs' : List Nat) : NoConf (.val v [] rs) (.val v' [] rs') = True := by simp [NoConf]
@[go_sem] theorem NoConf_vc (v u : AV) (rs : List Nat) (Hb Ha : Heap) : NoConf (.val v [] rs) (.call u Hb Ha) = ∀ r ∈ rs, Keeps Hb Ha r := by simp [NoConf]
@[go_sem] theorem NoConf_cv (v u : AV) (rs : List Nat) (Hb Ha : Heap) : NoConf (.call u Hb Ha) (.val v [] rs) = ∀ r ∈ rs, Keeps Hb Ha r := by simp [NoConf]
@[go_sem] theorem NoConf_vp (v : AV) (rs : List Nat) : NoConf (.val v [] rs) .pan = True := by simp [NoConf]
@[go_sem] theorem NoConf_pv (v : AV) (rs : List Nat) : NoConf .pan (.val v [] rs) = True := by simp [NoConf]
@[go_sem] theorem NoConf_xd (t : Tr) : NoConf t .dead = True := by cases t <;> simp [NoConf]
@[go_sem] theorem NoConf_dx (t : Tr) : NoConf .dead t = True := by cases t <;> simp [NoConf]
theorem memN_false {l : List Nat} {k : Nat} : (memN l k = false) = (k ∉ l) := by rw [memN_contains]; simp
attribute [go_sem] not_false_eq_true
@[go_sem] theorem key_box (r : Nat) (cs : List AV) : (U.box r cs).key = r := rfl
@[go_sem] theorem key_live (r : Nat) (b : Bool) : (U.live r b).key = r := rfl
@[go_sem] theorem NoConf_wl (v v' : AV) (u : U) (rs rs' : List Nat) : NoConf (.val v [u] rs) (.val v' [] rs') = (memN rs' u.key = false) := by rw [memN_false]; simp [NoConf]
@[go_sem] theorem NoConf_lw (v v' : AV) (u : U) (rs rs' : List Nat) : NoConf (.val v [] rs) (.val v' [u] rs') = (memN rs u.key = false) := by rw [memN_false]; simp [NoConf]
@[go_sem] theorem NoConf_ww (v v' : AV) (u u' : U) (rs rs' : List Nat) : NoConf (.val v [u] rs) (.val v' [u'] rs') = (¬ u.key = u'.key ∧ memN rs' u.key = false ∧ memN rs u'.key = false) := by
 rw [memN_false, memN_false]; simp [NoConf, and_assoc]
@[go_sem] theorem forall_nil (p : Nat → Prop) : (∀ r ∈ ([] : List Nat), p r) = True := by simp
@[go_sem] theorem forall_one (p : Nat → Prop) (a : Nat) (l : List Nat) : (∀ r ∈ a :: l, p r) = (p a ∧ ∀ r ∈ l, p r) := by simp
end Go.Proofs.YtghhkbigmmjanaaGreatDoor.VA

/-! La1 -/
namespace Go.Proofs.YtghhkbigmmjanaaGreatDoor.VA
open Go Go.RowKit
set_option linter.unusedSimpArgs false

/-! ### strings are lists of bytes -/
def ba (l : List UInt8) : ByteArray := ⟨l.toArray⟩
@[simp] theorem ba_size (l : List UInt8) : (ba l).size = l.length := by simp [ba, ByteArray.size]
@[simp] theorem ba_list (l : List UInt8) : (ba l).data.toList = l := by simp [ba]
theorem ba_inj {a b : List UInt8} : ba a = ba b ↔ a = b := ⟨fun h => by have := congrArg (fun x => x.data.toList) h; simpa using this, fun h => by rw [h]⟩
theorem ba_eta (s : ByteArray) : s = ba s.data.toList := by cases s; simp [ba]
@[go_sem] theorem mk_ba (l : List UInt8) : ByteArray.mk l.toArray = ba l := rfl
theorem ba_append (a b : List UInt8) : ba a ++ ba b = ba (a ++ b) := by
 rw [ba_eta (ba a ++ ba b)]
 congr 1
theorem ba_extract (l : List UInt8) (a b : Nat) : (ba l).extract a b = ba ((l.drop a).take (b - a)) := by
 rw [ba_eta ((ba l).extract a b)]
 congr 1
 simp [ba]
theorem ixs_ba {l : List UInt8} {n : Nat} (h : n < l.length) : ixs (some .string) (.lit (.string (ba l))) (some n) = some (.lit (.int .u8 ((l.getD n 0).toNat : Nat))) := by
 rw [ixs_str (by simpa using h)]
 simp [bAt]
theorem wrap64 {n : Int} (h1 : -9223372036854775808 ≤ n) (h2 : n ≤ 9223372036854775807) : IntKind.wrap .i64 n = n := by
 simp only [IntKind.wrap, IntKind.bits, IntKind.signed]
 simp
 omega
/-- Numbers that stay small. -/
theorem wrapN {a b : Nat} (h : a + b ≤ 9223372036854775807) : IntKind.wrap .i64 ((a : Int) + (b : Int)) = ((a + b : Nat) : Int) := by
 rw [wrap64 (by omega) (by omega)]; omega
theorem wrap1 {a : Nat} (h : a + 1 ≤ 9223372036854775807) : IntKind.wrap .i64 ((a : Int) + 1) = ((a + 1 : Nat) : Int) := by
 rw [wrap64 (by omega) (by omega)]; omega

/-! ### tokens -/
structure Tok where
 kind : Nat
 text : List UInt8
 at_ : Nat
def encTok (t : Tok) : List AV := [.lit (.int .i64 (t.kind : Nat)), .lit (.string (ba t.text)), .lit (.int .i64 (t.at_ : Nat))]
theorem sanL_encTok (t : Tok) : sanL (encTok t) = encTok t := by simp only [encTok, go_sem]
@[go_sem] theorem sanLL_encTok (l : List Tok) : sanLL (l.map encTok) = l.map encTok := sanLL_of encTok sanL_encTok l

/-! ### bytes -/
def isBlank (n : Nat) : Bool := n == 9 || n == 10 || n == 13 || n == 32
def isLetter (n : Nat) : Bool := (97 ≤ n && n ≤ 122) || (65 ≤ n && n ≤ 90)
def isDigit (n : Nat) : Bool := 48 ≤ n && n ≤ 57
def signs : List Nat := [123, 125, 40, 41, 44, 59, 46, 61, 43, 45, 42, 60, 38, 58]
def isSign (n : Nat) : Bool := signs.contains n
def inWord (n : Nat) : Bool := isLetter n || isDigit n || n == 95
def notNl (n : Nat) : Bool := n != 10
def cls (n : Nat) : Nat := if isBlank n then 1 else if n == 35 then 2 else if isLetter n then 3 else if isDigit n then 4 else if isSign n then 5 else 0
/-- How many bytes, from the first one on, hold. -/
def span (p : Nat → Bool) (l : List UInt8) : Nat := (l.takeWhile fun b => p b.toNat).length
theorem span_le (p : Nat → Bool) (l : List UInt8) : span p l ≤ l.length := by
 unfold span
 induction l with
 | nil => simp
 | cons x l ih => rw [List.takeWhile_cons]; split <;> simp <;> omega
theorem span_nil (p : Nat → Bool) : span p [] = 0 := rfl
theorem span_cons (p : Nat → Bool) (b : UInt8) (l : List UInt8) : span p (b :: l) = if p b.toNat then span p l + 1 else 0 := by
 unfold span
 rw [List.takeWhile_cons]
 split <;> simp
theorem span_pos {p : Nat → Bool} {b : UInt8} {l : List UInt8} (h : p b.toNat = true) : span p (b :: l) = span p l + 1 := by rw [span_cons, if_pos h]
theorem drop_cons {l : List UInt8} {n : Nat} (h : n < l.length) : l.drop n = l.getD n 0 :: l.drop (n + 1) := by
 rw [List.drop_eq_getElem_cons h, List.getD_eq_getElem?_getD, List.getElem?_eq_getElem h]
 rfl

/-! ### the lexer -/
inductive LexR where
 | ok (l : List Tok)
 | err (at_ : Nat)
def LexR.pre (acc : List Tok) : LexR → LexR
 | .ok l => .ok (acc ++ l)
 | .err a => .err a
theorem LexR.pre_pre (a b : List Tok) (r : LexR) : LexR.pre a (LexR.pre b r) = LexR.pre (a ++ b) r := by cases r <;> simp [LexR.pre]
theorem LexR.pre_nil (r : LexR) : LexR.pre [] r = r := by cases r <;> simp [LexR.pre]
/-- Is what stands behind digits no part of them? -/
def endsNum (l : List UInt8) : Bool :=
 match l with
 | [] => true
 | b :: _ => !inWord b.toNat
def lexF : Nat → List UInt8 → Nat → LexR
 | 0, _, at_ => .err at_
 | _ + 1, [], _ => .ok []
 | n + 1, b :: l, at_ =>
  match cls b.toNat with
  | 1 => lexF n l (at_ + 1)
  | 2 => lexF n ((b :: l).drop (span notNl (b :: l))) (at_ + span notNl (b :: l))
  | 3 => LexR.pre [⟨0, (b :: l).take (span inWord (b :: l)), at_⟩] (lexF n ((b :: l).drop (span inWord (b :: l))) (at_ + span inWord (b :: l)))
  | 4 =>
   if span isDigit (b :: l) ≤ 9 ∧ endsNum ((b :: l).drop (span isDigit (b :: l))) = true then
    LexR.pre [⟨1, (b :: l).take (span isDigit (b :: l)), at_⟩] (lexF n ((b :: l).drop (span isDigit (b :: l))) (at_ + span isDigit (b :: l)))
   else .err at_
  | 5 => LexR.pre [⟨2, [b], at_⟩] (lexF n l (at_ + 1))
  | _ => .err at_
/-- The tokens of bytes, the first of which stands at a place. -/
def lexL (l : List UInt8) (at_ : Nat) : LexR := lexF (l.length + 1) l at_
theorem cls_lt (n : Nat) : cls n ≤ 5 := by unfold cls; repeat (first | omega | split)
theorem cls2 {n : Nat} (h : cls n = 2) : notNl n = true := by
 unfold cls at h
 repeat' split at h
 all_goals first | omega | (rename_i h1; simp at h1; subst h1; rfl)
theorem cls3 {n : Nat} (h : cls n = 3) : inWord n = true := by
 unfold cls at h
 repeat' split at h
 all_goals first | omega | (rename_i h1; simp [inWord, h1])
theorem cls4 {n : Nat} (h : cls n = 4) : isDigit n = true := by
 unfold cls at h
 repeat' split at h
 all_goals first | omega | assumption
theorem lexF_more : ∀ (n : Nat) (l : List UInt8) (at_ m : Nat), l.length < n → l.length < m → lexF n l at_ = lexF m l at_ := by
 intro n
 induction n with
 | zero => intro l at_ m h; omega
 | succ n ih =>
  intro l at_ m h h'
  obtain ⟨m, rfl⟩ : ∃ k, m = k + 1 := ⟨m - 1, by omega⟩
  cases l with
  | nil => rfl
  | cons b l =>
   have step : ∀ (k : Nat), 0 < k → ∀ x, lexF n ((b :: l).drop k) x = lexF m ((b :: l).drop k) x := by
    intro k hk x
    refine ih _ _ _ ?_ ?_ <;> simp only [List.length_drop, List.length_cons] at h h' ⊢ <;> omega
   have step1 : ∀ x, lexF n l x = lexF m l x := fun x => step 1 (by omega) x
   simp only [lexF]
   split
   ·exact step1 _
   ·rename_i hc
    exact step _ (by rw [span_pos (cls2 hc)]; omega) _
   ·rename_i hc
    rw [step _ (by rw [span_pos (cls3 hc)]; omega) _]
   ·rename_i hc
    rw [step _ (by rw [span_pos (cls4 hc)]; omega) _]
   ·rw [step1]
   ·rfl
theorem lexF_eq {n : Nat} {l : List UInt8} {at_ : Nat} (h : l.length < n) : lexF n l at_ = lexL l at_ := lexF_more _ _ _ _ h (by omega)
theorem lexL_nil (at_ : Nat) : lexL [] at_ = .ok [] := rfl
theorem lexL_drop {b : UInt8} {l : List UInt8} {k at_ : Nat} (hk : 0 < k) : lexF (b :: l).length ((b :: l).drop k) at_ = lexL ((b :: l).drop k) at_ :=
 lexF_eq (by simp only [List.length_drop, List.length_cons]; omega)
theorem lexL_blank {b : UInt8} {l : List UInt8} {at_ : Nat} (h : cls b.toNat = 1) : lexL (b :: l) at_ = lexL l (at_ + 1) := by
 unfold lexL; simp only [lexF, h]; rfl
theorem lexL_remark {b : UInt8} {l : List UInt8} {at_ : Nat} (h : cls b.toNat = 2) : lexL (b :: l) at_ = lexL ((b :: l).drop (span notNl (b :: l))) (at_ + span notNl (b :: l)) := by
 conv => lhs; unfold lexL; simp only [lexF, h]
 exact lexL_drop (by rw [span_pos (cls2 h)]; omega)
theorem lexL_word {b : UInt8} {l : List UInt8} {at_ : Nat} (h : cls b.toNat = 3) : lexL (b :: l) at_ = LexR.pre [⟨0, (b :: l).take (span inWord (b :: l)), at_⟩] (lexL ((b :: l).drop (span inWord (b :: l))) (at_ + span inWord (b :: l))) := by
 conv => lhs; unfold lexL; simp only [lexF, h]
 rw [lexL_drop (by rw [span_pos (cls3 h)]; omega)]
theorem lexL_num {b : UInt8} {l : List UInt8} {at_ : Nat} (h : cls b.toNat = 4) (h2 : span isDigit (b :: l) ≤ 9) (h3 : endsNum ((b :: l).drop (span isDigit (b :: l))) = true) :
  lexL (b :: l) at_ = LexR.pre [⟨1, (b :: l).take (span isDigit (b :: l)), at_⟩] (lexL ((b :: l).drop (span isDigit (b :: l))) (at_ + span isDigit (b :: l))) := by
 conv => lhs; unfold lexL; simp only [lexF, h]
 rw [if_pos ⟨h2, h3⟩, lexL_drop (by rw [span_pos (cls4 h)]; omega)]
theorem lexL_notnum {b : UInt8} {l : List UInt8} {at_ : Nat} (h : cls b.toNat = 4) (h2 : ¬ (span isDigit (b :: l) ≤ 9 ∧ endsNum ((b :: l).drop (span isDigit (b :: l))) = true)) : lexL (b :: l) at_ = .err at_ := by
 conv => lhs; unfold lexL; simp only [lexF, h]
 rw [if_neg h2]
theorem lexL_sign {b : UInt8} {l : List UInt8} {at_ : Nat} (h : cls b.toNat = 5) : lexL (b :: l) at_ = LexR.pre [⟨2, [b], at_⟩] (lexL l (at_ + 1)) := by
 unfold lexL; simp only [lexF, h]; rfl
theorem lexL_other {b : UInt8} {l : List UInt8} {at_ : Nat} (h : cls b.toNat = 0) : lexL (b :: l) at_ = .err at_ := by
 unfold lexL; simp only [lexF, h]
/-- What a lexer hands back: tokens, code, place. -/
def lexAns (l : List UInt8) : List Tok × Nat × Nat :=
 if 65536 < l.length then ([], 11, 0)
 else match lexL l 0 with
  | .ok ts => (ts, 0, 0)
  | .err a => ([], 10, a)
def encFault (code at_ : Nat) : AV := .agg [.lit (.int .i64 (code : Nat)), .lit (.int .i64 (at_ : Nat))]
def encLex (r : List Tok × Nat × Nat) : AV := .tup [.sl .sh (r.1.map encTok), encFault r.2.1 r.2.2]
/-! ### tokens of any kind, at any place -/
structure GTok where
 kind : Int
 text : List UInt8
 at_ : Int
 deriving DecidableEq
instance : Inhabited GTok := ⟨⟨0, [], 0⟩⟩
def encG (t : GTok) : List AV := [.lit (.int .i64 t.kind), .lit (.string (ba t.text)), .lit (.int .i64 t.at_)]
def Tok.g (t : Tok) : GTok := ⟨(t.kind : Nat), t.text, (t.at_ : Nat)⟩
theorem enc_g (l : List Tok) : l.map encTok = (l.map Tok.g).map encG := by simp [Function.comp_def, encTok, encG, Tok.g]
theorem sanL_encG (t : GTok) : sanL (encG t) = encG t := by simp only [encG, go_sem]
@[go_sem] theorem sanLL_encG (l : List GTok) : sanLL (l.map encG) = l.map encG := sanLL_of encG sanL_encG l
theorem iad_encG {t : TypeId} {bs : Nat} {o : Own} {l : List GTok} {i : Nat} (h : i < l.length) : iad (some (t, 3, bs)) (.sl o (l.map encG)) (some i) = some (.ep (encG (l.getD i default))) := by
 refine iad_some ?_ rfl
 rw [List.getElem?_map, List.getElem?_eq_getElem h, List.getD_eq_getElem?_getD, List.getElem?_eq_getElem h]
 rfl
theorem drop_cons' {α : Type} {l : List α} {n : Nat} (d : α) (h : n < l.length) : l.drop n = l.getD n d :: l.drop (n + 1) := by
 rw [List.drop_eq_getElem_cons h, List.getD_eq_getElem?_getD, List.getElem?_eq_getElem h]
 rfl
def rightB (k : Int) (t : List UInt8) : Bool :=
 match lexAns t with
 | ([x], 0, _) => decide ((x.kind : Int) = k) && decide (x.text = t)
 | _ => false
def rightG (t : GTok) : Bool := rightB t.kind t.text
end Go.Proofs.YtghhkbigmmjanaaGreatDoor.VA

/-! Pa1 -/
namespace Go.Proofs.YtghhkbigmmjanaaGreatDoor.VA
open Go Go.RowKit
set_option linter.unusedSimpArgs false

/-! ### programs -/
structure Opd where
 kind : Int
 n : Int
 name : List UInt8
 deriving DecidableEq
inductive GStmt where
 | mk (op : Int) (x y p : List UInt8) (a : List Opd) (props : List (List UInt8)) (th el : List GStmt)
structure GFunc where
 name : List UInt8
 params : List (List UInt8)
 body : List GStmt

/-! ### the parser's state: how many tokens were taken, how many statements there are, the fault -/
structure PS where
 at_ : Nat
 cnt : Nat
 f : Option (Nat × Int)
def PS.ok (s : PS) : Bool := s.f.isNone
def PS.adv (s : PS) : PS := { s with at_ := s.at_ + 1 }
/-- More steps than any list of tokens asks for. -/
def FN : Nat := 4398046511104
section
variable (l : List GTok) (en : Int)
def place (at_ : Nat) : Int := if at_ < l.length then (l.getD at_ default).at_ else en
def pfail (s : PS) (code : Nat) : PS := match s.f with | none => { s with f := some (code, place l en s.at_) } | some _ => s
/-- The next token, if there was no fault. -/
def tk (s : PS) : Option GTok := match s.f with | none => l[s.at_]? | some _ => none
def isT (s : PS) (t : List UInt8) : Bool := match tk l s with | none => false | some x => rightG x && decide (x.text = t) && !decide (x.kind = 1)
def need (s : PS) (t : List UInt8) : PS := match isT l s t with | true => s.adv | false => pfail l en s 0
def words : List (List UInt8) := [[102, 117, 110], [111, 117, 116], [114, 101, 116, 117, 114, 110], [105, 102], [101, 108, 115, 101], [119, 104, 105, 108, 101], [110, 101, 119], [112, 114, 111, 116, 111], [99, 97, 108, 108], [105, 110], [110, 117, 108, 108], [116, 114, 117, 101], [102, 97, 108, 115, 101]]
def keyword (t : List UInt8) : Bool := words.contains t
def isName (s : PS) : Bool := match tk l s with | none => false | some x => rightG x && decide (x.kind = 0) && !keyword x.text
def text (s : PS) : List UInt8 := (l.getD s.at_ default).text
def nameP (s : PS) : PS × List UInt8 := match isName l s with | true => (s.adv, text l s) | false => (pfail l en s 0, [])
def isNum (s : PS) : Bool := match tk l s with | none => false | some x => rightG x && decide (x.kind = 1)
def numOf (t : List UInt8) : Nat := t.foldl (fun n b => 10 * n + (b.toNat - 48)) 0
def tNull : List UInt8 := [110, 117, 108, 108]
def tTrue : List UInt8 := [116, 114, 117, 101]
def tFalse : List UInt8 := [102, 97, 108, 115, 101]
def operand (s : PS) : PS × Opd :=
 match isT l s tNull with
 | true => (s.adv, ⟨0, 0, []⟩)
 | false =>
 match isT l s tTrue with
 | true => (s.adv, ⟨1, 1, []⟩)
 | false =>
 match isT l s tFalse with
 | true => (s.adv, ⟨1, 0, []⟩)
 | false =>
 match isT l s [38] with
 | true => ((nameP l en s.adv).1, ⟨3, 0, (nameP l en s.adv).2⟩)
 | false =>
 match isNum l s with
 | true => (s.adv, ⟨2, (numOf (text l s) : Nat), []⟩)
 | false => ((nameP l en s).1, ⟨4, 0, (nameP l en s).2⟩)
/-- Things, parted by commas, up to a text. -/
def listF {X : Type} (one : PS → X → PS × X) (end_ : List UInt8) : Nat → PS → X → PS × X
 | 0, s, x => (s, x)
 | n + 1, s, x =>
  match s.ok with
  | false => (s, x)
  | true =>
   match isT l (one s x).1 end_ with
   | true => ((one s x).1.adv, (one s x).2)
   | false => listF one end_ n (need l en (one s x).1 [44]) (one s x).2
def listP {X : Type} (one : PS → X → PS × X) (end_ : List UInt8) (s : PS) (x : X) : PS × X :=
 match isT l s end_ with
 | true => (s.adv, x)
 | false => listF l en one end_ FN s x
def oneArg (s : PS) (acc : List Opd) : PS × List Opd := ((operand l en s).1, acc ++ [(operand l en s).2])
def args (s : PS) : PS × List Opd := listP l en (oneArg l en) [41] (need l en s [40]) []
def oneName (s : PS) (acc : List (List UInt8)) : PS × List (List UInt8) := ((nameP l en s).1, acc ++ [(nameP l en s).2])
def names (s : PS) : PS × List (List UInt8) := listP l en (oneName l en) [41] (need l en s [40]) []
/-- One property: its name, what it is. -/
def oneProp (s : PS) (acc : List (List UInt8) × List Opd) : PS × List (List UInt8) × List Opd :=
 ((operand l en (need l en (nameP l en s).1 [58])).1, acc.1 ++ [(nameP l en s).2], acc.2 ++ [(operand l en (need l en (nameP l en s).1 [58])).2])
def tProto : List UInt8 := [112, 114, 111, 116, 111]
def propsP (s : PS) : PS × List (List UInt8) × List Opd := listP l en (oneProp l en) [125] (need l en s [123]) ([], [])
/-- What stands behind `proto`. -/
def protoP (s : PS) : PS × Opd := operand l en (need l en s tProto)
def object (s : PS) : PS × GStmt :=
 ((protoP l en (propsP l en s).1).1, .mk 4 [] [] [] ((propsP l en s).2.2 ++ [(protoP l en (propsP l en s).1).2]) (propsP l en s).2.1 [] [])
def tIn : List UInt8 := [105, 110]
def tCall : List UInt8 := [99, 97, 108, 108]
def tNew : List UInt8 := [110, 101, 119]
/-- The sign of arithmetic that is next. -/
def signOf (s : PS) : List (List UInt8) → Option (List UInt8)
 | [] => none
 | t :: ts => match isT l s t with | true => some t | false => signOf s ts
def arith : List (List UInt8) := [[43], [45], [42], [60], [61]]
/-- What may stand behind an operand. -/
def rest (a : PS) (o : Opd) : PS × GStmt :=
 match signOf l a arith with
 | some t => ((operand l en a.adv).1, .mk 1 [] [] t [o, (operand l en a.adv).2] [] [] [])
 | none =>
  match decide (o.kind = 4) && isT l a [40] with
  | true => ((args l en a).1, .mk 6 [] o.name [] (args l en a).2 [] [] [])
  | false =>
   match decide (o.kind = 4) && isT l a [46] with
   | true => ((nameP l en a.adv).1, .mk 2 [] o.name (nameP l en a.adv).2 [] [] [] [])
   | false => (a, .mk 0 [] [] [] [o] [] [] [])
def value (s : PS) : PS × GStmt :=
 match isT l s tIn with
 | true => (s.adv, .mk 7 [] [] [] [] [] [] [])
 | false =>
 match isT l s tCall with
 | true => ((args l en (nameP l en s.adv).1).1, .mk 5 [] [] (nameP l en s.adv).2 (args l en (nameP l en s.adv).1).2 [] [] [])
 | false =>
 match isT l s tNew with
 | true => object l en s.adv
 | false => rest l en (operand l en s).1 (operand l en s).2
def GStmt.setX (s : GStmt) (x : List UInt8) : GStmt := match s with | .mk op _ y p a props th el => .mk op x y p a props th el
/-- What sets something, up to the semicolon. -/
def assign (s : PS) : PS × GStmt :=
 match isT l (nameP l en s).1 [46] with
 | true =>
  ((operand l en (need l en (nameP l en (nameP l en s).1.adv).1 [61])).1,
   .mk 3 (nameP l en s).2 [] (nameP l en (nameP l en s).1.adv).2 [(operand l en (need l en (nameP l en (nameP l en s).1.adv).1 [61])).2] [] [] [])
 | false => ((value l en (need l en (nameP l en s).1 [61])).1, (value l en (need l en (nameP l en s).1 [61])).2.setX (nameP l en s).2)
def tOut : List UInt8 := [111, 117, 116]
def tReturn : List UInt8 := [114, 101, 116, 117, 114, 110]
def tIf : List UInt8 := [105, 102]
def tElse : List UInt8 := [101, 108, 115, 101]
def tWhile : List UInt8 := [119, 104, 105, 108, 101]
def tFun : List UInt8 := [102, 117, 110]
def starts (s : PS) : Bool := isName l s || isT l s tOut || isT l s tReturn || isT l s tIf || isT l s tWhile
def PS.count (s : PS) : PS := { s with cnt := s.cnt + 1 }
def semi (r : PS × GStmt) : PS × GStmt := (need l en r.1 [59], r.2)
/-- A statement without blocks, up to its semicolon. -/
def simple (s : PS) : PS × GStmt :=
 match isT l s tOut with
 | true => ((operand l en s.adv).1, .mk 8 [] [] [] [(operand l en s.adv).2] [] [] [])
 | false =>
 match isT l s tReturn with
 | true => ((operand l en s.adv).1, .mk 11 [] [] [] [(operand l en s.adv).2] [] [] [])
 | false => assign l en s
mutual
def stmtF : Nat → PS → Nat → PS × GStmt
 | 0, s, _ => (pfail l en s 0, .mk 0 [] [] [] [] [] [] [])
 | n + 1, s, deep =>
  match starts l s with
  | false => (pfail l en s 0, .mk 0 [] [] [] [] [] [] [])
  | true =>
  match decide (2000 ≤ s.cnt) with
  | true => (pfail l en s 2, .mk 0 [] [] [] [] [] [] [])
  | false =>
  match isT l s tIf with
  | true =>
   match isT l (blockF n (operand l en s.count.adv).1 deep).1 tElse with
   | true => ((blockF n (blockF n (operand l en s.count.adv).1 deep).1.adv deep).1,
     .mk 9 [] [] [] [(operand l en s.count.adv).2] [] (blockF n (operand l en s.count.adv).1 deep).2 (blockF n (blockF n (operand l en s.count.adv).1 deep).1.adv deep).2)
   | false => ((blockF n (operand l en s.count.adv).1 deep).1, .mk 9 [] [] [] [(operand l en s.count.adv).2] [] (blockF n (operand l en s.count.adv).1 deep).2 [])
  | false =>
  match isT l s tWhile with
  | true => ((blockF n (operand l en s.count.adv).1 deep).1, .mk 10 [] [] [] [(operand l en s.count.adv).2] [] (blockF n (operand l en s.count.adv).1 deep).2 [])
  | false => semi l en (simple l en s.count)
def blockF : Nat → PS → Nat → PS × List GStmt
 | 0, s, _ => (pfail l en s 0, [])
 | n + 1, s, deep =>
  match isT l s [123] && decide (32 ≤ deep) with
  | true => (pfail l en s 1, [])
  | false => bodyF n (need l en s [123]) deep []
def bodyF : Nat → PS → Nat → List GStmt → PS × List GStmt
 | 0, s, _, acc => (pfail l en s 0, acc)
 | n + 1, s, deep, acc =>
  match s.ok && !isT l s [125] with
  | true => bodyF n (stmtF n s (deep + 1)).1 deep (acc ++ [(stmtF n s (deep + 1)).2])
  | false => (need l en s [125], acc)
end
/-- One function. -/
def funcP (s : PS) : PS × GFunc :=
 let a := nameP l en (need l en s tFun)
 let b := names l en a.1
 let c := blockF l en FN b.1 0
 (c.1, ⟨a.2, b.2, c.2⟩)
def progF : Nat → PS → List GFunc → PS × List GFunc
 | 0, s, acc => (s, acc)
 | n + 1, s, acc =>
  match s.ok && decide (s.at_ < l.length) with
  | false => (s, acc)
  | true => progF n (funcP l en s).1 (acc ++ [(funcP l en s).2])
/-- A program, or the first fault. -/
def readP : List GFunc × Nat × Int :=
 match (progF l en FN ⟨0, 0, none⟩ []).1.f with
 | none => ((progF l en FN ⟨0, 0, none⟩ []).2, 0, 0)
 | some (code, at_) => ([], code + 20, at_)
end
def parseP (s : List UInt8) : List GFunc × Nat × Int :=
 match lexAns s with
 | (ts, 0, _) => readP (ts.map Tok.g) s.length
 | (_, code, at_) => ([], code, at_)

/-! ### in the abstract interpreter's values -/
def encOpd (o : Opd) : List AV := [.lit (.int .i64 o.kind), .lit (.int .i64 o.n), .lit (.string (ba o.name))]
def encStr (t : List UInt8) : List AV := [.lit (.string (ba t))]
mutual
def encStmt : GStmt → List AV
 | .mk op x y p a props th el => [.lit (.int .i64 op), .lit (.string (ba x)), .lit (.string (ba y)), .lit (.string (ba p)), .sl .sh (a.map encOpd), .sl .sh (props.map encStr), .sl .sh (encStmts th), .sl .sh (encStmts el)]
def encStmts : List GStmt → List (List AV)
 | [] => []
 | s :: l => encStmt s :: encStmts l
end
theorem encStmts_map : ∀ (l : List GStmt), encStmts l = l.map encStmt
 | [] => rfl
 | s :: l => by simp only [encStmts, List.map_cons, encStmts_map l]
def encFunc (f : GFunc) : List AV := [.lit (.string (ba f.name)), .sl .sh (f.params.map encStr), .sl .sh (f.body.map encStmt)]
@[go_sem] theorem sanL_encOpd (o : Opd) : sanL (encOpd o) = encOpd o := by simp only [encOpd, go_sem]
@[go_sem] theorem sanL_encStr (t : List UInt8) : sanL (encStr t) = encStr t := by simp only [encStr, go_sem]
@[go_sem] theorem sanLL_encOpd (l : List Opd) : sanLL (l.map encOpd) = l.map encOpd := sanLL_of encOpd sanL_encOpd l
@[go_sem] theorem sanLL_encStr (l : List (List UInt8)) : sanLL (l.map encStr) = l.map encStr := sanLL_of encStr sanL_encStr l
mutual
theorem sanL_encStmt : ∀ (s : GStmt), sanL (encStmt s) = encStmt s
 | .mk op x y p a props th el => by simp only [encStmt, go_sem, sanLL_encStmts th, sanLL_encStmts el]
theorem sanLL_encStmts : ∀ (l : List GStmt), sanLL (encStmts l) = encStmts l
 | [] => rfl
 | s :: l => by simp only [encStmts, sanLL, sanL_encStmt s, sanLL_encStmts l]
end
attribute [go_sem] sanL_encStmt
@[go_sem] theorem sanLL_encStmt (l : List GStmt) : sanLL (l.map encStmt) = l.map encStmt := sanLL_of encStmt sanL_encStmt l
@[go_sem] theorem sanL_encFunc (f : GFunc) : sanL (encFunc f) = encFunc f := by simp only [encFunc, go_sem]
@[go_sem] theorem sanLL_encFunc (l : List GFunc) : sanLL (l.map encFunc) = l.map encFunc := sanLL_of encFunc sanL_encFunc l
end Go.Proofs.YtghhkbigmmjanaaGreatDoor.VA

/-! Pa2 -/
namespace Go.Proofs.YtghhkbigmmjanaaGreatDoor.VA
open Go Go.RowKit
set_option linter.unusedSimpArgs false

section
variable {l : List GTok} {en : Int}
/-- From one state to the next: if there is no fault, there was none, and it is not behind. -/
def Le1 (l : List GTok) (s s' : PS) : Prop := s'.ok = true → s.ok = true ∧ s.at_ ≤ s'.at_ ∧ (s.at_ = s'.at_ ∨ s'.at_ ≤ l.length)
/-- The same, and it is ahead. -/
def Lt1 (l : List GTok) (s s' : PS) : Prop := s'.ok = true → s.ok = true ∧ s.at_ < s'.at_ ∧ s'.at_ ≤ l.length
theorem Le1.refl (s : PS) : Le1 l s s := fun h => ⟨h, Nat.le_refl _, .inl rfl⟩
theorem Lt1.le {s s' : PS} (h : Lt1 l s s') : Le1 l s s' := fun hk => let ⟨a, b, c⟩ := h hk; ⟨a, by omega, .inr c⟩
theorem Le1.trans {a b c : PS} (h : Le1 l a b) (k : Le1 l b c) : Le1 l a c := fun hk => by
 obtain ⟨h1, h2, h3⟩ := k hk
 obtain ⟨k1, k2, k3⟩ := h h1
 exact ⟨k1, by omega, by omega⟩
theorem Lt1.trans_le {a b c : PS} (h : Lt1 l a b) (k : Le1 l b c) : Lt1 l a c := fun hk => by
 obtain ⟨h1, h2, h3⟩ := k hk
 obtain ⟨k1, k2, k3⟩ := h h1
 exact ⟨k1, by omega, by omega⟩
theorem Le1.trans_lt {a b c : PS} (h : Le1 l a b) (k : Lt1 l b c) : Lt1 l a c := fun hk => by
 obtain ⟨h1, h2, h3⟩ := k hk
 obtain ⟨k1, k2, k3⟩ := h h1
 exact ⟨k1, by omega, by omega⟩
theorem tk_some {s : PS} {x : GTok} (h : tk l s = some x) : s.f = none ∧ s.ok = true ∧ s.at_ < l.length ∧ l.getD s.at_ default = x := by
 unfold tk at h
 split at h
 ·rename_i hf
  refine ⟨hf, by simp [PS.ok, hf], (List.getElem?_eq_some_iff.1 h).1, ?_⟩
  rw [List.getD_eq_getElem?_getD, h]; rfl
 ·cases h
theorem isT_some {s : PS} {t : List UInt8} (h : isT l s t = true) : ∃ x, tk l s = some x ∧ rightG x = true ∧ x.text = t ∧ x.kind ≠ 1 := by
 unfold isT at h
 cases hk : tk l s with
 | none => simp [hk] at h
 | some x => simp [hk] at h; exact ⟨x, rfl, h.1.1, h.1.2, h.2⟩
theorem isName_some {s : PS} (h : isName l s = true) : ∃ x, tk l s = some x ∧ rightG x = true ∧ x.kind = 0 ∧ keyword x.text = false := by
 unfold isName at h
 cases hk : tk l s with
 | none => simp [hk] at h
 | some x => simp [hk] at h; exact ⟨x, rfl, h.1.1, h.1.2, h.2⟩
theorem isNum_some {s : PS} (h : isNum l s = true) : ∃ x, tk l s = some x ∧ rightG x = true ∧ x.kind = 1 := by
 unfold isNum at h
 cases hk : tk l s with
 | none => simp [hk] at h
 | some x => simp [hk] at h; exact ⟨x, rfl, h.1, h.2⟩
theorem adv_lt {s : PS} {x : GTok} (h : tk l s = some x) : Lt1 l s s.adv := fun _ => by
 obtain ⟨_, h2, h3, _⟩ := tk_some h
 exact ⟨h2, by simp [PS.adv], by simp [PS.adv]; omega⟩
theorem adv_isT {s : PS} {t : List UInt8} (h : isT l s t = true) : Lt1 l s s.adv := let ⟨_, h, _⟩ := isT_some h; adv_lt h
theorem pfail_bad (s : PS) (code : Nat) : (pfail l en s code).ok = false := by
 unfold pfail
 cases h : s.f with
 | none => simp [PS.ok]
 | some q => simp [PS.ok, h]
theorem bad_lt {s s' : PS} (h : s'.ok = false) : Lt1 l s s' := fun hk => by rw [h] at hk; cases hk
theorem need_lt (s : PS) (t : List UInt8) : Lt1 l s (need l en s t) := by
 unfold need
 cases h : isT l s t with
 | true => exact adv_isT h
 | false => exact bad_lt (pfail_bad _ _)
theorem nameP_lt (s : PS) : Lt1 l s (nameP l en s).1 := by
 unfold nameP
 cases h : isName l s with
 | true => obtain ⟨x, h, _⟩ := isName_some h; exact adv_lt h
 | false => exact bad_lt (pfail_bad _ _)
theorem operand_lt (s : PS) : Lt1 l s (operand l en s).1 := by
 unfold operand
 cases h1 : isT l s tNull with
 | true => exact adv_isT h1
 | false =>
 cases h2 : isT l s tTrue with
 | true => exact adv_isT h2
 | false =>
 cases h3 : isT l s tFalse with
 | true => exact adv_isT h3
 | false =>
 cases h4 : isT l s [38] with
 | true => exact (adv_isT h4).trans_le (nameP_lt _).le
 | false =>
 cases h5 : isNum l s with
 | true => obtain ⟨x, h, _⟩ := isNum_some h5; exact adv_lt h
 | false => exact nameP_lt _
theorem listF_le {X : Type} {one : PS → X → PS × X} (h1 : ∀ s x, Lt1 l s (one s x).1) (end_ : List UInt8) : ∀ (n : Nat) (s : PS) (x : X), Le1 l s (listF l en one end_ n s x).1
 | 0, s, x => Le1.refl s
 | n + 1, s, x => by
  unfold listF
  cases s.ok with
  | false => exact Le1.refl s
  | true =>
   simp only
   cases h : isT l (one s x).1 end_ with
   | true => exact ((h1 s x).trans_le (adv_isT h).le).le
   | false => exact ((h1 s x).trans_le (need_lt _ _).le).le.trans (listF_le h1 end_ n _ _)
theorem listP_le {X : Type} {one : PS → X → PS × X} (h1 : ∀ s x, Lt1 l s (one s x).1) (end_ : List UInt8) (s : PS) (x : X) : Le1 l s (listP l en one end_ s x).1 := by
 unfold listP
 cases h : isT l s end_ with
 | true => exact (adv_isT h).le
 | false => exact listF_le h1 _ _ _ _
theorem oneArg_lt (s : PS) (x : List Opd) : Lt1 l s (oneArg l en s x).1 := operand_lt s
theorem oneName_lt (s : PS) (x : List (List UInt8)) : Lt1 l s (oneName l en s x).1 := nameP_lt s
theorem oneProp_lt (s : PS) (x : List (List UInt8) × List Opd) : Lt1 l s (oneProp l en s x).1 := (nameP_lt s).trans_le ((need_lt _ _).trans_le (operand_lt _).le).le
theorem args_lt (s : PS) : Lt1 l s (args l en s).1 := (need_lt _ _).trans_le (listP_le oneArg_lt _ _ _)
theorem names_lt (s : PS) : Lt1 l s (names l en s).1 := (need_lt _ _).trans_le (listP_le oneName_lt _ _ _)
theorem propsP_lt (s : PS) : Lt1 l s (propsP l en s).1 := (need_lt _ _).trans_le (listP_le oneProp_lt _ _ _)
theorem protoP_lt (s : PS) : Lt1 l s (protoP l en s).1 := (need_lt _ _).trans_le (operand_lt _).le
theorem object_lt (s : PS) : Lt1 l s (object l en s).1 := (propsP_lt s).trans_le (protoP_lt _).le
theorem signOf_some {s : PS} {ts : List (List UInt8)} {t : List UInt8} (h : signOf l s ts = some t) : isT l s t = true ∧ t ∈ ts := by
 induction ts with
 | nil => simp [signOf] at h
 | cons u ts ih =>
  unfold signOf at h
  cases hu : isT l s u with
  | true => rw [hu] at h; simp at h; subst h; exact ⟨hu, by simp⟩
  | false => rw [hu] at h; obtain ⟨h1, h2⟩ := ih h; exact ⟨h1, by simp [h2]⟩
theorem rest_le (s : PS) (o : Opd) : Le1 l s (rest l en s o).1 := by
 unfold rest
 cases h : signOf l s arith with
 | some t => exact ((adv_isT (signOf_some h).1).trans_le (operand_lt _).le).le
 | none =>
  simp only
  cases h1 : decide (o.kind = 4) && isT l s [40] with
  | true => exact (args_lt s).le
  | false =>
   simp only
   cases h2 : decide (o.kind = 4) && isT l s [46] with
   | true =>
    rw [Bool.and_eq_true] at h2
    exact ((adv_isT h2.2).trans_le (nameP_lt _).le).le
   | false => exact Le1.refl s
theorem value_lt (s : PS) : Lt1 l s (value l en s).1 := by
 unfold value
 cases h1 : isT l s tIn with
 | true => exact adv_isT h1
 | false =>
 cases h2 : isT l s tCall with
 | true => exact (adv_isT h2).trans_le ((nameP_lt _).trans_le (args_lt _).le).le
 | false =>
 cases h3 : isT l s tNew with
 | true => exact (adv_isT h3).trans_le (object_lt _).le
 | false => exact (operand_lt _).trans_le (rest_le _ _)
theorem assign_lt (s : PS) : Lt1 l s (assign l en s).1 := by
 unfold assign
 cases h1 : isT l (nameP l en s).1 [46] with
 | true => exact (nameP_lt s).trans_le ((adv_isT h1).trans_le ((nameP_lt _).trans_le ((need_lt _ _).trans_le (operand_lt _).le).le).le).le
 | false => exact (nameP_lt s).trans_le ((need_lt _ _).trans_le (value_lt _).le).le
theorem simple_lt (s : PS) : Lt1 l s (simple l en s).1 := by
 unfold simple
 cases h1 : isT l s tOut with
 | true => exact (adv_isT h1).trans_le (operand_lt _).le
 | false =>
 cases h2 : isT l s tReturn with
 | true => exact (adv_isT h2).trans_le (operand_lt _).le
 | false => exact assign_lt s
theorem isT_count (s : PS) (t : List UInt8) : isT l s.count t = isT l s t := rfl
theorem count_lt {s s' : PS} (h : Lt1 l s.count s') : Lt1 l s s' := h
/-- How far it is to the end. -/
def rem (l : List GTok) (s : PS) : Nat := if s.ok = true then l.length - s.at_ else 0
theorem rem_lt {s s' : PS} (h : Lt1 l s s') : rem l s' ≤ rem l s ∧ (s.ok = true → s.at_ < l.length → rem l s' + 1 ≤ rem l s) := by
 unfold rem
 by_cases hk : s'.ok = true
 ·obtain ⟨h1, h2, h3⟩ := h hk
  rw [if_pos hk, if_pos h1]; omega
 ·rw [if_neg hk]
  refine ⟨by omega, fun h1 h2 => ?_⟩
  rw [if_pos h1]; omega
theorem blocks_lt : ∀ (n : Nat), (∀ s deep, Lt1 l s (stmtF l en n s deep).1) ∧ (∀ s deep, Lt1 l s (blockF l en n s deep).1) ∧ (∀ s deep acc, Lt1 l s (bodyF l en n s deep acc).1) := by
 intro n
 induction n with
 | zero => exact ⟨fun s _ => bad_lt (pfail_bad _ _), fun s _ => bad_lt (pfail_bad _ _), fun s _ _ => bad_lt (pfail_bad _ _)⟩
 | succ n ih =>
  obtain ⟨ih1, ih2, ih3⟩ := ih
  refine ⟨fun s deep => ?_, fun s deep => ?_, fun s deep acc => ?_⟩
  ·unfold stmtF
   cases starts l s with
   | false => exact bad_lt (pfail_bad _ _)
   | true =>
   cases decide (2000 ≤ s.cnt) with
   | true => exact bad_lt (pfail_bad _ _)
   | false =>
   cases h1 : isT l s tIf with
   | true =>
    have h2 : Lt1 l s (blockF l en n (operand l en s.count.adv).1 deep).1 := (count_lt (adv_isT (s := s.count) h1)).trans_le ((operand_lt _).trans_le (ih2 _ _).le).le
    simp only
    cases h3 : isT l (blockF l en n (operand l en s.count.adv).1 deep).1 tElse with
    | true => exact h2.trans_le ((adv_isT h3).trans_le (ih2 _ _).le).le
    | false => exact h2
   | false =>
   cases h2 : isT l s tWhile with
   | true => exact (count_lt (adv_isT (s := s.count) h2)).trans_le ((operand_lt _).trans_le (ih2 _ _).le).le
   | false => exact (count_lt (simple_lt s.count)).trans_le (need_lt _ _).le
  ·unfold blockF
   cases isT l s [123] && decide (32 ≤ deep) with
   | true => exact bad_lt (pfail_bad _ _)
   | false => exact (need_lt _ _).trans_le (ih3 _ _ _).le
  ·unfold bodyF
   cases s.ok && !isT l s [125] with
   | true => exact (ih1 _ _).trans_le (ih3 _ _ _).le
   | false => exact need_lt _ _
theorem stmtF_lt (n : Nat) (s : PS) (deep : Nat) : Lt1 l s (stmtF l en n s deep).1 := (blocks_lt n).1 s deep
theorem blockF_lt (n : Nat) (s : PS) (deep : Nat) : Lt1 l s (blockF l en n s deep).1 := (blocks_lt n).2.1 s deep
theorem bodyF_lt (n : Nat) (s : PS) (deep : Nat) (acc : List GStmt) : Lt1 l s (bodyF l en n s deep acc).1 := (blocks_lt n).2.2 s deep acc
theorem funcP_lt (s : PS) : Lt1 l s (funcP l en s).1 := (need_lt _ _).trans_le ((nameP_lt _).trans_le ((names_lt _).trans_le (blockF_lt _ _ _).le).le).le
end
end Go.Proofs.YtghhkbigmmjanaaGreatDoor.VA

/-! Ph0 -/
namespace Go.Proofs.YtghhkbigmmjanaaGreatDoor.VA
open Go Go.RowKit
set_option linter.unusedSimpArgs false

/-! ### the same -/
mutual
def eqS : GStmt → GStmt → Bool
 | .mk op x y p a ps th el, .mk op' x' y' p' a' ps' th' el' =>
  decide (op = op') && (decide (x = x') && (decide (y = y') && (decide (p = p') && (decide (a = a') && (decide (ps = ps') && (eqSs th th' && eqSs el el'))))))
def eqSs : List GStmt → List GStmt → Bool
 | [], [] => true
 | s :: l, s' :: l' => eqS s s' && eqSs l l'
 | [], _ :: _ => false
 | _ :: _, [] => false
end
mutual
theorem eqS_refl : ∀ s, eqS s s = true
 | .mk op x y p a ps th el => by simp [eqS, eqSs_refl th, eqSs_refl el]
theorem eqSs_refl : ∀ s, eqSs s s = true
 | [] => rfl
 | s :: l => by simp [eqSs, eqS_refl s, eqSs_refl l]
end
mutual
theorem eqS_eq : ∀ s t, eqS s t = true → s = t
 | .mk op x y p a ps th el, .mk op' x' y' p' a' ps' th' el' => by
  intro h
  simp only [eqS, Bool.and_eq_true, decide_eq_true_eq] at h
  obtain ⟨h1, h2, h3, h4, h5, h6, h7, h8⟩ := h
  have := eqSs_eq _ _ h7
  have := eqSs_eq _ _ h8
  subst_vars; rfl
theorem eqSs_eq : ∀ s t, eqSs s t = true → s = t
 | [], [], _ => rfl
 | s :: l, s' :: l', h => by
  simp only [eqSs, Bool.and_eq_true] at h
  rw [eqS_eq _ _ h.1, eqSs_eq _ _ h.2]
 | [], _ :: _, h => by cases h
 | _ :: _, [], h => by cases h
end
theorem eqSs_len : ∀ {a b : List GStmt}, eqSs a b = true → a.length = b.length := fun h => by rw [eqSs_eq _ _ h]
def eqF (f g : GFunc) : Bool := decide (f.name = g.name) && (decide (f.params = g.params) && eqSs f.body g.body)
def eqFs : List GFunc → List GFunc → Bool
 | [], [] => true
 | s :: l, s' :: l' => eqF s s' && eqFs l l'
 | [], _ :: _ => false
 | _ :: _, [] => false
theorem eqFs_refl : ∀ s, eqFs s s = true
 | [] => rfl
 | s :: l => by simp [eqFs, eqF, eqSs_refl, eqFs_refl l]
theorem eqF_eq {f g : GFunc} (h : eqF f g = true) : f = g := by
 simp only [eqF, Bool.and_eq_true, decide_eq_true_eq] at h
 obtain ⟨h1, h2, h3⟩ := h
 have := eqSs_eq _ _ h3
 cases f; cases g; simp_all
theorem eqFs_eq : ∀ s t, eqFs s t = true → s = t
 | [], [], _ => rfl
 | s :: l, s' :: l', h => by
  simp only [eqFs, Bool.and_eq_true] at h
  rw [eqF_eq h.1, eqFs_eq _ _ h.2]
 | [], _ :: _, h => by cases h
 | _ :: _, [], h => by cases h
theorem eqFs_len {a b : List GFunc} (h : eqFs a b = true) : a.length = b.length := by rw [eqFs_eq _ _ h]

/-! ### no list is too long -/
def BIG : Nat := 549755813888 + 8
mutual
def fitS : GStmt → Bool
 | .mk _ _ _ _ a ps th el => decide (a.length ≤ BIG) && (decide (ps.length ≤ BIG) && (decide (th.length ≤ BIG) && (decide (el.length ≤ BIG) && (fitSs th && fitSs el))))
def fitSs : List GStmt → Bool
 | [] => true
 | s :: l => fitS s && fitSs l
end
def fitF (f : GFunc) : Bool := decide (f.params.length ≤ BIG) && (decide (f.body.length ≤ BIG) && fitSs f.body)
def fitP (fs : List GFunc) : Bool := decide (fs.length ≤ BIG) && fs.all fitF
theorem fitSs_all : ∀ {l : List GStmt}, fitSs l = l.all fitS
 | [] => rfl
 | s :: l => by simp [fitSs, fitSs_all (l := l)]
theorem fitSs_app {a b : List GStmt} (h : fitSs a = true) (k : fitSs b = true) : fitSs (a ++ b) = true := by
 rw [fitSs_all] at *; simp_all
theorem fit_mk {op : Int} {x y p : List UInt8} {a : List Opd} {ps : List (List UInt8)} {th el : List GStmt} (h1 : a.length ≤ BIG) (h2 : ps.length ≤ BIG) (h3 : th.length ≤ BIG) (h4 : el.length ≤ BIG)
  (h5 : fitSs th = true) (h6 : fitSs el = true) : fitS (.mk op x y p a ps th el) = true := by
 simp only [fitS, h1, h2, h3, h4, h5, h6, decide_true, Bool.and_self]
theorem big0 {α : Type} : ([] : List α).length ≤ BIG := Nat.zero_le _
theorem big1 {n : Nat} (h : n ≤ 549755813888) : n ≤ BIG := Nat.le_trans h (by unfold BIG; omega)
/-! How much there is. -/
mutual
def szS : GStmt → Nat
 | .mk _ _ _ _ _ _ th el => 1 + szSs th + szSs el
def szSs : List GStmt → Nat
 | [] => 1
 | s :: l => 1 + szS s + szSs l
end
theorem szSs_mem {s : GStmt} : ∀ {l : List GStmt} {i : Nat}, l[i]? = some s → szS s < szSs l
 | [], i, h => by simp at h
 | t :: l, 0, h => by simp at h; subst h; simp [szSs]; omega
 | t :: l, i + 1, h => by
  have := szSs_mem (l := l) (i := i) (by simpa using h)
  simp [szSs]; omega

section
variable {l : List GTok} {en : Int}
/-- So many things for so many tokens. -/
theorem listF_len {X : Type} {one : PS → X → PS × X} (h1 : ∀ s x, Lt1 l s (one s x).1) (len : X → Nat) (h2 : ∀ s x, len (one s x).2 ≤ len x + 1) (end_ : List UInt8) :
  ∀ (n : Nat) (s : PS) (x : X), (listF l en one end_ n s x).1.ok = true → len (listF l en one end_ n s x).2 + s.at_ ≤ len x + (listF l en one end_ n s x).1.at_
 | 0, s, x => fun _ => by simp [listF]
 | n + 1, s, x => by
  unfold listF
  cases hs : s.ok with
  | false => intro h; simp only at h ⊢; exact Nat.le_refl _
  | true =>
   simp only
   cases h : isT l (one s x).1 end_ with
   | true =>
    intro hk
    have a := h2 s x
    obtain ⟨b1, b2, b3⟩ := adv_isT h hk
    obtain ⟨c1, c2, c3⟩ := h1 s x b1
    simp only at *
    omega
   | false =>
    intro hk
    have a := h2 s x
    have r := listF_len h1 len h2 end_ n _ _ hk
    obtain ⟨d1, d2, d3⟩ := listF_le h1 end_ n (need l en (one s x).1 [44]) (one s x).2 hk
    obtain ⟨b1, b2, b3⟩ := need_lt _ _ d1
    obtain ⟨c1, c2, c3⟩ := h1 s x b1
    simp only at *
    omega
theorem listP_len {X : Type} {one : PS → X → PS × X} (h1 : ∀ s x, Lt1 l s (one s x).1) (len : X → Nat) (h2 : ∀ s x, len (one s x).2 ≤ len x + 1) (end_ : List UInt8) (s : PS) (x : X)
  (hk : (listP l en one end_ s x).1.ok = true) (hs : s.at_ ≤ l.length) (hx : len x = 0) : len (listP l en one end_ s x).2 ≤ l.length := by
 have hle := listP_le (end_ := end_) h1 s x hk
 revert hk hle
 unfold listP
 cases h : isT l s end_ with
 | true => intro hk hle; simp only at *; omega
 | false =>
  intro hk hle
  have := listF_len (en := en) h1 len h2 end_ FN s x hk
  simp only at *; omega
theorem args_len (s : PS) (hk : (args l en s).1.ok = true) : (args l en s).2.length ≤ l.length := by
 unfold args at hk ⊢
 obtain ⟨d1, d2, d3⟩ := listP_le oneArg_lt _ _ _ hk
 obtain ⟨b1, b2, b3⟩ := need_lt _ _ d1
 exact listP_len oneArg_lt List.length (fun s x => by simp [oneArg]) _ _ _ hk b3 rfl
theorem names_len (s : PS) (hk : (names l en s).1.ok = true) : (names l en s).2.length ≤ l.length := by
 unfold names at hk ⊢
 obtain ⟨d1, d2, d3⟩ := listP_le oneName_lt _ _ _ hk
 obtain ⟨b1, b2, b3⟩ := need_lt _ _ d1
 exact listP_len oneName_lt List.length (fun s x => by simp [oneName]) _ _ _ hk b3 rfl
theorem propsP_len (s : PS) (hk : (propsP l en s).1.ok = true) : (propsP l en s).2.1.length ≤ l.length ∧ (propsP l en s).2.2.length ≤ l.length := by
 unfold propsP at hk ⊢
 obtain ⟨d1, d2, d3⟩ := listP_le oneProp_lt _ _ _ hk
 obtain ⟨b1, b2, b3⟩ := need_lt _ _ d1
 exact ⟨listP_len oneProp_lt (fun x => x.1.length) (fun s x => by simp [oneProp]) _ _ _ hk b3 rfl, listP_len oneProp_lt (fun x => x.2.length) (fun s x => by simp [oneProp]) _ _ _ hk b3 rfl⟩

variable (hl : l.length ≤ 549755813888)
include hl
theorem rest_fit (s : PS) (o : Opd) (hk : (rest l en s o).1.ok = true) : fitS (rest l en s o).2 = true := by
 revert hk
 unfold rest
 cases h : signOf l s arith with
 | some t => intro _; simp [fitS, fitSs, BIG]
 | none =>
  simp only
  cases h1 : decide (o.kind = 4) && isT l s [40] with
  | true => intro hk; exact fit_mk (big1 (Nat.le_trans (args_len _ hk) hl)) big0 big0 big0 rfl rfl
  | false =>
   simp only
   cases h2 : decide (o.kind = 4) && isT l s [46] with
   | true => intro _; simp [fitS, fitSs, BIG]
   | false => intro _; simp [fitS, fitSs, BIG]
theorem object_fit (s : PS) (hk : (object l en s).1.ok = true) : fitS (object l en s).2 = true := by
 unfold object at hk ⊢
 have := propsP_len s (protoP_lt _ hk).1
 refine fit_mk ?_ (big1 (by omega)) big0 big0 rfl rfl
 rw [List.length_append]; unfold BIG; simp only [List.length_cons, List.length_nil]; omega
theorem value_fit (s : PS) (hk : (value l en s).1.ok = true) : fitS (value l en s).2 = true := by
 revert hk
 unfold value
 cases h1 : isT l s tIn with
 | true => intro _; simp [fitS, fitSs, BIG]
 | false =>
 cases h2 : isT l s tCall with
 | true => intro hk; exact fit_mk (big1 (Nat.le_trans (args_len _ hk) hl)) big0 big0 big0 rfl rfl
 | false =>
 cases h3 : isT l s tNew with
 | true => intro hk; exact object_fit hl _ hk
 | false => intro hk; exact rest_fit hl _ _ hk
omit hl in
theorem setX_fit (s : GStmt) (x : List UInt8) : fitS (s.setX x) = fitS s := by cases s; rfl
theorem simple_fit (s : PS) (hk : (simple l en s).1.ok = true) : fitS (simple l en s).2 = true := by
 revert hk
 unfold simple
 cases h1 : isT l s tOut with
 | true => intro _; simp [fitS, fitSs, BIG]
 | false =>
 cases h2 : isT l s tReturn with
 | true => intro _; simp [fitS, fitSs, BIG]
 | false =>
 simp only
 unfold assign
 cases h3 : isT l (nameP l en s).1 [46] with
 | true => intro _; simp [fitS, fitSs, BIG]
 | false => intro hk; simp only [setX_fit]; exact value_fit hl _ hk
theorem blocks_fit : ∀ (n : Nat), (∀ s deep, (stmtF l en n s deep).1.ok = true → fitS (stmtF l en n s deep).2 = true) ∧
  (∀ s deep, (blockF l en n s deep).1.ok = true → fitSs (blockF l en n s deep).2 = true ∧ (blockF l en n s deep).2.length ≤ l.length) ∧
  (∀ s deep acc, (bodyF l en n s deep acc).1.ok = true → fitSs acc = true → fitSs (bodyF l en n s deep acc).2 = true ∧ (bodyF l en n s deep acc).2.length + s.at_ ≤ acc.length + (bodyF l en n s deep acc).1.at_) := by
 intro n
 induction n with
 | zero =>
  refine ⟨fun s _ h => ?_, fun s _ h => ?_, fun s _ _ h => ?_⟩
  ·have := pfail_bad (l := l) (en := en) s 0; unfold stmtF at h; rw [this] at h; cases h
  ·have := pfail_bad (l := l) (en := en) s 0; unfold blockF at h; rw [this] at h; cases h
  ·have := pfail_bad (l := l) (en := en) s 0; unfold bodyF at h; rw [this] at h; cases h
 | succ n ih =>
  obtain ⟨ih1, ih2, ih3⟩ := ih
  refine ⟨fun s deep => ?_, fun s deep => ?_, fun s deep acc => ?_⟩
  ·unfold stmtF
   cases starts l s with
   | false => intro h; simp only [pfail_bad] at h; cases h
   | true =>
   cases decide (2000 ≤ s.cnt) with
   | true => intro h; simp only [pfail_bad] at h; cases h
   | false =>
   cases h1 : isT l s tIf with
   | true =>
    simp only
    cases h3 : isT l (blockF l en n (operand l en s.count.adv).1 deep).1 tElse with
    | true =>
     intro hk
     obtain ⟨a1, a2⟩ := ih2 _ _ hk
     obtain ⟨b1, b2⟩ := ih2 _ _ (adv_isT h3 (blockF_lt _ _ _ hk).1).1
     exact fit_mk (by simp [BIG]) big0 (big1 (by omega)) (big1 (by omega)) b1 a1
    | false =>
     intro hk
     obtain ⟨b1, b2⟩ := ih2 _ _ hk
     exact fit_mk (by simp [BIG]) big0 (big1 (by omega)) big0 b1 rfl
   | false =>
   cases h2 : isT l s tWhile with
   | true =>
    intro hk
    obtain ⟨b1, b2⟩ := ih2 _ _ hk
    exact fit_mk (by simp [BIG]) big0 (big1 (by omega)) big0 b1 rfl
   | false =>
    intro hk
    exact simple_fit hl _ (need_lt _ _ hk).1
  ·unfold blockF
   cases isT l s [123] && decide (32 ≤ deep) with
   | true => intro h; simp only [pfail_bad] at h; cases h
   | false =>
    intro hk
    obtain ⟨a1, a2⟩ := ih3 _ _ _ hk rfl
    obtain ⟨b1, b2, b3⟩ := bodyF_lt _ _ _ _ hk
    refine ⟨a1, ?_⟩
    simp only [List.length_nil] at *
    omega
  ·unfold bodyF
   cases s.ok && !isT l s [125] with
   | true =>
    intro hk ha
    obtain ⟨b1, b2, b3⟩ := bodyF_lt _ _ _ _ hk
    obtain ⟨c1, c2, c3⟩ := stmtF_lt _ _ _ b1
    have hf := ih1 _ _ b1
    obtain ⟨a1, a2⟩ := ih3 _ _ _ hk (fitSs_app ha (by simp [fitSs, hf]))
    refine ⟨a1, ?_⟩
    simp only [List.length_append, List.length_cons, List.length_nil] at *
    omega
   | false =>
    intro hk ha
    obtain ⟨c1, c2, c3⟩ := need_lt _ _ hk
    exact ⟨ha, by simp only at *; omega⟩
theorem funcP_fit (s : PS) (hk : (funcP l en s).1.ok = true) : fitF (funcP l en s).2 = true := by
 unfold funcP at hk ⊢
 obtain ⟨a1, a2⟩ := (blocks_fit hl _).2.1 _ _ hk
 have := names_len _ (blockF_lt _ _ _ hk).1
 simp only [fitF, Bool.and_eq_true, decide_eq_true_eq]
 exact ⟨big1 (Nat.le_trans this hl), big1 (Nat.le_trans a2 hl), a1⟩
theorem progF_fit : ∀ (n : Nat) (s : PS) (acc : List GFunc), (progF l en n s acc).1.ok = true → acc.all fitF = true → acc.length ≤ s.at_ → s.at_ ≤ l.length → (progF l en n s acc).2.all fitF = true ∧ (progF l en n s acc).2.length ≤ l.length := by
 intro n
 induction n with
 | zero => intro s acc _ h h1 h2; exact ⟨h, by simp only [progF]; omega⟩
 | succ n ih =>
  intro s acc
  unfold progF
  cases h : (s.ok && decide (s.at_ < l.length)) with
  | false => intro _ h h1 h2; exact ⟨h, by simp only; omega⟩
  | true =>
   intro hk ha h1 h2
   have hko : (funcP l en s).1.ok = true := by
    by_cases hq : (funcP l en s).1.ok = true
    ·exact hq
    ·have hqf : (funcP l en s).1.ok = false := by simpa using hq
     exfalso
     revert hk
     simp only
     cases n with
     | zero => simp [progF, hqf]
     | succ n => simp [progF, hqf]
   obtain ⟨c1, c2, c3⟩ := funcP_lt _ hko
   refine ih _ _ hk ?_ ?_ c3
   ·rw [List.all_append, ha]; simp [funcP_fit hl _ hko]
   ·simp; omega
theorem readP_fit : fitP (readP l en).1 = true := by
 unfold readP
 cases h : (progF l en FN ⟨0, 0, none⟩ []).1.f with
 | some q => rfl
 | none =>
  obtain ⟨a1, a2⟩ := progF_fit (en := en) hl FN ⟨0, 0, none⟩ [] (by simp [PS.ok, h]) rfl (by simp) (by simp)
  simp only [fitP, a1, Bool.and_true, decide_eq_true_eq]
  exact big1 (Nat.le_trans a2 hl)
end
end Go.Proofs.YtghhkbigmmjanaaGreatDoor.VA

/-! Pc0 -/
namespace Go.Proofs.YtghhkbigmmjanaaGreatDoor.VA
open Go Go.RowKit
set_option linter.unusedSimpArgs false

/-! ### what a call leaves alone -/
/-- All but one box stays as it was. -/
def Adv (r : Nat) (H H' : Heap) : Prop := H.next ≤ H'.next ∧ ∀ k, k < H.next → k ≠ r → H'.ho k = H.ho k ∧ H'.isLive k = H.isLive k
theorem Adv.refl (r : Nat) (H : Heap) : Adv r H H := ⟨Nat.le_refl _, fun _ _ _ => ⟨rfl, rfl⟩⟩
theorem Adv.trans {r : Nat} {H H1 H2 : Heap} (h : Adv r H H1) (k : Adv r H1 H2) : Adv r H H2 :=
 ⟨Nat.le_trans h.1 k.1, fun x hx hr => ⟨(k.2 x (Nat.lt_of_lt_of_le hx h.1) hr).1.trans (h.2 x hx hr).1, (k.2 x (Nat.lt_of_lt_of_le hx h.1) hr).2.trans (h.2 x hx hr).2⟩⟩
theorem Adv.up {r : Nat} {H H1 : Heap} (h : Adv r H H1) (n : Nat) : Adv r H (H1.up n) := ⟨Nat.le_trans h.1 (Nat.le_add_right _ _), h.2⟩
theorem ho_put_ne (H : Heap) {b k : Nat} (cs : List AV) (h : b ≠ k) : (H.put b cs).ho k = H.ho k := by simp only [Heap.put, Heap.ho_set]; rw [if_neg h]
theorem Adv.put {r : Nat} {H H1 : Heap} (h : Adv r H H1) (cs : List AV) : Adv r H (H1.put r cs) :=
 ⟨h.1, fun k hk hr => ⟨by rw [ho_put_ne _ _ (Ne.symm hr)]; exact (h.2 k hk hr).1, (h.2 k hk hr).2⟩⟩
theorem Adv.new {r : Nat} {H H1 : Heap} (h : Adv r H H1) {b : Nat} (hb : H.next ≤ b) (cs : List AV) : Adv r H (H1.put b cs) :=
 ⟨h.1, fun k hk hr => ⟨by rw [ho_put_ne _ _ (by omega)]; exact (h.2 k hk hr).1, (h.2 k hk hr).2⟩⟩
theorem Adv.live {r : Nat} {H H1 : Heap} (h : Adv r H H1) {b : Nat} (hb : H.next ≤ b) (x : Bool) : Adv r H (H1.setLive b x) :=
 ⟨h.1, fun k hk hr => ⟨(h.2 k hk hr).1, by rw [Heap.isLive_setLive, if_neg (by omega)]; exact (h.2 k hk hr).2⟩⟩
theorem Adv.owns {r : Nat} {H H1 : Heap} (h : Adv r H H1) {o : Own} {b : Nat} (hb : H.next ≤ b) (ho : ∀ s e z, o = .own s e z → H.next ≤ s) : Adv r H (appU H1 (ownUs o b)) := by
 cases o with
 | own s e z => exact (h.live (ho s e z rfl) false).live hb true
 | nil => exact h.live hb true
 | sh => exact h.live hb true
 | ex => exact h.live hb true
theorem Adv.get {r : Nat} {H H' : Heap} (h : Adv r H H') {k : Nat} (hk : k < H.next) (hr : k ≠ r) : H'.get k = H.get k := by rw [Heap.get, Heap.get, (h.2 k hk hr).1]
theorem Adv.keeps {r : Nat} {H H' : Heap} (h : Adv r H H') {k : Nat} (hk : k < H.next) (hr : k ≠ r) : Keeps H H' k := ⟨(h.2 k hk hr).1.symm, (h.2 k hk hr).2.symm⟩
/-- What a function may append to in place is its own, and below a bound. -/
def OwnB (H : Heap) (o : Own) (e : TypeId) (sz lo : Nat) : Prop :=
 match o with
 | .nil => True
 | .own s e' z => e' = e ∧ z = sz ∧ H.isLive s = true ∧ lo ≤ s ∧ s < H.next
 | _ => False
theorem OwnB.ok {H : Heap} {o : Own} {e : TypeId} {sz lo : Nat} (h : OwnB H o e sz lo) : OwnOk H o e sz := by
 cases o with
 | nil => trivial
 | own s e' z => exact ⟨h.1, h.2.1, h.2.2.1⟩
 | sh => exact h.elim
 | ex => exact h.elim
theorem OwnB.lo {H : Heap} {o : Own} {e : TypeId} {sz lo : Nat} (h : OwnB H o e sz lo) : ∀ s e z, o = .own s e z → lo ≤ s := by
 rintro s e' z rfl
 exact h.2.2.2.1
theorem OwnB.adv {H H' : Heap} {o : Own} {e : TypeId} {sz lo r : Nat} (h : OwnB H o e sz lo) (a : Adv r H H') (hr : r < lo) : OwnB H' o e sz lo := by
 cases o with
 | nil => trivial
 | own s e' z =>
  obtain ⟨h1, h2, h3, h4, h5⟩ := h
  exact ⟨h1, h2, by rw [(a.2 s h5 (by omega)).2]; exact h3, h4, Nat.lt_of_lt_of_le h5 a.1⟩
 | sh => exact h.elim
 | ex => exact h.elim
theorem OwnB.nil (H : Heap) (e : TypeId) (sz lo : Nat) : OwnB H .nil e sz lo := trivial
/-- After appending. -/
theorem OwnB.app (H : Heap) (o : Own) (b : Nat) (e : TypeId) (sz lo : Nat) (h1 : lo ≤ b) (h2 : b < H.next) : OwnB (appU H (ownUs o b)) (.own b e sz) e sz lo :=
 ⟨rfl, rfl, by cases o <;> simp [ownUs, appU, U.app], h1, by rw [ownUs_next]; exact h2⟩
theorem OwnB.put {H : Heap} {o : Own} {e : TypeId} {sz lo : Nat} (h : OwnB H o e sz lo) (b : Nat) (cs : List AV) : OwnB (H.put b cs) o e sz lo := by
 cases o with
 | own s e' z => exact h
 | _ => exact h
theorem OwnB.up {H : Heap} {o : Own} {e : TypeId} {sz lo : Nat} (h : OwnB H o e sz lo) (n : Nat) : OwnB (H.up n) o e sz lo := by
 cases o with
 | own s e' z => exact ⟨h.1, h.2.1, h.2.2.1, h.2.2.2.1, Nat.lt_of_lt_of_le h.2.2.2.2 (Nat.le_add_right _ _)⟩
 | _ => exact h

/-! ### calls that may panic -/
/-- What a call comes to: a value, and what one box then holds; or a panic. -/
inductive Out where
 | ok (v : AV) (cs : List AV)
 | bad (v : AV)
def PCall (P : Program) (c : Cfg) (r : Nat) (f : FuncId) (args : List AV) (H : Heap) : Out → Prop
 | .ok v cs => ∃ H', calls P c f args H = some (.ret v H') ∧ H'.get r = some cs ∧ Adv r H H'
 | .bad v => ∃ H', calls P c f args H = some (.pan v H') ∧ Adv r H H'
def PQ (P : Program) (r : Nat) (rs : List ResultVar) (H0 : Heap) : Out → Post
 | .ok v cs => fun x e H => match x with
  | .nrm | .ret => (∃ vs, aResults P e H rs = some vs ∧ san (oneOr vs) = v) ∧ H.get r = some cs ∧ Adv r H0 H
  | _ => False
 | .bad v => fun x _ H => match x with
  | .pan u => san u = v ∧ Adv r H0 H
  | _ => False
section
variable {P : Program} {c : Cfg} {r : Nat} {rs : List ResultVar} {H0 H : Heap} {e : List AV} {v : AV} {cs : List AV}
@[go_sem] theorem PQ_nrm : PQ P r rs H0 (.ok v cs) .nrm e H = ((∃ vs, aResults P e H rs = some vs ∧ san (oneOr vs) = v) ∧ H.get r = some cs ∧ Adv r H0 H) := rfl
@[go_sem] theorem PQ_ret : PQ P r rs H0 (.ok v cs) .ret e H = ((∃ vs, aResults P e H rs = some vs ∧ san (oneOr vs) = v) ∧ H.get r = some cs ∧ Adv r H0 H) := rfl
@[go_sem] theorem PQ_pan {u : AV} : PQ P r rs H0 (.bad v) (.pan u) e H = (san u = v ∧ Adv r H0 H) := rfl
theorem PCall_of {f : FuncId} {fn : Func} {code : Code} {args : List AV} {q : Out} (ht : c.told f = none) (hf : c.fn f = some fn) (hi : c.imp f = true) (hb : fn.body = some code) (hn : Nat.ble args.length fn.ntmps = true)
  (h : W P c code [] args H (PQ P r fn.results.toList H q)) (htr : c.trim f = none := by rfl) : PCall P c r f args H q := by
 obtain ⟨x, e1, H1, hx, hq⟩ := h
 rw [Fin_nil] at hq
 have hn' := Nat.le_of_ble_eq_true hn
 cases q with
 | ok v cs =>
  have hx2 : x = .nrm ∨ x = .ret := by cases x <;> first | exact .inl rfl | exact .inr rfl | exact hq.elim
  have hq2 : (∃ vs, aResults P e1 H1 fn.results.toList = some vs ∧ san (oneOr vs) = v) ∧ H1.get r = some cs ∧ Adv r H H1 := by rcases hx2 with rfl | rfl <;> exact hq
  obtain ⟨⟨vs, hv, hs⟩, h2, h3⟩ := hq2
  obtain ⟨k, hk⟩ := runFn_of_XS hb hn' hx hx2 hv
  exact ⟨H1, calls_iff.2 ⟨k + 1, by simp only [call, ht, hf, hi, hk, htr, trimK, hs]⟩, h2, h3⟩
 | bad v =>
  cases x with
  | pan u =>
   obtain ⟨k, hk⟩ := runFn_of_pan hb hn' hx
   have hq' : san u = v ∧ Adv r H H1 := hq
   exact ⟨H1, calls_iff.2 ⟨k + 1, by simp only [call, ht, hf, hi, hk, htr, trimK, hq'.1]⟩, hq'.2⟩
  | nrm => exact hq.elim
  | ret => exact hq.elim
  | exit j => exact hq.elim
theorem PCall.ok {f : FuncId} {args : List AV} (h : PCall P c r f args H (.ok v cs)) : ∃ H', calls P c f args H = some (.ret v H') ∧ H'.get r = some cs ∧ Adv r H H' := h
theorem PCall.bad {f : FuncId} {args : List AV} (h : PCall P c r f args H (.bad v)) : ∃ H', calls P c f args H = some (.pan v H') ∧ Adv r H H' := h
variable {st : List Fr} {Q : Post} {ds : List (Option Tmp)} {base : Nat} {dst : Option Tmp} {os : List Oper} {i : Nat} {f : FuncId} {args : List AV}
theorem goC_ok (h : PCall P c r f args H (.ok v cs)) (k : ∀ H', H'.get r = some cs → Adv r H H' → WO P c ds base os i st (aput e dst v) H' Q) : goC P c (calls P c f args H) ds base dst os i st e Q := by
 obtain ⟨H', h1, h2, h3⟩ := h.ok
 rw [h1]; exact k H' h2 h3
theorem goC_bad (h : PCall P c r f args H (.bad v)) (k : ∀ H', Adv r H H' → Fin P c st (.pan v) e H' Q) : goC P c (calls P c f args H) ds base dst os i st e Q := by
 obtain ⟨H', h1, h2⟩ := h.bad
 rw [h1]; exact k H' h2
variable {un : List (Nat × Nat)} {dd : List (List Nat)} {tr : List Tr}
theorem eK_ok (hi : c.imp f = true) (h : PCall P c r f args H (.ok v cs)) (k : ∀ H', H'.get r = some cs → Adv r H H' → WE P c un ds dd base st Q os (i + 1) (tr ++ [.call v H H']) (aput e dst v) H') :
  eK P c (calls P c f args H) (c.imp f) un ds dd base st Q dst os i tr e H := by
 obtain ⟨H', h1, h2, h3⟩ := h.ok
 rw [h1, hi]; exact k H' h2 h3
theorem eK_bad (hi : c.imp f = true) (h : PCall P c r f args H (.bad v)) (k : ∀ H', Adv r H H' → WX P c un ds (gget [] dd i) base st v H' Q os (i + 1) (tr ++ [.pan]) e H) :
  eK P c (calls P c f args H) (c.imp f) un ds dd base st Q dst os i tr e H := by
 obtain ⟨H', h1, h2⟩ := h.bad
 rw [h1, hi]; exact k H' h2
end
end Go.Proofs.YtghhkbigmmjanaaGreatDoor.VA

/-! Vd1 -/
namespace Go.Proofs.YtghhkbigmmjanaaGreatDoor.VA
open Go Go.RowKit
set_option linter.unusedSimpArgs false

/-- All that lies in a world may be read. -/
def cellsIn (w : World) (b : Nat) : Nat :=
 match w.heap[b]? with
 | some (.cells vs _ _) => vs.size
 | _ => 0
def ghostC (C : Cond) (w : World) : Gh := { lo := w.heap.size, vis := cellsIn w, box := fun _ => none, own := fun _ => none, cond := C }
def ghost (w : World) : Gh := ghostC Cond.none w
theorem Rel.ghostC {g : Gh} {w : World} {x : AV} {v : Value} (h : Rel g w x v) (C : Cond) : g = ghost w → Rel (ghostC C w) w x v := by
 rintro rfl
 induction h with
 | bad v => exact .bad v
 | lit v => exact .lit v
 | nil => exact .nil
 | sl o es a n cap sz f ho hn hcap hex hown hsz h1 ha hr ih => exact .sl o es a n cap sz f ho hn hcap hex hown hsz h1 ha ih
 | ptr r off b h => exact .ptr r off b h
 | ep cs b off f hv hc hr ih => exact .ep cs b off f hv hc ih
 | fn fid caps vs hl hr ih => exact .fn fid caps vs hl ih
 | ifc t x v h ih => exact .ifc t x v ih
 | mp r b h => exact .mp r b h
 | agg cs vs hl hr ih => exact .agg cs vs hl ih
 | tup cs vs hl hr ih => exact .tup cs vs hl ih
theorem ghost_inv (C : Cond) (w : World) (h : C.holds w.heap.size w) : Inv (ghostC C w) Heap.empty w := by
 constructor
 ·exact Nat.le_refl _
 ·intro b hb
  show cellsIn w b = 0
  unfold cellsIn
  rw [Array.getElem?_eq_none hb]
 ·intro r b h; cases h
 ·intro r r' b h; cases h
 ·intro r cs h; simp at h
 ·intro s h; simp at h
 ·intro s s' b x y h; simp at h
 ·intro r ks vs h; simp at h
 ·exact h
theorem law_calls {P : Program} {C : Cond} {c : Cfg} (hc : CfgOk P C c) {f : FuncId} {args : List AV} {v : Value} {vs : Array Value} {w : World} (hC : C.holds w.heap.size w) (h : calls P c f args Heap.empty = some (.ret (.lit v) Heap.empty)) (hr : RelL (ghost w) w args vs.toList) :
  Calls P f vs w fun e w' => e = .returned v ∧ Below w.heap.size w w' := by
 obtain ⟨k, hk⟩ := calls_iff.1 h
 refine ((call_ok hc k).calls f args Heap.empty _ hk (ghostC C w) w vs rfl (ghost_inv C w hC) (fun r _ => ⟨rfl, rfl⟩) ⟨hr.1, fun i x v hx hv => (hr.2 i x v hx hv).ghostC C rfl⟩).2.mono ?_
 rintro e w' ⟨u, g', rfl, hp, hrel⟩
 have := hrel.lit_inv
 subst this
 exact ⟨rfl, hp.ext.os, hp.ext.tape, hp.ext.output, hp.ext.size, fun b hb => hp.ext.low b hb⟩
end Go.Proofs.YtghhkbigmmjanaaGreatDoor.VA
