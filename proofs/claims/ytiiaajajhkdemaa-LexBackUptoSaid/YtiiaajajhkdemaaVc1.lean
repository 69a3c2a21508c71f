/- What is proved: rules by which one shows what the abstract interpreter (VA) answers, code piece by code piece. No condition. -/
import Derived.Test.YtiiaajajhkdemaaVb9
namespace Go.Proofs.Ytiiaajajhkdemaa.VA
open Go Go.RowKit
set_option linter.unusedSimpArgs false

/-- What an exit is outside of a block. -/
def blk (id : Nat) : Ex → Ex
  | .exit j => if j = id then .nrm else .exit j
  | x => x
/-- Big steps, without fuel. -/
inductive XS (P : Program) (c : Cfg) : Code → List AV → Heap → Ex → List AV → Heap → Prop
  | skip (e H) : XS P c .skip e H .nrm e H
  | label (s e H) : XS P c (.label s) e H .nrm e H
  | region {id ops e H x e1 H1} (h : runOps P (calls P c) ops H.next ops.toList 0 e { H with next := H.next + ops.size } = some (x, e1, H1)) : XS P c (.region id ops false) e H x e1 H1
  | draw {id ops e H tr e1 H1} (h : runTr P (calls P c) c.imp ops H.next ops.toList 0 none e { H with next := H.next + ops.size } = some (tr, none, e1, H1)) (ht : TrOk ops tr) : XS P c (.region id ops true) e H .nrm e1 H1
  | seqN {a b e H e1 H1 x e2 H2} (h : XS P c a e H .nrm e1 H1) (k : XS P c b e1 H1 x e2 H2) : XS P c (.seq a b) e H x e2 H2
  | seqX {a b e H x e1 H1} (h : XS P c a e H x e1 H1) (hx : x ≠ .nrm) : XS P c (.seq a b) e H x e1 H1
  | condT {t a b e H x e1 H1} (ht : aeval e t = .lit (.bool true)) (h : XS P c a e H x e1 H1) : XS P c (.cond t a b) e H x e1 H1
  | condF {t a b e H x e1 H1} (ht : aeval e t = .lit (.bool false)) (h : XS P c b e H x e1 H1) : XS P c (.cond t a b) e H x e1 H1
  | block {id a e H x e1 H1} (h : XS P c a e H x e1 H1) : XS P c (.block id a) e H (blk id x) e1 H1
  | loopN {a e H e1 H1 x e2 H2} (h : XS P c a e H .nrm e1 H1) (k : XS P c (.loop a) e1 H1 x e2 H2) : XS P c (.loop a) e H x e2 H2
  | loopX {a e H x e1 H1} (h : XS P c a e H x e1 H1) (hx : x ≠ .nrm) : XS P c (.loop a) e H x e1 H1
  | exit (id e H) : XS P c (.exit id) e H (.exit id) e H
  | scope {a e H x e1 H1} (h : XS P c a e H x e1 H1) : XS P c (.scope a) e H x e1 H1
  | ret (e H) : XS P c .ret e H .ret e H
theorem KLe.refl (K : Calling) : KLe K K := fun _ _ _ _ h => h
theorem XS.exec {P : Program} {c : Cfg} {cd : Code} {e : List AV} {H : Heap} {x : Ex} {e1 : List AV} {H1 : Heap} (h : XS P c cd e H x e1 H1) : ∃ k, exec P (calls P c) c.imp k cd e H = some (x, e1, H1) := by
  have up : ∀ {cd : Code} {e : List AV} {H : Heap} {r : Ex × List AV × Heap} {k : Nat} (k' : Nat), k ≤ k' → VA.exec P (calls P c) c.imp k cd e H = some r → VA.exec P (calls P c) c.imp k' cd e H = some r :=
    fun k' hk h => exec_mono (KLe.refl _) _ _ _ _ _ h k' hk
  induction h with
  | skip e H => exact ⟨1, rfl⟩
  | label s e H => exact ⟨1, rfl⟩
  | region h => exact ⟨1, by simpa [VA.exec, runRegion] using h⟩
  | draw h ht => exact ⟨1, by simp [VA.exec, runRegion, h, ht]⟩
  | seqN h k ih ik =>
    obtain ⟨m, hm⟩ := ih
    obtain ⟨n, hn⟩ := ik
    refine ⟨max m n + 1, ?_⟩
    simp only [VA.exec]
    rw [up _ (Nat.le_max_left m n) hm]
    exact up _ (Nat.le_max_right m n) hn
  | seqX h hx ih =>
    obtain ⟨m, hm⟩ := ih
    refine ⟨m + 1, ?_⟩
    simp only [VA.exec]
    rw [hm]
    split
    · rename_i hh; simp at hh; exact absurd hh.1 hx
    · rfl
  | condT ht h ih =>
    obtain ⟨m, hm⟩ := ih
    exact ⟨m + 1, by simp only [VA.exec]; rw [ht]; exact hm⟩
  | condF ht h ih =>
    obtain ⟨m, hm⟩ := ih
    exact ⟨m + 1, by simp only [VA.exec]; rw [ht]; exact hm⟩
  | @block id a e H x e1 H1 h ih =>
    obtain ⟨m, hm⟩ := ih
    refine ⟨m + 1, ?_⟩
    simp only [VA.exec]
    rw [hm]
    cases x with
    | exit j =>
      simp only [blk]
      by_cases hj : j = id
      · simp [hj]
      · simp [hj]
    | _ => rfl
  | loopN h k ih ik =>
    obtain ⟨m, hm⟩ := ih
    obtain ⟨n, hn⟩ := ik
    refine ⟨max m n + 1, ?_⟩
    simp only [VA.exec]
    rw [up _ (Nat.le_max_left m n) hm]
    exact up _ (Nat.le_max_right m n) hn
  | loopX h hx ih =>
    obtain ⟨m, hm⟩ := ih
    refine ⟨m + 1, ?_⟩
    simp only [VA.exec]
    rw [hm]
    split
    · rename_i hh; simp at hh; exact absurd hh.1 hx
    · rfl
  | exit id e H => exact ⟨1, rfl⟩
  | scope h ih =>
    obtain ⟨m, hm⟩ := ih
    exact ⟨m + 1, by simp only [VA.exec]; exact hm⟩
  | ret e H => exact ⟨1, rfl⟩

/-! ### what comes after -/
inductive Fr where
  | sq (b : Code)
  | bl (id : Nat)
  | lp (a : Code)
abbrev Post := Ex → List AV → Heap → Prop
/-- From a piece's end to the whole's end. -/
def Fin (P : Program) (c : Cfg) : List Fr → Ex → List AV → Heap → Post → Prop
  | [], x, e, H, Q => Q x e H
  | .sq b :: st, .nrm, e, H, Q => ∃ x e1 H1, XS P c b e H x e1 H1 ∧ Fin P c st x e1 H1 Q
  | .sq _ :: st, x, e, H, Q => Fin P c st x e H Q
  | .bl id :: st, x, e, H, Q => Fin P c st (blk id x) e H Q
  | .lp a :: st, .nrm, e, H, Q => ∃ x e1 H1, XS P c (.loop a) e H x e1 H1 ∧ Fin P c st x e1 H1 Q
  | .lp _ :: st, x, e, H, Q => Fin P c st x e H Q
def W (P : Program) (c : Cfg) (cd : Code) (st : List Fr) (e : List AV) (H : Heap) (Q : Post) : Prop := ∃ x e1 H1, XS P c cd e H x e1 H1 ∧ Fin P c st x e1 H1 Q
section
variable {P : Program} {c : Cfg} {st : List Fr} {e : List AV} {H : Heap} {Q : Post}
theorem Fin_nil {x : Ex} : Fin P c [] x e H Q = Q x e H := by simp only [Fin]
theorem Fin_sq {b : Code} : Fin P c (.sq b :: st) .nrm e H Q = W P c b st e H Q := rfl
theorem Fin_sq_exit {b : Code} {j : Nat} : Fin P c (.sq b :: st) (.exit j) e H Q = Fin P c st (.exit j) e H Q := rfl
theorem Fin_sq_ret {b : Code} : Fin P c (.sq b :: st) .ret e H Q = Fin P c st .ret e H Q := rfl
theorem Fin_sq_pan {b : Code} {v : AV} : Fin P c (.sq b :: st) (.pan v) e H Q = Fin P c st (.pan v) e H Q := rfl
theorem Fin_lp {b : Code} : Fin P c (.lp b :: st) .nrm e H Q = W P c (.loop b) st e H Q := rfl
theorem Fin_lp_exit {b : Code} {j : Nat} : Fin P c (.lp b :: st) (.exit j) e H Q = Fin P c st (.exit j) e H Q := rfl
theorem Fin_lp_ret {b : Code} : Fin P c (.lp b :: st) .ret e H Q = Fin P c st .ret e H Q := rfl
theorem Fin_lp_pan {b : Code} {v : AV} : Fin P c (.lp b :: st) (.pan v) e H Q = Fin P c st (.pan v) e H Q := rfl
theorem Fin_bl {id : Nat} : Fin P c (.bl id :: st) .nrm e H Q = Fin P c st .nrm e H Q := by simp only [Fin, blk]
theorem Fin_bl_ret {id : Nat} : Fin P c (.bl id :: st) .ret e H Q = Fin P c st .ret e H Q := by simp only [Fin, blk]
theorem Fin_bl_pan {id : Nat} {v : AV} : Fin P c (.bl id :: st) (.pan v) e H Q = Fin P c st (.pan v) e H Q := by simp only [Fin, blk]
theorem Fin_bl_exit {id : Nat} : Fin P c (.bl id :: st) (.exit id) e H Q = Fin P c st .nrm e H Q := by simp only [Fin, blk, if_true]
theorem Fin_bl_other {id j : Nat} (h : (j == id) = false) : Fin P c (.bl id :: st) (.exit j) e H Q = Fin P c st (.exit j) e H Q := by
  simp only [Fin, blk]; rw [if_neg (by simpa using h)]
theorem W_skip : W P c .skip st e H Q = Fin P c st .nrm e H Q := propext
  ⟨fun ⟨_, _, _, h, k⟩ => by cases h; exact k, fun h => ⟨_, _, _, .skip e H, h⟩⟩
theorem W_label {s : Nat} : W P c (.label s) st e H Q = Fin P c st .nrm e H Q := propext
  ⟨fun ⟨_, _, _, h, k⟩ => by cases h; exact k, fun h => ⟨_, _, _, .label s e H, h⟩⟩
theorem W_exit {id : Nat} : W P c (.exit id) st e H Q = Fin P c st (.exit id) e H Q := propext
  ⟨fun ⟨_, _, _, h, k⟩ => by cases h; exact k, fun h => ⟨_, _, _, .exit id e H, h⟩⟩
theorem W_ret : W P c .ret st e H Q = Fin P c st .ret e H Q := propext
  ⟨fun ⟨_, _, _, h, k⟩ => by cases h; exact k, fun h => ⟨_, _, _, .ret e H, h⟩⟩
theorem W_scope {a : Code} : W P c (.scope a) st e H Q = W P c a st e H Q := propext
  ⟨fun ⟨_, _, _, h, k⟩ => by cases h with | scope h => exact ⟨_, _, _, h, k⟩, fun ⟨_, _, _, h, k⟩ => ⟨_, _, _, .scope h, k⟩⟩
theorem W_seq {a b : Code} : W P c (.seq a b) st e H Q = W P c a (.sq b :: st) e H Q := propext
  ⟨fun ⟨x, _, _, h, k⟩ => by
    cases h with
    | seqN h1 h2 => exact ⟨_, _, _, h1, _, _, _, h2, k⟩
    | seqX h1 hx => exact ⟨_, _, _, h1, by cases x <;> first | exact k | exact absurd rfl hx⟩,
   fun ⟨x, _, _, h, k⟩ => by
    cases x with
    | nrm => obtain ⟨_, _, _, h2, k2⟩ := k; exact ⟨_, _, _, .seqN h h2, k2⟩
    | _ => exact ⟨_, _, _, .seqX h (by simp), k⟩⟩
theorem W_block {id : Nat} {a : Code} : W P c (.block id a) st e H Q = W P c a (.bl id :: st) e H Q := propext
  ⟨fun ⟨x, _, _, h, k⟩ => by
    cases h with
    | block h => exact ⟨_, _, _, h, by simp only [Fin]; exact k⟩,
   fun ⟨x, _, _, h, k⟩ => ⟨_, _, _, .block h, by simp only [Fin] at k; exact k⟩⟩
theorem W_loop {a : Code} : W P c (.loop a) st e H Q = W P c a (.lp a :: st) e H Q := propext
  ⟨fun ⟨x, _, _, h, k⟩ => by
    cases h with
    | loopN h1 h2 => exact ⟨_, _, _, h1, _, _, _, h2, k⟩
    | loopX h1 hx => exact ⟨_, _, _, h1, by cases x <;> first | exact k | exact absurd rfl hx⟩,
   fun ⟨x, _, _, h, k⟩ => by
    cases x with
    | nrm => obtain ⟨_, _, _, h2, k2⟩ := k; exact ⟨_, _, _, .loopN h h2, k2⟩
    | _ => exact ⟨_, _, _, .loopX h (by simp), k⟩⟩
/-- A loop, by what falls from round to round. -/
theorem W_loop_ind {a : Code} (I : Nat → List AV → Heap → Prop) (n : Nat) (h0 : I n e H)
    (step : ∀ n, (∀ m, m < n → ∀ e H, I m e H → W P c (.loop a) st e H Q) → ∀ e H, I n e H → W P c a (.lp a :: st) e H Q) : W P c (.loop a) st e H Q := by
  induction n using Nat.strongRecOn generalizing e H with
  | ind n ih =>
    rw [W_loop]
    exact step n (fun m hm e H hI => ih m hm hI) e H h0
def goB (P : Program) (c : Cfg) (v : AV) (a b : Code) (st : List Fr) (e : List AV) (H : Heap) (Q : Post) : Prop :=
  match v with
  | .lit (.bool true) => W P c a st e H Q
  | .lit (.bool false) => W P c b st e H Q
  | _ => False
theorem W_cond {t : Operand} {a b : Code} : W P c (.cond t a b) st e H Q = goB P c (aeval e t) a b st e H Q := propext
  ⟨fun ⟨x, _, _, h, k⟩ => by
    cases h with
    | condT ht h => rw [ht]; exact ⟨_, _, _, h, k⟩
    | condF ht h => rw [ht]; exact ⟨_, _, _, h, k⟩,
   fun h => by
    unfold goB at h
    split at h
    · rename_i ht; obtain ⟨_, _, _, h1, k⟩ := h; exact ⟨_, _, _, .condT ht h1, k⟩
    · rename_i ht; obtain ⟨_, _, _, h1, k⟩ := h; exact ⟨_, _, _, .condF ht h1, k⟩
    · exact h.elim⟩
theorem goB_true {a b : Code} : goB P c (.lit (.bool true)) a b st e H Q = W P c a st e H Q := rfl
theorem goB_false {a b : Code} : goB P c (.lit (.bool false)) a b st e H Q = W P c b st e H Q := rfl

/-! ### regions whose order is the text's -/
def dsts (ops : Array Oper) : List (Option Tmp) := ops.toList.map (·.dst)
theorem dsts_get {ops : Array Oper} (j : Nat) : (ops[j]?).bind (·.dst) = gget none (dsts ops) j := by
  have h : ∀ (l : List Oper) (j : Nat), (l[j]?).bind (·.dst) = gget none (l.map (·.dst)) j := by
    intro l
    induction l with
    | nil => intro j; simp [gget]
    | cons x l ih => intro j; cases j with | zero => simp [gget] | succ j => simpa [gget] using ih j
  have := h ops.toList j
  simpa [dsts] using this
def WO (P : Program) (c : Cfg) (ds : List (Option Tmp)) (base : Nat) (os : List Oper) (i : Nat) (st : List Fr) (e : List AV) (H : Heap) (Q : Post) : Prop :=
  ∃ ops, dsts ops = ds ∧ ∃ x e1 H1, runOps P (calls P c) ops base os i e H = some (x, e1, H1) ∧ Fin P c st x e1 H1 Q
theorem aWanted_ds {ops ops' : Array Oper} (h : dsts ops = dsts ops') (e : List AV) (o : Oper) : aWanted ops e o = aWanted ops' e o := by
  unfold aWanted
  split
  · rfl
  · rw [dsts_get, dsts_get, h]
theorem runOps_ds {K : Calling} {ops ops' : Array Oper} (h : dsts ops = dsts ops') {base : Nat} : ∀ (os : List Oper) (i : Nat) (e : List AV) (H : Heap), runOps P K ops base os i e H = runOps P K ops' base os i e H := by
  intro os
  induction os with
  | nil => intro i e H; rfl
  | cons o os ih =>
    intro i e H
    simp only [runOps, aWanted_ds h e o, ih]
def Heap.up (H : Heap) (n : Nat) : Heap := { H with next := H.next + n }
theorem W_region {id : Nat} {ops : Array Oper} : W P c (.region id ops false) st e H Q = WO P c (dsts ops) H.next ops.toList 0 st e (H.up ops.size) Q := propext
  ⟨fun ⟨x, _, _, h, k⟩ => by
    cases h with
    | region h => exact ⟨ops, rfl, _, _, _, h, k⟩,
   fun ⟨ops', hd, x, _, _, h, k⟩ => ⟨_, _, _, .region (by rw [← runOps_ds hd]; exact h), k⟩⟩
def goC (P : Program) (c : Cfg) (r : Option CR) (ds : List (Option Tmp)) (base : Nat) (dst : Option Tmp) (os : List Oper) (i : Nat) (st : List Fr) (e : List AV) (Q : Post) : Prop :=
  match r with
  | some (.ret v H) => WO P c ds base os i st (aput e dst v) H Q
  | some (.pan v H) => Fin P c st (.pan v) e H Q
  | none => False
def goS (P : Program) (c : Cfg) (r : Option Sr) (ds : List (Option Tmp)) (base : Nat) (dst : Option Tmp) (os : List Oper) (i : Nat) (st : List Fr) (e : List AV) (H : Heap) (Q : Post) : Prop :=
  match r with
  | some (.val v us _) => WO P c ds base os i st (aput e dst v) (appU H us) Q
  | some (.pan v) => Fin P c st (.pan v) e H Q
  | some (.call f args) => goC P c (calls P c f args H) ds base dst os i st e Q
  | none => False
def goW (P : Program) (c : Cfg) (r : Option Bool) (op : Op) (ds : List (Option Tmp)) (base : Nat) (dst : Option Tmp) (os : List Oper) (i : Nat) (st : List Fr) (e : List AV) (H : Heap) (Q : Post) : Prop :=
  match r with
  | some true => goS P c (astep P (aeval e) H (base + i) op) ds base dst os (i + 1) st e H Q
  | some false => WO P c ds base os (i + 1) st (aput e dst (.tup [])) H Q
  | none => False
theorem WO_nil' {ds : List (Option Tmp)} {base i : Nat} (h : ∃ ops, dsts ops = ds) : WO P c ds base [] i st e H Q = Fin P c st .nrm e H Q := propext
  ⟨fun ⟨_, _, x, _, _, h, k⟩ => by simp [runOps] at h; obtain ⟨rfl, rfl, rfl⟩ := h; exact k, fun k => let ⟨ops, hd⟩ := h; ⟨ops, hd, _, _, _, rfl, k⟩⟩
theorem dsts_all (ds : List (Option Tmp)) : ∃ ops, dsts ops = ds :=
  ⟨(ds.map fun d => { (default : Oper) with dst := d }).toArray, by simp [dsts, Function.comp_def]⟩
theorem WO_nil {ds : List (Option Tmp)} {base i : Nat} : WO P c ds base [] i st e H Q = Fin P c st .nrm e H Q := WO_nil' (dsts_all ds)
theorem WO_cons {ops : Array Oper} {base i : Nat} {o : Oper} {os : List Oper} :
    WO P c (dsts ops) base (o :: os) i st e H Q = goW P c (aWanted ops e o) o.op (dsts ops) base o.dst os i st e H Q := by
  have key : ∀ (i : Nat) (e : List AV) (H : Heap), WO P c (dsts ops) base os i st e H Q = ∃ x e1 H1, runOps P (calls P c) ops base os i e H = some (x, e1, H1) ∧ Fin P c st x e1 H1 Q := by
    intro i e H
    exact propext ⟨fun ⟨ops', hd, x, e1, H1, h, k⟩ => ⟨x, e1, H1, by rw [← runOps_ds hd]; exact h, k⟩, fun ⟨x, e1, H1, h, k⟩ => ⟨ops, rfl, x, e1, H1, h, k⟩⟩
  have key0 : WO P c (dsts ops) base (o :: os) i st e H Q = ∃ x e1 H1, runOps P (calls P c) ops base (o :: os) i e H = some (x, e1, H1) ∧ Fin P c st x e1 H1 Q :=
    propext ⟨fun ⟨ops', hd, x, e1, H1, h, k⟩ => ⟨x, e1, H1, by rw [← runOps_ds hd]; exact h, k⟩, fun ⟨x, e1, H1, h, k⟩ => ⟨ops, rfl, x, e1, H1, h, k⟩⟩
  rw [key0]
  unfold goW
  simp only [runOps]
  cases aWanted ops e o with
  | none => simp
  | some b =>
    cases b with
    | false => simp only [key]
    | true =>
      simp only [goS]
      cases astep P (aeval e) H (base + i) o.op with
      | none => simp
      | some sr =>
        cases sr with
        | val v us rs => simp only [key]
        | pan v => exact propext ⟨fun ⟨_, _, _, h, k⟩ => by simp at h; obtain ⟨rfl, rfl, rfl⟩ := h; exact k, fun k => ⟨_, _, _, rfl, k⟩⟩
        | call f args =>
          simp only [goC]
          cases calls P c f args H with
          | none => simp
          | some cr =>
            cases cr with
            | ret v H' => simp only [key]
            | pan v H' => exact propext ⟨fun ⟨_, _, _, h, k⟩ => by simp at h; obtain ⟨rfl, rfl, rfl⟩ := h; exact k, fun k => ⟨_, _, _, rfl, k⟩⟩
/-- A guard's word. -/
def goG (P : Program) (c : Cfg) (v : AV) (want : Bool) (op : Op) (ds : List (Option Tmp)) (base : Nat) (dst : Option Tmp) (os : List Oper) (i : Nat) (st : List Fr) (e : List AV) (H : Heap) (Q : Post) : Prop :=
  match v with
  | .lit (.bool b) => goW P c (some (b == want)) op ds base dst os i st e H Q
  | .tup [] => goW P c (some false) op ds base dst os i st e H Q
  | _ => False
def goD (P : Program) (c : Cfg) (d : Option Tmp) (want : Bool) (op : Op) (ds : List (Option Tmp)) (base : Nat) (dst : Option Tmp) (os : List Oper) (i : Nat) (st : List Fr) (e : List AV) (H : Heap) (Q : Post) : Prop :=
  match d with
  | some d => goG P c (gget .bad e d) want op ds base dst os i st e H Q
  | none => goW P c (some false) op ds base dst os i st e H Q
variable {op : Op} {ds : List (Option Tmp)} {base i : Nat} {dst : Option Tmp} {os : List Oper}
theorem WO_plain {type : TypeId} {pos : String} {after : Array Edge} :
    WO P c ds base ({ dst, op, type, pos, after, guard := none } :: os) i st e H Q = goS P c (astep P (aeval e) H (base + i) op) ds base dst os (i + 1) st e H Q := by
  obtain ⟨ops, rfl⟩ := dsts_all ds
  rw [WO_cons]; rfl
theorem WO_guard {j : Nat} {want : Bool} {type : TypeId} {pos : String} {after : Array Edge} :
    WO P c ds base ({ dst, op, type, pos, after, guard := some (j, want) } :: os) i st e H Q = goD P c (gget none ds j) want op ds base dst os i st e H Q := by
  obtain ⟨ops, rfl⟩ := dsts_all ds
  rw [WO_cons]
  simp only [aWanted, dsts_get, goD]
  cases gget none (dsts ops) j with
  | none => rfl
  | some d =>
    simp only [goG]
    split <;> rename_i hv <;> simp [hv, goW]
theorem goD_some {d : Tmp} {want : Bool} : goD P c (some d) want op ds base dst os i st e H Q = goG P c (gget .bad e d) want op ds base dst os i st e H Q := rfl
theorem goG_tt : goG P c (.lit (.bool true)) true op ds base dst os i st e H Q = goS P c (astep P (aeval e) H (base + i) op) ds base dst os (i + 1) st e H Q := rfl
theorem goG_ff : goG P c (.lit (.bool false)) false op ds base dst os i st e H Q = goS P c (astep P (aeval e) H (base + i) op) ds base dst os (i + 1) st e H Q := rfl
theorem goG_tf : goG P c (.lit (.bool true)) false op ds base dst os i st e H Q = WO P c ds base os (i + 1) st (aput e dst (.tup [])) H Q := rfl
theorem goG_ft : goG P c (.lit (.bool false)) true op ds base dst os i st e H Q = WO P c ds base os (i + 1) st (aput e dst (.tup [])) H Q := rfl
theorem goG_tup {want : Bool} : goG P c (.tup []) want op ds base dst os i st e H Q = WO P c ds base os (i + 1) st (aput e dst (.tup [])) H Q := rfl
theorem goS_val {v : AV} {us : List U} {rs : List Nat} : goS P c (some (.val v us rs)) ds base dst os i st e H Q = WO P c ds base os i st (aput e dst v) (appU H us) Q := rfl
theorem goS_pan {v : AV} : goS P c (some (.pan v)) ds base dst os i st e H Q = Fin P c st (.pan v) e H Q := rfl
theorem goS_call {f : FuncId} {args : List AV} : goS P c (some (.call f args)) ds base dst os i st e H Q = goC P c (calls P c f args H) ds base dst os i st e Q := rfl
theorem goC_ret {v : AV} : goC P c (some (.ret v H)) ds base dst os i st e Q = WO P c ds base os i st (aput e dst v) H Q := rfl
theorem goC_pan {v : AV} : goC P c (some (.pan v H)) ds base dst os i st e Q = Fin P c st (.pan v) e H Q := rfl

end

/-! ### regions that draw their order -/
section
variable {P : Program} {c : Cfg}
theorem runTr_some {K : Calling} {imp : FuncId → Bool} {ops : Array Oper} {base : Nat} : ∀ (os : List Oper) (i : Nat) (x : Nat × AV × Heap) (e : List AV) (H : Heap) (r : List Tr × Option (Nat × AV × Heap) × List AV × Heap),
    runTr P K imp ops base os i (some x) e H = some r → ∃ y, r.2.1 = some y := by
  intro os
  induction os with
  | nil => intro i x e H r h; simp [runTr] at h; subst h; exact ⟨x, rfl⟩
  | cons o os ih =>
    intro i x e H r h
    have next : ∀ {x : Nat × AV × Heap} {e : List AV} {H : Heap} {t0 : Tr},
        (match runTr P K imp ops base os (i + 1) (some x) e H with | some (tr, r) => some (t0 :: tr, r) | none => none) = some r → ∃ y, r.2.1 = some y := by
      intro x e H t0 h
      cases hr : runTr P K imp ops base os (i + 1) (some x) e H with
      | none => rw [hr] at h; cases h
      | some q => rw [hr] at h; simp at h; obtain ⟨y, hy⟩ := ih _ _ _ _ _ hr; exact ⟨y, by rw [← h]; exact hy⟩
    simp only [runTr] at h
    split at h
    · exact next h
    · split at h
      · cases h
      · exact next h
      · split at h
        · cases h
        · split at h
          · cases h
          · exact next h
        · simp at h
        · split at h
          · simp at h
          · split at h
            · exact next h
            · cases h
/-- One step of a region that draws its order, as long as nothing panics. -/
noncomputable def trStep (P : Program) (c : Cfg) (r : Option Sr) (H : Heap) : Option (Tr × AV × Heap) :=
  match r with
  | some (.val v us rs) => some (.val v us rs, v, appU H us)
  | some (.call f args) =>
    match c.imp f with
    | true =>
      match calls P c f args H with
      | some (.ret v H') => some (.call v H H', v, H')
      | _ => none
    | false =>
      match calls P c f args H with
      | some (.ret v _) => some (.val v [] [], v, H)
      | _ => none
  | _ => none
def gword (ds : List (Option Tmp)) (e : List AV) (g : Option (Nat × Bool)) : Option Bool :=
  match g with
  | none => some true
  | some (j, want) =>
    match gget none ds j with
    | some d =>
      match gget .bad e d with
      | .lit (.bool b) => some (b == want)
      | .tup [] => some false
      | _ => none
    | none => some false
theorem aWanted_gword (ops : Array Oper) (e : List AV) (o : Oper) : aWanted ops e o = gword (dsts ops) e o.guard := by
  unfold aWanted gword
  cases o.guard with
  | none => rfl
  | some g =>
    obtain ⟨j, want⟩ := g
    simp only [dsts_get]
    cases gget none (dsts ops) j with
    | none => rfl
    | some d => rfl
/-- The run of such a region. -/
noncomputable def runD (P : Program) (c : Cfg) (ds : List (Option Tmp)) (base : Nat) : List Oper → Nat → List AV → Heap → Option (List Tr × List AV × Heap)
  | [], _, e, H => some ([], e, H)
  | o :: os, i, e, H =>
    match gword ds e o.guard with
    | none => none
    | some false =>
      match runD P c ds base os (i + 1) (aput e o.dst (.tup [])) H with
      | some (tr, r) => some (.val (.tup []) [] [] :: tr, r)
      | none => none
    | some true =>
      match trStep P c (astep P (aeval e) H (base + i) o.op) H with
      | none => none
      | some (t, v, H') =>
        match runD P c ds base os (i + 1) (aput e o.dst v) H' with
        | some (tr, r) => some (t :: tr, r)
        | none => none
theorem runD_runTr {ops : Array Oper} {base : Nat} : ∀ (os : List Oper) (i : Nat) (e : List AV) (H : Heap) (tr : List Tr) (e1 : List AV) (H1 : Heap),
    runD P c (dsts ops) base os i e H = some (tr, e1, H1) → runTr P (calls P c) c.imp ops base os i none e H = some (tr, none, e1, H1) := by
  intro os
  induction os with
  | nil => intro i e H tr e1 H1 h; simp [runD] at h; obtain ⟨rfl, rfl, rfl⟩ := h; rfl
  | cons o os ih =>
    intro i e H tr e1 H1 h
    have next : ∀ {i : Nat} {e : List AV} {H : Heap} {t0 : Tr},
        (match runD P c (dsts ops) base os i e H with | some (tr, r) => some (t0 :: tr, r) | none => none) = some (tr, e1, H1) →
        (match runTr P (calls P c) c.imp ops base os i none e H with | some (tr, r) => some (t0 :: tr, r) | none => none) = some (tr, none, e1, H1) := by
      intro i e H t0 h
      cases hr : runD P c (dsts ops) base os i e H with
      | none => rw [hr] at h; cases h
      | some q =>
        obtain ⟨tq, eq, Hq⟩ := q
        rw [hr] at h
        rw [ih _ _ _ _ _ _ hr]
        simp at h
        obtain ⟨rfl, rfl, rfl⟩ := h
        rfl
    simp only [runD] at h
    simp only [runTr, behind, Bool.false_eq_true, if_false, aWanted_gword]
    split at h
    · cases h
    · rename_i hw
      rw [hw]
      exact next h
    · rename_i hw
      rw [hw]
      simp only
      cases hs : astep P (aeval e) H (base + i) o.op with
      | none => simp [hs, trStep] at h
      | some sr =>
        rw [hs] at h
        cases sr with
        | val v us rs =>
          simp only [trStep] at h
          simp only [Option.isSome_none, Bool.false_eq_true, false_and, if_false]
          exact next h
        | pan v => simp [trStep] at h
        | call f args =>
          simp only [trStep] at h
          cases hi : c.imp f with
          | true =>
            simp only [hi] at h
            simp only [hi, if_true, Option.isSome_none, Bool.false_eq_true, if_false]
            cases hc : calls P c f args H with
            | none => simp [hc] at h
            | some cr =>
              cases cr with
              | pan v H' => simp [hc] at h
              | ret v H' =>
                simp only [hc] at h
                simp only
                exact next h
          | false =>
            simp only [hi] at h
            simp only [hi, Bool.false_eq_true, if_false]
            cases hc : calls P c f args H with
            | none => simp [hc] at h
            | some cr =>
              cases cr with
              | pan v H' => simp [hc] at h
              | ret v H' =>
                simp only [hc] at h
                simp only
                exact next h
variable {st : List Fr} {e : List AV} {H : Heap} {Q : Post}
def AllOk (un : List (Nat × Nat)) (tr : List Tr) : Prop := ∀ p ∈ un, NoConf (tr.getD p.1 .dead) (tr.getD p.2 .dead)
def WD (P : Program) (c : Cfg) (un : List (Nat × Nat)) (ds : List (Option Tmp)) (base : Nat) (os : List Oper) (i : Nat) (tr : List Tr) (st : List Fr) (e : List AV) (H : Heap) (Q : Post) : Prop :=
  ∃ tr' e1 H1, runD P c ds base os i e H = some (tr', e1, H1) ∧ AllOk un (tr ++ tr') ∧ Fin P c st .nrm e1 H1 Q
theorem W_draw {id : Nat} {ops : Array Oper} (un : List (Nat × Nat)) (hu : unord ops = un) (h : WD P c un (dsts ops) H.next ops.toList 0 [] st e (H.up ops.size) Q) : W P c (.region id ops true) st e H Q := by
  obtain ⟨tr, e1, H1, h1, h2, h3⟩ := h
  exact ⟨_, _, _, .draw (runD_runTr _ _ _ _ _ _ _ h1) (by rw [TrOk, hu]; exact h2), h3⟩
def dK (P : Program) (c : Cfg) (r : Option CR) (imp : Bool) (un : List (Nat × Nat)) (ds : List (Option Tmp)) (base : Nat) (dst : Option Tmp) (os : List Oper) (i : Nat) (tr : List Tr) (st : List Fr) (e : List AV) (H : Heap) (Q : Post) : Prop :=
  match r with
  | some (.ret v H') =>
    match imp with
    | true => WD P c un ds base os i (tr ++ [.call v H H']) st (aput e dst v) H' Q
    | false => WD P c un ds base os i (tr ++ [.val v [] []]) st (aput e dst v) H Q
  | _ => False
def dS (P : Program) (c : Cfg) (r : Option Sr) (un : List (Nat × Nat)) (ds : List (Option Tmp)) (base : Nat) (dst : Option Tmp) (os : List Oper) (i : Nat) (tr : List Tr) (st : List Fr) (e : List AV) (H : Heap) (Q : Post) : Prop :=
  match r with
  | some (.val v us rs) => WD P c un ds base os i (tr ++ [.val v us rs]) st (aput e dst v) (appU H us) Q
  | some (.call f args) => dK P c (calls P c f args H) (c.imp f) un ds base dst os i tr st e H Q
  | _ => False
def dG (P : Program) (c : Cfg) (v : AV) (want : Bool) (op : Op) (un : List (Nat × Nat)) (ds : List (Option Tmp)) (base : Nat) (dst : Option Tmp) (os : List Oper) (i : Nat) (tr : List Tr) (st : List Fr) (e : List AV) (H : Heap) (Q : Post) : Prop :=
  match v with
  | .lit (.bool b) =>
    match b == want with
    | true => dS P c (astep P (aeval e) H (base + i) op) un ds base dst os (i + 1) tr st e H Q
    | false => WD P c un ds base os (i + 1) (tr ++ [.val (.tup []) [] []]) st (aput e dst (.tup [])) H Q
  | .tup [] => WD P c un ds base os (i + 1) (tr ++ [.val (.tup []) [] []]) st (aput e dst (.tup [])) H Q
  | _ => False
variable {op : Op} {un : List (Nat × Nat)} {ds : List (Option Tmp)} {base i : Nat} {dst : Option Tmp} {os : List Oper} {tr : List Tr}
theorem WD_nil : WD P c un ds base [] i tr st e H Q = (AllOk un tr ∧ Fin P c st .nrm e H Q) := propext
  ⟨fun ⟨_, _, _, h, k, l⟩ => by simp [runD] at h; obtain ⟨rfl, rfl, rfl⟩ := h; simp at k; exact ⟨k, l⟩, fun ⟨k, l⟩ => ⟨_, _, _, rfl, by simpa using k, l⟩⟩
theorem WD_step {t : Tr} {v : AV} {H' : Heap} {i : Nat} : (∃ tr' e1 H1, (match runD P c ds base os i (aput e dst v) H' with | some (tr, r) => some (t :: tr, r) | none => none) = some (tr', e1, H1) ∧ AllOk un (tr ++ tr') ∧ Fin P c st .nrm e1 H1 Q) =
    WD P c un ds base os i (tr ++ [t]) st (aput e dst v) H' Q := by
  unfold WD
  cases runD P c ds base os i (aput e dst v) H' with
  | none => simp
  | some q =>
    obtain ⟨tq, eq, Hq⟩ := q
    refine propext ⟨fun ⟨_, _, _, h, k, l⟩ => ?_, fun ⟨_, _, _, h, k, l⟩ => ?_⟩
    · simp at h
      obtain ⟨rfl, rfl, rfl⟩ := h
      exact ⟨_, _, _, rfl, by simpa using k, l⟩
    · simp at h
      obtain ⟨rfl, rfl, rfl⟩ := h
      exact ⟨_, _, _, rfl, by simpa using k, l⟩
theorem dS_eq {r : Option Sr} : (∃ tr' e1 H1, (match trStep P c r H with
      | none => none
      | some (t, v, H') => match runD P c ds base os i (aput e dst v) H' with | some (tr, r) => some (t :: tr, r) | none => none) = some (tr', e1, H1) ∧ AllOk un (tr ++ tr') ∧ Fin P c st .nrm e1 H1 Q) =
    dS P c r un ds base dst os i tr st e H Q := by
  cases r with
  | none => simp [trStep, dS]
  | some sr =>
    cases sr with
    | val v us rs => exact WD_step
    | pan v => simp [trStep, dS]
    | call f args =>
      simp only [trStep, dS, dK]
      cases hi : c.imp f with
      | true =>
        cases calls P c f args H with
        | none => simp
        | some cr =>
          cases cr with
          | ret v H' => exact WD_step
          | pan v H' => simp
      | false =>
        cases calls P c f args H with
        | none => simp
        | some cr =>
          cases cr with
          | ret v H' => exact WD_step
          | pan v H' => simp
theorem WD_plain {type : TypeId} {pos : String} {after : Array Edge} :
    WD P c un ds base ({ dst, op, type, pos, after, guard := none } :: os) i tr st e H Q = dS P c (astep P (aeval e) H (base + i) op) un ds base dst os (i + 1) tr st e H Q := by
  rw [← dS_eq]; rfl
theorem WD_word {o : Oper} : WD P c un ds base (o :: os) i tr st e H Q =
    (match gword ds e o.guard with
    | some true => dS P c (astep P (aeval e) H (base + i) o.op) un ds base o.dst os (i + 1) tr st e H Q
    | some false => WD P c un ds base os (i + 1) (tr ++ [.val (.tup []) [] []]) st (aput e o.dst (.tup [])) H Q
    | none => False) := by
  conv => lhs; unfold WD; simp only [runD]
  cases gword ds e o.guard with
  | none => simp
  | some b =>
    cases b with
    | true => exact dS_eq
    | false => exact WD_step
theorem WD_guard {j : Nat} {d : Tmp} {want : Bool} {type : TypeId} {pos : String} {after : Array Edge} (hd : gget none ds j = some d) :
    WD P c un ds base ({ dst, op, type, pos, after, guard := some (j, want) } :: os) i tr st e H Q = dG P c (gget .bad e d) want op un ds base dst os i tr st e H Q := by
  rw [WD_word]
  simp only [gword, hd]
  generalize gget AV.bad e d = v
  unfold dG
  cases v with
  | lit u =>
    cases u with
    | bool b => simp only; cases b == want <;> rfl
    | _ => rfl
  | tup vs => cases vs <;> rfl
  | _ => rfl
theorem dG_tt : dG P c (.lit (.bool true)) true op un ds base dst os i tr st e H Q = dS P c (astep P (aeval e) H (base + i) op) un ds base dst os (i + 1) tr st e H Q := rfl
theorem dG_ff : dG P c (.lit (.bool false)) false op un ds base dst os i tr st e H Q = dS P c (astep P (aeval e) H (base + i) op) un ds base dst os (i + 1) tr st e H Q := rfl
theorem dG_tf : dG P c (.lit (.bool true)) false op un ds base dst os i tr st e H Q = WD P c un ds base os (i + 1) (tr ++ [.val (.tup []) [] []]) st (aput e dst (.tup [])) H Q := rfl
theorem dG_ft : dG P c (.lit (.bool false)) true op un ds base dst os i tr st e H Q = WD P c un ds base os (i + 1) (tr ++ [.val (.tup []) [] []]) st (aput e dst (.tup [])) H Q := rfl
theorem dG_tup {want : Bool} : dG P c (.tup []) want op un ds base dst os i tr st e H Q = WD P c un ds base os (i + 1) (tr ++ [.val (.tup []) [] []]) st (aput e dst (.tup [])) H Q := rfl
theorem dS_val {v : AV} {us : List U} {rs : List Nat} : dS P c (some (.val v us rs)) un ds base dst os i tr st e H Q = WD P c un ds base os i (tr ++ [.val v us rs]) st (aput e dst v) (appU H us) Q := rfl
theorem dS_call {f : FuncId} {args : List AV} : dS P c (some (.call f args)) un ds base dst os i tr st e H Q = dK P c (calls P c f args H) (c.imp f) un ds base dst os i tr st e H Q := rfl
theorem dK_pure {v : AV} {H' : Heap} : dK P c (some (.ret v H')) false un ds base dst os i tr st e H Q = WD P c un ds base os i (tr ++ [.val v [] []]) st (aput e dst v) H Q := rfl
theorem dK_imp {v : AV} {H' : Heap} : dK P c (some (.ret v H')) true un ds base dst os i tr st e H Q = WD P c un ds base os i (tr ++ [.call v H H']) st (aput e dst v) H' Q := rfl
end
end Go.Proofs.Ytiiaajajhkdemaa.VA
