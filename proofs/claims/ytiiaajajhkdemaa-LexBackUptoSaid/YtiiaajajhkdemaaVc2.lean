/- What is proved: what each operation does in the abstract interpreter (VA), as equations to rewrite with, and how a function's body tells its calls. No condition. -/
import Derived.Test.YtiiaajajhkdemaaVc1
namespace Go.Proofs.Ytiiaajajhkdemaa.VA
open Go Go.RowKit
set_option linter.unusedSimpArgs false

attribute [go_sem] Fin_nil Fin_sq Fin_sq_exit Fin_sq_ret Fin_sq_pan Fin_lp Fin_lp_exit Fin_lp_ret Fin_lp_pan Fin_bl Fin_bl_ret Fin_bl_pan Fin_bl_exit Fin_bl_other
attribute [go_sem] W_skip W_label W_exit W_ret W_scope W_seq W_block W_cond goB_true goB_false W_region WO_nil WO_plain WO_guard goD_some goG_tt goG_ff goG_tf goG_ft goG_tup goS_val goS_pan goS_call goC_ret goC_pan
attribute [go_sem] WD_nil WD_plain WD_guard dG_tt dG_ff dG_tf dG_ft dG_tup dS_val dS_call dK_pure dK_imp
attribute [go_sem] List.map_cons List.map_nil List.append_nil List.nil_append List.cons_append Option.map_some Option.bind_some Option.getD_some

section
variable {P : Program} {ρ : Operand → AV} {H : Heap} {id : Nat} {e : List AV}
@[go_sem] theorem dsts_eq (ops : List Oper) : dsts ops.toArray = ops.map (·.dst) := by simp [dsts]
@[go_sem] theorem gget_zero {α : Type} (d x : α) (l : List α) : gget d (x :: l) 0 = x := rfl
@[go_sem] theorem gget_next {α : Type} (d x : α) (l : List α) (i : Nat) : gget d (x :: l) (i + 1) = gget d l i := rfl
@[go_sem] theorem gget_lit {α : Type} (d x : α) (l : List α) (i : Nat) (h : (i == 0) = false) : gget d (x :: l) i = gget d l (i - 1) := by
  cases i with
  | zero => simp at h
  | succ i => rfl
attribute [go_sem] gget_nil
@[go_sem] theorem gget_same {α : Type} (d : α) (l : List α) (i : Nat) (v : α) : gget d (gset d l i v) i = v := by rw [gget_gset, if_pos rfl]
@[go_sem] theorem gget_other {α : Type} (d : α) (l : List α) (i : Nat) (v : α) (j : Nat) (h : (i == j) = false) : gget d (gset d l i v) j = gget d l j := by
  rw [gget_gset, if_neg (by simpa using h)]
@[go_sem] theorem aput_some (d : Tmp) (v : AV) : aput e (some d) v = gset .bad e d v := rfl
@[go_sem] theorem aput_none (v : AV) : aput e none v = e := rfl
@[go_sem] theorem appU_nil : appU H [] = H := rfl
@[go_sem] theorem appU_cons (u : U) (us : List U) : appU H (u :: us) = appU (u.app H) us := rfl
@[go_sem] theorem U_box (r : Nat) (cs : List AV) : (U.box r cs).app H = H.put r cs := rfl
@[go_sem] theorem U_live (s : Nat) (b : Bool) : (U.live s b).app H = H.setLive s b := rfl
@[go_sem] theorem up_get (n r : Nat) : (H.up n).get r = H.get r := rfl
@[go_sem] theorem up_isLive (n r : Nat) : (H.up n).isLive r = H.isLive r := rfl
@[go_sem] theorem up_next (n : Nat) : (H.up n).next = H.next + n := rfl
@[go_sem] theorem aeval_tmp (t : Tmp) : aeval e (.tmp t) = gget .bad e t := rfl
@[go_sem] theorem aeval_const (v : Value) : aeval e (.const v) = ofV v := rfl
@[go_sem] theorem aeval_func (f : FuncId) : aeval e (.func f) = .fn f [] := rfl
@[go_sem] theorem ofV_int (k : IntKind) (n : Int) : ofV (.int k n) = .lit (.int k n) := rfl
@[go_sem] theorem ofV_bool (b : Bool) : ofV (.bool b) = .lit (.bool b) := rfl
@[go_sem] theorem ofV_string (b : ByteArray) : ofV (.string b) = .lit (.string b) := rfl
@[go_sem] theorem ofV_slice : ofV (.slice none 0 0) = .sl .nil [] := rfl
@[go_sem] theorem ofV_iface : ofV .nilIface = .lit .nilIface := rfl
@[go_sem] theorem ofV_nilFunc : ofV .nilFunc = .lit .nilFunc := rfl
@[go_sem] theorem ofV_ptr : ofV (.pointer none) = .lit (.pointer none) := rfl

/-! ### operations -/
def ob (v : Option AV) : Option Sr := v.map fun v => .val v [] []
@[go_sem] theorem ob_some (v : AV) : ob (some v) = some (.val v [] []) := rfl
@[go_sem] theorem st_move (x : Operand) : astep P ρ H id (.move x) = some (.val (ρ x) [] []) := rfl
@[go_sem] theorem st_assign (x : Operand) : astep P ρ H id (.assign x) = some (.val (ρ x) [] []) := rfl
def pk (c a b : AV) : Option Sr :=
  match c with
  | .lit (.bool true) => some (.val a [] [])
  | .lit (.bool false) => some (.val b [] [])
  | _ => none
@[go_sem] theorem st_pick (x y z : Operand) : astep P ρ H id (.pick x y z) = pk (ρ x) (ρ y) (ρ z) := by
  have h1 : astep P ρ H id (.pick x y z) = (aPure P ρ (.pick x y z)).map fun v => .val v [] [] := rfl
  rw [h1]
  simp only [aPure, pk]
  generalize ρ x = v
  cases v with
  | lit u =>
    cases u with
    | bool b => cases b <;> rfl
    | _ => rfl
  | _ => rfl
@[go_sem] theorem pk_true (a b : AV) : pk (.lit (.bool true)) a b = some (.val a [] []) := rfl
@[go_sem] theorem pk_false (a b : AV) : pk (.lit (.bool false)) a b = some (.val b [] []) := rfl
theorem pk_lits (b x y : Bool) : pk (.lit (.bool b)) (.lit (.bool x)) (.lit (.bool y)) = some (.val (.lit (.bool (bif b then x else y))) [] []) := by cases b <;> rfl
@[go_sem] theorem st_bin (op : BinOp) (t t' : TypeId) (x y : Operand) : astep P ρ H id (.binOp op t x y t') = ob (aBin P op t (ρ x) (ρ y)) := rfl
@[go_sem] theorem bin_int (op : BinOp) (t : TypeId) (k : IntKind) (a b : Int) : aBin P op t (.lit (.int k a)) (.lit (.int k b)) = aInt op k a b := by
  simp only [aBin, if_true]
@[go_sem] theorem bin_str (op : BinOp) (t : TypeId) (a b : ByteArray) : aBin P op t (.lit (.string a)) (.lit (.string b)) = aStr op a b := rfl
@[go_sem] theorem bin_eqb {t : TypeId} (h : P.underlying t = some .bool) (a b : Bool) : aBin P .eql t (.lit (.bool a)) (.lit (.bool b)) = some (.lit (.bool (a == b))) := by
  simp only [aBin, h]
@[go_sem] theorem bin_neb {t : TypeId} (h : P.underlying t = some .bool) (a b : Bool) : aBin P .neq t (.lit (.bool a)) (.lit (.bool b)) = some (.lit (.bool (!(a == b)))) := by
  simp only [aBin, h]
@[go_sem] theorem int_add (k : IntKind) (a b : Int) : aInt .add k a b = some (.lit (.int k (k.wrap (a + b)))) := rfl
@[go_sem] theorem int_sub (k : IntKind) (a b : Int) : aInt .sub k a b = some (.lit (.int k (k.wrap (a - b)))) := rfl
@[go_sem] theorem int_mul (k : IntKind) (a b : Int) : aInt .mul k a b = some (.lit (.int k (k.wrap (a * b)))) := rfl
theorem int_quo (k : IntKind) (a b : Int) (h : b ≠ 0) : aInt .quo k a b = some (.lit (.int k (k.wrap (a.tdiv b)))) := by simp [aInt, h]
theorem int_rem (k : IntKind) (a b : Int) (h : b ≠ 0) : aInt .rem k a b = some (.lit (.int k (a.tmod b))) := by simp [aInt, h]
@[go_sem] theorem int_eql (k : IntKind) (a b : Int) : aInt .eql k a b = some (.lit (.bool (decide (a = b)))) := rfl
@[go_sem] theorem int_neq (k : IntKind) (a b : Int) : aInt .neq k a b = some (.lit (.bool (!decide (a = b)))) := rfl
@[go_sem] theorem int_lss (k : IntKind) (a b : Int) : aInt .lss k a b = some (.lit (.bool (decide (a < b)))) := rfl
@[go_sem] theorem int_leq (k : IntKind) (a b : Int) : aInt .leq k a b = some (.lit (.bool (decide (a ≤ b)))) := rfl
@[go_sem] theorem int_gtr (k : IntKind) (a b : Int) : aInt .gtr k a b = some (.lit (.bool (decide (b < a)))) := rfl
@[go_sem] theorem int_geq (k : IntKind) (a b : Int) : aInt .geq k a b = some (.lit (.bool (decide (b ≤ a)))) := rfl
theorem str_add (a b : ByteArray) (h : a.size + b.size ≤ 9223372036854775807) : aStr .add a b = some (.lit (.string (a ++ b))) := by simp [aStr, h]
@[go_sem] theorem str_eql (a b : ByteArray) : aStr .eql a b = some (.lit (.bool (decide (a = b)))) := by simp [aStr, strEq_decide]
@[go_sem] theorem str_neq (a b : ByteArray) : aStr .neq a b = some (.lit (.bool (!decide (a = b)))) := by simp [aStr, strEq_decide]
def un1 (op : UnOp) (x : AV) : Option AV :=
  match op, x with
  | .not, .lit (.bool b) => some (.lit (.bool (!b)))
  | .neg, .lit (.int k n) => some (.lit (.int k (k.wrap (0 - n))))
  | _, _ => none
@[go_sem] theorem st_un (op : UnOp) (t : TypeId) (x : Operand) : astep P ρ H id (.unOp op t x) = ob (un1 op (ρ x)) := rfl
@[go_sem] theorem un_not (b : Bool) : un1 .not (.lit (.bool b)) = some (.lit (.bool (!b))) := rfl
@[go_sem] theorem un_neg (k : IntKind) (n : Int) : un1 .neg (.lit (.int k n)) = some (.lit (.int k (k.wrap (0 - n)))) := rfl
/-- A string's byte at a place. -/
def bAt (s : ByteArray) (n : Nat) : UInt8 := s.data.toList.getD n 0
def ixs (u : Option TypeDesc) (x : AV) (i : Option Nat) : Option AV :=
  match u, x, i with
  | some .string, .lit (.string s), some i => if h : i < s.size then some (.lit (.int .u8 (s[i]'h).toNat)) else none
  | _, _, _ => none
@[go_sem] theorem st_index (t : TypeId) (x i : Operand) : astep P ρ H id (.index t x i) = ob (ixs (P.underlying t) (ρ x) (aNat (ρ i))) := rfl
theorem ixs_str {s : ByteArray} {n : Nat} (h : n < s.size) : ixs (some .string) (.lit (.string s)) (some n) = some (.lit (.int .u8 (bAt s n).toNat)) := by
  simp only [ixs, dif_pos h, bAt]
  congr 5
  have h' : n < s.data.toList.length := by simpa using h
  rw [List.getD_eq_getElem?_getD, List.getElem?_eq_getElem h']
  rfl
@[go_sem] theorem aNat_cast (k : IntKind) (n : Nat) : aNat (.lit (.int k (n : Int))) = some n := by simp [aNat]
@[go_sem] theorem aNat_zero (k : IntKind) : aNat (.lit (.int k 0)) = some 0 := by simp [aNat]
@[go_sem] theorem aNat_num (k : IntKind) (n : Nat) : aNat (.lit (.int k (OfNat.ofNat n))) = some n := aNat_cast k n
@[go_sem] theorem aNat_one (k : IntKind) : aNat (.lit (.int k 1)) = some 1 := by simp [aNat]
def lnn (P : Program) (t : TypeId) (x : AV) : Option AV :=
  match x with
  | .lit (.string s) => match P.underlying t with | some .string => some (.lit (.int .i64 s.size)) | _ => none
  | .sl _ es => match tElem P t with | some _ => some (.lit (.int .i64 es.length)) | none => none
  | _ => none
@[go_sem] theorem st_len (x : Operand) (t : TypeId) : astep P ρ H id (.call { callee := .builtin .len, args := #[x], argTypes := #[t] }) = ob (lnn P t (ρ x)) := rfl
@[go_sem] theorem lnn_str {t : TypeId} (h : P.underlying t = some .string) (s : ByteArray) : lnn P t (.lit (.string s)) = some (.lit (.int .i64 (s.size : Nat))) := by simp only [lnn, h]
@[go_sem] theorem lnn_sl {t : TypeId} {q : TypeId × Nat × Nat} (o : Own) (es : List (List AV)) (h : tElem P t = some q) : lnn P t (.sl o es) = some (.lit (.int .i64 (es.length : Nat))) := by simp only [lnn, h]
def mnx (mx : Bool) (x y : AV) : Option AV :=
  match x, y with
  | .lit (.int k a), .lit (.int _ b) => some (.lit (.int k (match mx with | false => (if b < a then b else a) | true => (if b > a then b else a))))
  | _, _ => none
@[go_sem] theorem st_min (x y : Operand) (ts : Array TypeId) : astep P ρ H id (.call { callee := .builtin .min, args := #[x, y], argTypes := ts }) = ob (mnx false (ρ x) (ρ y)) := rfl
@[go_sem] theorem st_max (x y : Operand) (ts : Array TypeId) : astep P ρ H id (.call { callee := .builtin .max, args := #[x, y], argTypes := ts }) = ob (mnx true (ρ x) (ρ y)) := rfl
@[go_sem] theorem mnx_min (k l : IntKind) (a b : Int) : mnx false (.lit (.int k a)) (.lit (.int l b)) = some (.lit (.int k (if b < a then b else a))) := rfl
@[go_sem] theorem mnx_max (k l : IntKind) (a b : Int) : mnx true (.lit (.int k a)) (.lit (.int l b)) = some (.lit (.int k (if b > a then b else a))) := rfl
def cv (f : AV) (args : List AV) : Option Sr :=
  match f with
  | .fn k caps => some (.call k (args ++ caps))
  | _ => none
@[go_sem] theorem st_call (f : Operand) (args : List Operand) (ts : Array TypeId) : astep P ρ H id (.call { callee := .value f, args := args.toArray, argTypes := ts }) = cv (ρ f) (args.map ρ) := by
  simp only [astep, cv]
  rfl
@[go_sem] theorem cv_fn (k : FuncId) (caps args : List AV) : cv (.fn k caps) args = some (.call k (args ++ caps)) := rfl
def apd (r : Option (AV × List U × List Nat)) : Option Sr := r.map fun r => .val r.1 r.2.1 r.2.2
@[go_sem] theorem st_append (s x : Operand) (t : TypeId) : astep P ρ H id (.call { callee := .builtin .append, args := #[s, x], argTypes := #[t, t] }) = apd (aAppend P t (ρ s) (ρ x) H id) := by
  simp only [astep, if_true, apd]
@[go_sem] theorem apd_some (v : AV) (us : List U) (rs : List Nat) : apd (some (v, us, rs)) = some (.val v us rs) := rfl
/-- A struct's type: the fields' places, the zero. -/
def tBuild (P : Program) (t : TypeId) : Option (List (Nat × Nat) × List AV) :=
  match P.underlying t with
  | some (.struct fs) =>
    match tPlaces P fs.toList, tZero P t with
    | some pl, some z => some (pl, z)
    | _, _ => none
  | _ => none
def bld (q : Option (List (Nat × Nat) × List AV)) (ps : List (Nat × AV)) : Option AV :=
  match q with
  | some (pl, z) => (aFill (fun i => pl[i]?) z ps).map .agg
  | none => none
@[go_sem] theorem st_build (t : TypeId) (ps : List (Nat × Operand)) : astep P ρ H id (.build t ps.toArray) = ob (bld (tBuild P t) (ps.map fun p => (p.1, ρ p.2))) := by
  have h1 : astep P ρ H id (.build t ps.toArray) = (aPure P ρ (.build t ps.toArray)).map fun v => .val v [] [] := rfl
  rw [h1]
  simp only [aPure, tBuild, ob]
  generalize P.underlying t = u
  cases u with
  | none => rfl
  | some d =>
    cases d with
    | struct fs =>
      simp only
      cases tPlaces P fs.toList with
      | none => rfl
      | some pl =>
        cases tZero P t with
        | none => rfl
        | some z => rfl
    | _ => rfl
/-- One field laid down. -/
def lay (q : Option (Nat × Nat)) (v : List AV) (cells : List AV) : Option (List AV) :=
  match q with
  | some (off, size) => if v.length = size ∧ off + size ≤ cells.length ∧ v.all AV.one = true then some (cells.take off ++ (v ++ cells.drop (off + size))) else none
  | none => none
def fillK (q : Option (List AV)) (pl : List (Nat × Nat)) (ps : List (Nat × AV)) : Option AV :=
  match q with
  | some cells => bld (some (pl, cells)) ps
  | none => none
theorem bld_nil (pl : List (Nat × Nat)) (z : List AV) : bld (some (pl, z)) [] = some (.agg z) := rfl
theorem bld_cons (pl : List (Nat × Nat)) (z : List AV) (i : Nat) (v : AV) (ps : List (Nat × AV)) : bld (some (pl, z)) ((i, v) :: ps) = fillK (lay pl[i]? v.cells z) pl ps := by
  simp only [bld, aFill, fillK, lay]
  cases pl[i]? with
  | none => rfl
  | some q =>
    obtain ⟨off, size⟩ := q
    simp only
    split <;> rfl
attribute [go_sem] bld_nil bld_cons
@[go_sem] theorem fillK_some (cells : List AV) (pl : List (Nat × Nat)) (ps : List (Nat × AV)) : fillK (some cells) pl ps = bld (some (pl, cells)) ps := rfl
@[go_sem] theorem cells_lit (v : Value) : (AV.lit v).cells = [.lit v] := rfl
@[go_sem] theorem cells_sl (o : Own) (es : List (List AV)) : (AV.sl o es).cells = [.sl o es] := rfl
@[go_sem] theorem cells_agg (cs : List AV) : (AV.agg cs).cells = cs := rfl
@[go_sem] theorem cells_ifc (t : TypeId) (v : AV) : (AV.ifc t v).cells = [.ifc t v] := rfl
@[go_sem] theorem cells_fn (f : FuncId) (cs : List AV) : (AV.fn f cs).cells = [.fn f cs] := rfl
@[go_sem] theorem cells_ptr (r o : Nat) : (AV.ptr r o).cells = [.ptr r o] := rfl
@[go_sem] theorem one_sl (o : Own) (es : List (List AV)) : (AV.sl o es).one = true := rfl
@[go_sem] theorem one_ptr (r o : Nat) : (AV.ptr r o).one = true := rfl
@[go_sem] theorem one_ifc (t : TypeId) (v : AV) : (AV.ifc t v).one = true := rfl
@[go_sem] theorem one_fn (f : FuncId) (cs : List AV) : (AV.fn f cs).one = true := rfl
@[go_sem] theorem one_int (k : IntKind) (n : Int) : (AV.lit (.int k n)).one = true := rfl
@[go_sem] theorem one_bool (b : Bool) : (AV.lit (.bool b)).one = true := rfl
@[go_sem] theorem one_string (s : ByteArray) : (AV.lit (.string s)).one = true := rfl
@[go_sem] theorem one_niface : (AV.lit .nilIface).one = true := rfl
def fdd (q : Option (Nat × Nat × Bool)) (x : AV) : Option AV :=
  match q, x with
  | some (o, n, true), .agg cs => if o + n ≤ cs.length then some (.agg ((cs.drop o).take n)) else none
  | some (o, _, false), .agg cs => cs[o]?
  | _, _ => none
@[go_sem] theorem st_field (t : TypeId) (x : Operand) (k : Nat) : astep P ρ H id (.field t x k) = ob (fdd (tField P t k) (ρ x)) := rfl
@[go_sem] theorem fdd_one (o n : Nat) (cs : List AV) : fdd (some (o, n, false)) (.agg cs) = cs[o]? := rfl
theorem fdd_agg (o n : Nat) (cs : List AV) (h : o + n ≤ cs.length) : fdd (some (o, n, true)) (.agg cs) = some (.agg ((cs.drop o).take n)) := by simp [fdd, h]
def fad (q : Option (Nat × Nat × Bool)) (x : AV) : Option AV :=
  match q, x with
  | some (o, n, _), .ptr r off => if n = 0 then none else some (.ptr r (off + o))
  | some (o, n, _), .ep cs => if n = 0 then none else if o ≤ cs.length then some (.ep (cs.drop o)) else none
  | _, _ => none
@[go_sem] theorem st_fieldAddr (t : TypeId) (x : Operand) (k : Nat) : astep P ρ H id (.fieldAddr t x k) = ob (fad (tField P t k) (ρ x)) := rfl
@[go_sem] theorem fad_ptr (o n : Nat) (b : Bool) (r off : Nat) (h : (n == 0) = false) : fad (some (o, n, b)) (.ptr r off) = some (.ptr r (off + o)) := by
  simp only [fad]; rw [if_neg (by simpa using h)]
@[go_sem] theorem fad_ep (o n : Nat) (b : Bool) (cs : List AV) (h : (n == 0) = false) (h2 : decide (o ≤ cs.length) = true) : fad (some (o, n, b)) (.ep cs) = some (.ep (cs.drop o)) := by
  simp only [fad]; rw [if_neg (by simpa using h), if_pos (by simpa using h2)]
def iad (q : Option (TypeId × Nat × Nat)) (x : AV) (i : Option Nat) : Option AV :=
  match q, x, i with
  | some (_, n, _), .sl _ es, some i =>
    match es[i]? with
    | some e => if e.length = n then some (.ep e) else none
    | none => none
  | _, _, _ => none
@[go_sem] theorem st_indexAddr (t : TypeId) (x i : Operand) : astep P ρ H id (.indexAddr t x i) = ob (iad (tElem P t) (ρ x) (aNat (ρ i))) := rfl
theorem iad_some {t : TypeId} {n b : Nat} {o : Own} {es : List (List AV)} {i : Nat} {e : List AV} (h : es[i]? = some e) (hl : e.length = n) : iad (some (t, n, b)) (.sl o es) (some i) = some (.ep e) := by
  simp only [iad, h, hl, if_true]
def lod (r : Option (AV × List Nat)) : Option Sr := r.map fun r => .val r.1 [] r.2
@[go_sem] theorem st_load (t : TypeId) (x : Operand) : astep P ρ H id (.load t x) = lod (aLoad P t (ρ x) H) := rfl
@[go_sem] theorem lod_some (v : AV) (rs : List Nat) : lod (some (v, rs)) = some (.val v [] rs) := rfl
@[go_sem] theorem load_ep {t : TypeId} (h : tAgg P t = some false) (v : AV) (cs : List AV) : aLoad P t (.ep (v :: cs)) H = some (v, []) := by simp [aLoad, h]
theorem load_ep_agg {t : TypeId} {n : Nat} {cs : List AV} (h : tAgg P t = some true) (hs : tSize P t = some n) (hl : n ≤ cs.length) : aLoad P t (.ep cs) H = some (.agg (cs.take n), []) := by simp [aLoad, h, hs, hl]
theorem load_ptr {t : TypeId} {r off : Nat} {cs : List AV} {v : AV} (h : tAgg P t = some false) (hg : H.get r = some cs) (hv : cs[off]? = some v) : aLoad P t (.ptr r off) H = some (v, [r]) := by simp [aLoad, h, hg, hv]
theorem load_ptr_agg {t : TypeId} {r off n : Nat} {cs : List AV} (h : tAgg P t = some true) (hs : tSize P t = some n) (hg : H.get r = some cs) (hl : off + n ≤ cs.length) : aLoad P t (.ptr r off) H = some (.agg ((cs.drop off).take n), [r]) := by simp [aLoad, h, hs, hg, hl]
def sto (r : Option (List U)) : Option Sr := r.map fun us => .val (.tup []) us []
@[go_sem] theorem st_store (t : TypeId) (x v : Operand) : astep P ρ H id (.store t x v) = sto (aStore P t (ρ x) (ρ v) H) := rfl
@[go_sem] theorem sto_some (us : List U) : sto (some us) = some (.val (.tup []) us []) := rfl
theorem store_ptr {t : TypeId} {n r off : Nat} {cs : List AV} {v : AV} (hs : tSize P t = some n) (hg : H.get r = some cs) (h1 : v.cells.length = n) (h2 : off + n ≤ cs.length) (h3 : v.cells.all AV.one = true) :
    aStore P t (.ptr r off) v H = some [.box r (cs.take off ++ (v.cells ++ cs.drop (off + n)))] := by simp [aStore, hs, hg, h1, h2] ; simpa using h3
def alo (z : Option (List AV)) (id : Nat) : Option Sr := z.map fun z => .val (.ptr id 0) [.box id z] []
@[go_sem] theorem st_alloc (t : TypeId) : astep P ρ H id (.alloc t) = alo (tZero P t) id := by
  simp only [astep, alo]; cases tZero P t <;> rfl
@[go_sem] theorem alo_some (z : List AV) : alo (some z) id = some (.val (.ptr id 0) [.box id z] []) := rfl
def bxx (v : AV) (id : Nat) : Option Sr := if v.cells.all AV.one = true then some (.val (.ptr id 0) [.box id v.cells] []) else none
@[go_sem] theorem st_box (t : TypeId) (x : Operand) : astep P ρ H id (.box t x) = bxx (ρ x) id := rfl
theorem bxx_some {v : AV} (h : v.cells.all AV.one = true) : bxx v id = some (.val (.ptr id 0) [.box id v.cells] []) := by simp [bxx, h]
@[go_sem] theorem st_buildSlice (t : TypeId) (len : Nat) (ps : List (Nat × Operand)) : astep P ρ H id (.buildSlice t len ps.toArray) = ob (aBuildSlice P t len (ps.map fun p => (p.1, ρ p.2))) := rfl
@[go_sem] theorem st_makeFunc (f : FuncId) (caps : List Operand) : astep P ρ H id (.makeFunc (.func f) #[] caps.toArray) = some (.val (.fn f (caps.map ρ)) [] []) := by
  simp only [astep, aPure, if_true, Option.map_some]
@[go_sem] theorem st_makeIface {t : TypeId} (x : Operand) (h : P.concrete t = true) : astep P ρ H id (.makeInterface t x) = some (.val (.ifc t (ρ x)) [] []) := by
  simp only [astep, aPure, h, if_true, Option.map_some]
def pnn (x : AV) : Option Sr :=
  match x with
  | .ifc t v => some (.pan (.ifc t v))
  | _ => none
@[go_sem] theorem st_panic (x : Operand) : astep P ρ H id (.panic x) = pnn (ρ x) := rfl
@[go_sem] theorem pnn_ifc (t : TypeId) (v : AV) : pnn (.ifc t v) = some (.pan (.ifc t v)) := rfl
def ncc (x : AV) : Option AV :=
  match x with
  | .ptr r o => some (.ptr r o)
  | .ep cs => some (.ep cs)
  | .fn f cs => some (.fn f cs)
  | _ => none
@[go_sem] theorem st_nilCheck (x : Operand) : astep P ρ H id (.nilCheck x) = ob (ncc (ρ x)) := rfl
@[go_sem] theorem ncc_ptr (r o : Nat) : ncc (.ptr r o) = some (.ptr r o) := rfl
@[go_sem] theorem ncc_ep (cs : List AV) : ncc (.ep cs) = some (.ep cs) := rfl
@[go_sem] theorem ncc_fn (f : FuncId) (cs : List AV) : ncc (.fn f cs) = some (.fn f cs) := rfl
def ext (x : AV) (i : Nat) : Option AV :=
  match x with
  | .tup vs => vs[i]?
  | _ => none
@[go_sem] theorem st_extract (x : Operand) (i : Nat) : astep P ρ H id (.extract x i) = ob (ext (ρ x) i) := rfl
@[go_sem] theorem ext_tup (vs : List AV) (i : Nat) : ext (.tup vs) i = vs[i]? := rfl
attribute [go_sem] List.getElem?_cons_zero List.getElem?_cons_succ
@[go_sem] theorem st_slice (t : TypeId) (x : Operand) (lo hi : Option Operand) : astep P ρ H id (.slice t x lo hi none) = ob (aSlice P t (ρ x) (lo.map ρ) (hi.map ρ)) := rfl
theorem slice_str {t : TypeId} {s : ByteArray} {lo hi : Option AV} {l h : Nat} (ht : P.underlying t = some .string) (hh : optNat s.size hi = some h) (hl : optNat 0 lo = some l) (h1 : l ≤ h) (h2 : h ≤ s.size) :
    aSlice P t (.lit (.string s)) lo hi = some (.lit (.string (s.extract l h))) := by simp [aSlice, ht, hh, hl, h1, h2]
def cvt (a b : Option TypeDesc) (x : AV) : Option AV :=
  match a, b, x with
  | some _, some (.int k), .lit (.int _ n) => some (.lit (.int k (k.wrap n)))
  | some .string, some .string, .lit (.string s) => some (.lit (.string s))
  | _, _, _ => none
@[go_sem] theorem st_convert (s d : TypeId) (x : Operand) : astep P ρ H id (.convert s d x) = ob (cvt (P.underlying s) (P.underlying d) (ρ x)) := rfl
@[go_sem] theorem cvt_int (a : TypeDesc) (k l : IntKind) (n : Int) : cvt (some a) (some (.int k)) (.lit (.int l n)) = some (.lit (.int k (k.wrap n))) := by
  cases a <;> rfl
end
end Go.Proofs.Ytiiaajajhkdemaa.VA
