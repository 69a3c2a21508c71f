/- What is defined: what joining strings answers, in the abstract interpreter (VA).
What is proved: a call that leaves alone what is there, seen by the abstract interpreter (VA). No condition.
What is proved: the contract of strings.IndexByte, laid off the kit's shelf at this program. Condition: the contract's own. This text was written by the kit's lay-plain tool.
What is proved: contracts of strings.Builder's methods and of strings.IndexByte, laid off the kit's shelf at this program. Conditions: the contracts' own. This text was written by the kit's lay-plain tool.
What is proved: strings.Builder's WriteString, by the shelf's contract, at this program. No condition but the contract's own.
What is proved: strings.Join, walked at this program: of at least two texts that lie in a row of cells it makes their join, and what lay there before stands. Conditions: the row lies in the heap, the join has at most 2^47 bytes.
What is proved: strings.Join answers as the abstract interpreter (VA) is told. No condition.
What is proved: the contract of strconv.Itoa, laid off the kit's shelf at this program. Condition: the contract's own. This text was written by the kit's lay-plain tool, its numbers turned into marks. -/
import Derived.Test.YtghhkbigmmjanaaGreatDoorM3
import Derived.Lib.Join
import Derived.Shelf.Small.Strs
import Derived.Shelf.Strings.Search1
import Derived.Test.YtghhkbigmmjanaaGreatDoorProg
import Derived.Shelf.Strings.Builder1
import Derived.Shelf.Strings.Builder2
import Derived.BigCall
import Derived.BigGuard
import Derived.Shelf.LaysM
import Derived.Shelf.Strconv.Itoa3
/-! Cj -/
namespace Go.Proofs.YtghhkbigmmjanaaGreatDoor.VA
open Go Go.RowKit

def strs : List (List AV) → Option (List (List UInt8))
 | [] => some []
 | [.lit (.string s)] :: r => (strs r).map (s.data.toList :: ·)
 | _ => none
def joined (sep : List UInt8) (l : List (List UInt8)) : List UInt8 := Lib.join l sep
def tJoin : List AV → Option AV
 | [.sl _ es, .lit (.string sep)] =>
  match strs es with
  | some l => if (joined sep.data.toList l).length ≤ 140737488355328 ∧ l.length ≤ 140737488355328 then some (.lit (.string (ba (joined sep.data.toList l)))) else none
  | none => none
 | _ => none
def encS (t : List UInt8) : List AV := [.lit (.string (ba t))]
theorem sanL_encS (t : List UInt8) : sanL (encS t) = encS t := by simp only [encS, go_sem]
@[go_sem] theorem sanLL_encS (l : List (List UInt8)) : sanLL (l.map encS) = l.map encS := sanLL_of encS sanL_encS l
theorem strs_encS (l : List (List UInt8)) : strs (l.map encS) = some l := by
 induction l with
 | nil => rfl
 | cons x l ih => simp [strs, encS] at ih ⊢; simp [ih]
end Go.Proofs.YtghhkbigmmjanaaGreatDoor.VA

/-! Lt0 -/
namespace Go.Proofs.YtghhkbigmmjanaaGreatDoor.VA
open Go Go.RowKit
set_option linter.unusedSimpArgs false
set_option maxRecDepth 100000

theorem below_step {g : Gh} {H : Heap} {w w' : World} (hi : Inv g H w) (h : Below w.heap.size w w') : Ext g w g w' ∧ Inv g H w' := by
 have hcell : ∀ b, b < w.heap.size → ∀ o, w'.cell? ⟨b, o, none⟩ = w.cell? ⟨b, o, none⟩ := fun b hb o => by
  simp only [World.cell?, h.block b hb]
 refine ⟨⟨rfl, h.os, h.tape, h.output, h.size, fun b hb => h.block b (Nat.lt_of_lt_of_le hb hi.lo), fun _ _ => rfl, fun _ => Nat.le_refl _, ?_, fun _ _ h => h, fun _ _ h => h, rfl⟩, ?_⟩
 ·intro b o ho
  by_cases hb : b < w.heap.size
  ·exact hcell b hb o
  ·rw [hi.fresh b (by omega)] at ho; omega
 ·have hext : Ext g w g w' := by
   refine ⟨rfl, h.os, h.tape, h.output, h.size, fun b hb => h.block b (Nat.lt_of_lt_of_le hb hi.lo), fun _ _ => rfl, fun _ => Nat.le_refl _, ?_, fun _ _ h => h, fun _ _ h => h, rfl⟩
   intro b o ho
   by_cases hb : b < w.heap.size
   ·exact hcell b hb o
   ·rw [hi.fresh b (by omega)] at ho; omega
  constructor
  ·exact Nat.le_trans hi.lo h.size
  ·exact fun b hb => hi.fresh b (Nat.le_trans h.size hb)
  ·exact fun r b hb => let ⟨h1, h2, h3⟩ := hi.boxB r b hb; ⟨h1, Nat.lt_of_lt_of_le h2 h.size, h3⟩
  ·exact hi.boxI
  ·intro r cs hr
   obtain ⟨b, vs, t, h1, h2, h3⟩ := hi.box r cs hr
   exact ⟨b, vs, t, h1, by rw [h.block b (hi.boxB r b h1).2.1]; exact h2, h3.ext hext⟩
  ·intro s hs
   obtain ⟨b, n, cap, e, sz, vs, h1, h2, h3, h4⟩ := hi.live s hs
   have hb : b < w.heap.size := by
    apply Classical.byContradiction
    intro hb
    rw [Array.getElem?_eq_none (by omega)] at h3; cases h3
   exact ⟨b, n, cap, e, sz, vs, h1, h2, by rw [h.block b hb]; exact h3, h4⟩
  ·exact hi.liveI
  ·intro r ks vs hr
   obtain ⟨b, es, ck, h1, h2, h3, h4⟩ := hi.map r ks vs hr
   exact ⟨b, es, ck, h1, by rw [h.block b (hi.boxB r b h1).2.1]; exact h2, h3.ext hext, h4.ext hext⟩
  ·exact hext.holds hi.cond
theorem two_args {vs : Array Value} (h : 2 = vs.size) : ∃ v0 v1, vs = #[v0, v1] := by
 refine ⟨vs[0], vs[1], ?_⟩
 apply Array.ext
 ·simp; omega
 ·intro i h1 h2
  match i, h2 with
  | 0, _ => rfl
  | 1, _ => rfl
end Go.Proofs.YtghhkbigmmjanaaGreatDoor.VA

/-! Sg -/
namespace Go.Proofs
open Go.Shelf
def Tryz.lays137_ren : Go.Shelf.Ren := ⟨fun | 137 => 80 | 217 => 99 | 266 => 112 | n => n, fun | 9 => 9 | 5 => 5 | 3 => 3 | n => n, fun | n => n⟩
theorem Tryz.lays137 : Go.Proofs.Lays.n137 Tryz.prog Tryz.lays137_ren := {
 mixed := by kernel_rfl
 f137 := Tryz.func80.trans (congrArg some (by kernel_rfl))
 f217 := Tryz.func99.trans (congrArg some (by kernel_rfl))
 f266 := Tryz.func112.trans (congrArg some (by kernel_rfl))
 t3 := Tryz.underlying3
 a3 := Tryz.isAgg3
 z3 := Tryz.sizeOf3
 v3 := Tryz.zeroValue3
 t5 := Tryz.underlying5
 a5 := Tryz.isAgg5
 z5 := Tryz.sizeOf5
 v5 := Tryz.zeroValue5
 t9 := Tryz.underlying9
 a9 := Tryz.isAgg9
 z9 := Tryz.sizeOf9
 v9 := Tryz.zeroValue9 }
open Go.RowKit in
theorem Tryz.strings_IndexByte (s : ByteArray) (c : Int) (w : World) :
  Calls Tryz.prog 80 #[.string s, .int .u8 c] w fun e w' => e = .returned (.int .i64 (Lib.indexByte s.data.toList c.toNat.toUInt8)) ∧ w' = w := Any.strings_IndexByte Tryz.lays137 s c w
end Go.Proofs

/-! Sh -/
namespace Go.Proofs
open Go.Shelf
def Tryz.lays169_ren : Go.Shelf.Ren := ⟨fun | 169 => 77 | n => n, fun | 70 => 98 | 9 => 9 | 0 => 0 | 72 => 101 | 37 => 99 | 127 => 121 | 3 => 3 | 5 => 5 | n => n, fun | n => n⟩
theorem Tryz.lays169 : Go.Proofs.Lays.n169 Tryz.prog Tryz.lays169_ren := {
 mixed := by kernel_rfl
 f169 := Tryz.func77.trans (congrArg some (by kernel_rfl))
 t0 := Tryz.underlying0
 a0 := Tryz.isAgg0
 z0 := Tryz.sizeOf0
 v0 := Tryz.zeroValue0
 t3 := Tryz.underlying3
 a3 := Tryz.isAgg3
 z3 := Tryz.sizeOf3
 v3 := Tryz.zeroValue3
 t9 := Tryz.underlying9
 a9 := Tryz.isAgg9
 z9 := Tryz.sizeOf9
 v9 := Tryz.zeroValue9
 t37 := Tryz.underlying99
 a37 := Tryz.isAgg99
 z37 := Tryz.sizeOf99
 v37 := Tryz.zeroValue99
 t70 := Tryz.underlying98
 a70 := Tryz.isAgg98
 z70 := Tryz.sizeOf98
 v70 := Tryz.zeroValue98
 t72 := Tryz.underlying101
 a72 := Tryz.isAgg101
 z72 := Tryz.sizeOf101
 v72 := Tryz.zeroValue101
 t127 := Tryz.underlying121
 a127 := Tryz.isAgg121
 z127 := Tryz.sizeOf121
 v127 := Tryz.zeroValue121 }
theorem Tryz.Builder_Extra_169 : Builder.Extra Tryz.prog Tryz.lays169_ren := {
 sizeBuilder := by kernel_rfl
 liesBuilder := by kernel_rfl
 t5 := Tryz.underlying5
 a5 := Tryz.isAgg5
 z5 := Tryz.sizeOf5
 v5 := Tryz.zeroValue5
 infoByte := by kernel_rfl
 cellsByte := by kernel_rfl
 sizeByte := by kernel_rfl
 neB5 := by decide }
open Go.RowKit in
theorem Tryz.Builder_String (B b : Nat) (l : List UInt8) (w : World) (h : Lib.IsBuilder 101 5 B b (Lib.byteCells l) w) (h0 : l ≠ []) :
  Calls Tryz.prog 77 #[.pointer (some ⟨b, 0, none⟩)] w fun e w' => e = .returned (.string ⟨l.toArray⟩) ∧ Below B w w' := Any.Builder_String Tryz.lays169 Tryz.Builder_Extra_169 B b l w h h0
open Go.RowKit in
theorem Tryz.Builder_String_empty (B b : Nat) (w : World) (h : Lib.IsBuilder 101 5 B b [] w) (hBw : B ≤ w.heap.size) :
  Calls Tryz.prog 77 #[.pointer (some ⟨b, 0, none⟩)] w fun e w' => e = .returned (.string ⟨#[]⟩) ∧ Below B w w' := Any.Builder_String_empty Tryz.lays169 Tryz.Builder_Extra_169 B b w h hBw
open Go.RowKit in
theorem Tryz.Builder_String_any (B b : Nat) (l : List UInt8) (w : World) (h : Lib.IsBuilder 101 5 B b (Lib.byteCells l) w) (hBw : B ≤ w.heap.size) :
  Calls Tryz.prog 77 #[.pointer (some ⟨b, 0, none⟩)] w fun e w' => e = .returned (.string ⟨l.toArray⟩) ∧ Below B w w' := Any.Builder_String_any Tryz.lays169 Tryz.Builder_Extra_169 B b l w h hBw
def Tryz.lays241_ren : Go.Shelf.Ren := ⟨fun | 241 => 97 | 277 => 110 | n => n, fun | 70 => 98 | 3 => 3 | 0 => 0 | 72 => 101 | 37 => 99 | 5 => 5 | n => n, fun | n => n⟩
theorem Tryz.lays241 : Go.Proofs.Lays.n241 Tryz.prog Tryz.lays241_ren := {
 mixed := by kernel_rfl
 f241 := Tryz.func97.trans (congrArg some (by kernel_rfl))
 f277 := Tryz.func110.trans (congrArg some (by kernel_rfl))
 t0 := Tryz.underlying0
 a0 := Tryz.isAgg0
 z0 := Tryz.sizeOf0
 v0 := Tryz.zeroValue0
 t3 := Tryz.underlying3
 a3 := Tryz.isAgg3
 z3 := Tryz.sizeOf3
 v3 := Tryz.zeroValue3
 t37 := Tryz.underlying99
 a37 := Tryz.isAgg99
 z37 := Tryz.sizeOf99
 v37 := Tryz.zeroValue99
 t70 := Tryz.underlying98
 a70 := Tryz.isAgg98
 z70 := Tryz.sizeOf98
 v70 := Tryz.zeroValue98
 t72 := Tryz.underlying101
 a72 := Tryz.isAgg101
 z72 := Tryz.sizeOf101
 v72 := Tryz.zeroValue101 }
theorem Tryz.Builder_Extra_241 : Builder.Extra Tryz.prog Tryz.lays241_ren := {
 sizeBuilder := by kernel_rfl
 liesBuilder := by kernel_rfl
 t5 := Tryz.underlying5
 a5 := Tryz.isAgg5
 z5 := Tryz.sizeOf5
 v5 := Tryz.zeroValue5
 infoByte := by kernel_rfl
 cellsByte := by kernel_rfl
 sizeByte := by kernel_rfl
 neB5 := by decide }
open Go.RowKit in
theorem Tryz.Builder_grow_fresh (B b n : Nat) (w : World) (hB : B ≤ b) (hbk : w.heap[b]? = some (.cells #[.pointer (some ⟨b, 0, none⟩), .slice none 0 0] 101 (0, 0))) (hBw : B ≤ w.heap.size) (hn : n ≤ 281474976710656) :
  Calls Tryz.prog 97 #[.pointer (some ⟨b, 0, none⟩), .int .i64 n] w fun e w' => e = .returned (.tuple #[]) ∧ (Lib.BuilderAt 101 5 B b (.pointer (some ⟨b, 0, none⟩)) [] w' ∧ Below B w w') := Any.Builder_grow_fresh Tryz.lays241 Tryz.Builder_Extra_241 B b n w hB hbk hBw hn
def Tryz.lays165_ren : Go.Shelf.Ren := ⟨fun | 165 => 75 | 240 => 96 | 241 => 97 | 276 => 109 | 277 => 110 | n => n, fun | 70 => 98 | 3 => 3 | 0 => 0 | 4 => 4 | 9 => 9 | 20 => 20 | 72 => 101 | 37 => 99 | 164 => 129 | 5 => 5 | n => n, fun | n => n⟩
theorem Tryz.lays165 : Go.Proofs.Lays.n165 Tryz.prog Tryz.lays165_ren := {
 mixed := by kernel_rfl
 f165 := Tryz.func75.trans (congrArg some (by kernel_rfl))
 f240 := Tryz.func96.trans (congrArg some (by kernel_rfl))
 f241 := Tryz.func97.trans (congrArg some (by kernel_rfl))
 f276 := Tryz.func109.trans (congrArg some (by kernel_rfl))
 f277 := Tryz.func110.trans (congrArg some (by kernel_rfl))
 t0 := Tryz.underlying0
 a0 := Tryz.isAgg0
 z0 := Tryz.sizeOf0
 v0 := Tryz.zeroValue0
 t3 := Tryz.underlying3
 a3 := Tryz.isAgg3
 z3 := Tryz.sizeOf3
 v3 := Tryz.zeroValue3
 t4 := Tryz.underlying4
 a4 := Tryz.isAgg4
 z4 := Tryz.sizeOf4
 v4 := Tryz.zeroValue4
 t9 := Tryz.underlying9
 a9 := Tryz.isAgg9
 z9 := Tryz.sizeOf9
 v9 := Tryz.zeroValue9
 t20 := Tryz.underlying20
 a20 := Tryz.isAgg20
 z20 := Tryz.sizeOf20
 v20 := Tryz.zeroValue20
 t37 := Tryz.underlying99
 a37 := Tryz.isAgg99
 z37 := Tryz.sizeOf99
 v37 := Tryz.zeroValue99
 t70 := Tryz.underlying98
 a70 := Tryz.isAgg98
 z70 := Tryz.sizeOf98
 v70 := Tryz.zeroValue98
 t72 := Tryz.underlying101
 a72 := Tryz.isAgg101
 z72 := Tryz.sizeOf101
 v72 := Tryz.zeroValue101
 t164 := Tryz.underlying129
 a164 := Tryz.isAgg129
 z164 := Tryz.sizeOf129
 v164 := Tryz.zeroValue129 }
theorem Tryz.Builder_Extra_165 : Builder.Extra Tryz.prog Tryz.lays165_ren := {
 sizeBuilder := by kernel_rfl
 liesBuilder := by kernel_rfl
 t5 := Tryz.underlying5
 a5 := Tryz.isAgg5
 z5 := Tryz.sizeOf5
 v5 := Tryz.zeroValue5
 infoByte := by kernel_rfl
 cellsByte := by kernel_rfl
 sizeByte := by kernel_rfl
 neB5 := by decide }
open Go.RowKit in
theorem Tryz.Builder_Grow_fresh (B b n : Nat) (w : World) (hB : B ≤ b) (hbk : w.heap[b]? = some (.cells #[.pointer none, .slice none 0 0] 101 (0, 0))) (hBw : B ≤ w.heap.size) (hn : n ≤ 281474976710656) :
  Calls Tryz.prog 75 #[.pointer (some ⟨b, 0, none⟩), .int .i64 n] w fun e w' => e = .returned (.tuple #[]) ∧ (Lib.BuilderAt 101 5 B b (.pointer (some ⟨b, 0, none⟩)) [] w' ∧ Below B w w') := Any.Builder_Grow_fresh Tryz.lays165 Tryz.Builder_Extra_165 B b n w hB hbk hBw hn
def Tryz.lays217_ren : Go.Shelf.Ren := ⟨fun | 217 => 99 | 266 => 112 | n => n, fun | 9 => 9 | 5 => 5 | 3 => 3 | n => n, fun | n => n⟩
theorem Tryz.lays217 : Go.Proofs.Lays.n217 Tryz.prog Tryz.lays217_ren := {
 mixed := by kernel_rfl
 f217 := Tryz.func99.trans (congrArg some (by kernel_rfl))
 f266 := Tryz.func112.trans (congrArg some (by kernel_rfl))
 t3 := Tryz.underlying3
 a3 := Tryz.isAgg3
 z3 := Tryz.sizeOf3
 v3 := Tryz.zeroValue3
 t5 := Tryz.underlying5
 a5 := Tryz.isAgg5
 z5 := Tryz.sizeOf5
 v5 := Tryz.zeroValue5
 t9 := Tryz.underlying9
 a9 := Tryz.isAgg9
 z9 := Tryz.sizeOf9
 v9 := Tryz.zeroValue9 }
open Go.RowKit Go.Lib in
theorem Tryz.stringslite_IndexByte (s : ByteArray) (c : Int) (w : World) :
  Calls Tryz.prog 99 #[.string s, .int .u8 c] w fun e w' => e = .returned (.int .i64 (Lib.indexByte s.data.toList c.toNat.toUInt8)) ∧ w' = w := Any.stringslite_IndexByte Tryz.lays217 s c w
end Go.Proofs

/-! Si -/
namespace Go.Proofs
open Go Go.Shelf Go.RowKit
def Tryz.lays166_ren : Go.Shelf.Ren := ⟨fun | 166 => 76 | 240 => 96 | 276 => 109 | n => n, fun | 70 => 98 | 3 => 3 | 0 => 0 | 4 => 4 | 9 => 9 | 20 => 20 | 72 => 101 | 37 => 99 | 164 => 129 | 75 => 104 | 80 => 107 | 5 => 5 | n => n, fun | n => n⟩
theorem Tryz.lays166 : Go.Proofs.Lays.n166 Tryz.prog Tryz.lays166_ren := {
 mixed := by kernel_rfl
 f166 := Tryz.func76.trans (congrArg some (by kernel_rfl))
 f240 := Tryz.func96.trans (congrArg some (by kernel_rfl))
 f276 := Tryz.func109.trans (congrArg some (by kernel_rfl))
 t0 := Tryz.underlying0
 a0 := Tryz.isAgg0
 z0 := Tryz.sizeOf0
 v0 := Tryz.zeroValue0
 t3 := Tryz.underlying3
 a3 := Tryz.isAgg3
 z3 := Tryz.sizeOf3
 v3 := Tryz.zeroValue3
 t4 := Tryz.underlying4
 a4 := Tryz.isAgg4
 z4 := Tryz.sizeOf4
 v4 := Tryz.zeroValue4
 t9 := Tryz.underlying9
 a9 := Tryz.isAgg9
 z9 := Tryz.sizeOf9
 v9 := Tryz.zeroValue9
 t20 := Tryz.underlying20
 a20 := Tryz.isAgg20
 z20 := Tryz.sizeOf20
 v20 := Tryz.zeroValue20
 t37 := Tryz.underlying99
 a37 := Tryz.isAgg99
 z37 := Tryz.sizeOf99
 v37 := Tryz.zeroValue99
 t70 := Tryz.underlying98
 a70 := Tryz.isAgg98
 z70 := Tryz.sizeOf98
 v70 := Tryz.zeroValue98
 t72 := Tryz.underlying101
 a72 := Tryz.isAgg101
 z72 := Tryz.sizeOf101
 v72 := Tryz.zeroValue101
 t75 := Tryz.underlying104
 a75 := Tryz.isAgg104
 z75 := Tryz.sizeOf104
 v75 := Tryz.zeroValue104
 t164 := Tryz.underlying129
 a164 := Tryz.isAgg129
 z164 := Tryz.sizeOf129
 v164 := Tryz.zeroValue129 }
theorem Tryz.Builder_Extra_166 : Builder.Extra Tryz.prog Tryz.lays166_ren := {
 sizeBuilder := by kernel_rfl
 liesBuilder := by kernel_rfl
 t5 := Tryz.underlying5
 a5 := Tryz.isAgg5
 z5 := Tryz.sizeOf5
 v5 := Tryz.zeroValue5
 infoByte := by kernel_rfl
 cellsByte := by kernel_rfl
 sizeByte := by kernel_rfl
 neB5 := by decide }
theorem Tryz.Builder_WriteString (B b : Nat) (bs : List Value) (s : ByteArray) (w : World) (h : Lib.IsBuilder 101 5 B b bs w) (hlen : bs.length + s.size ≤ 140737488355328) (hBw : B ≤ w.heap.size) :
  Calls Tryz.prog 76 #[.pointer (some ⟨b, 0, none⟩), .string s] w fun e w' => e = .returned (.tuple #[.int .i64 s.size, .nilIface]) ∧ (Lib.BuilderAt 101 5 B b (.pointer (some ⟨b, 0, none⟩)) (bs ++ Lib.strCells s) w' ∧ Below B w w') := Any.Builder_WriteString Tryz.lays166 Tryz.Builder_Extra_166 B b bs s w h hlen hBw
end Go.Proofs

/-! Ja1 -/
namespace Go.Proofs.YtghhkbigmmjanaaGreatDoor.VA
open Go Go.Shelf Go.RowKit
set_option linter.unusedVariables false
set_option linter.unusedSimpArgs false

theorem hid {p : Prop} (h : p) : Hid p := h
theorem join_nums {n s M : Nat} (hn : 2 ≤ n) (hN : n ≤ 140737488355328) (hM : s * (n - 1) = M) (hb : M ≤ 140737488355328) :
  ¬ (9223372036854775807 / ((n : Int) - 1) ≤ (s : Int)) ∧ Go.RowKit.wrap64 ((s : Int) * ((n : Int) - 1)) = (M : Int) := by
 obtain ⟨k, rfl⟩ : ∃ k, n = k + 2 := ⟨n - 2, by omega⟩
 have e1 : ((k + 2 : Nat) : Int) - 1 = ((k + 1 : Nat) : Int) := by omega
 have hM' : s * (k + 1) = M := hM
 have e2 : (s : Int) * ((k + 1 : Nat) : Int) = (M : Int) := by rw [← hM']; exact (Int.natCast_mul s (k + 1)).symm
 rw [e1]
 constructor
 ·intro h
  have h5 : (s : Int) + 1 ≤ 9223372036854775807 / ((k + 1 : Nat) : Int) := Int.le_ediv_of_mul_le (by omega) (by rw [Int.add_mul, e2]; omega)
  omega
 ·rw [e2]
  exact IntWalk.wrap64_in _ ⟨by omega, by omega⟩
/-- The texts' lengths, added up; the texts behind the first one, each with what stands ahead of it. -/
theorem join_many (bk off c : Nat) (xs : List ByteArray) (sep : ByteArray) (w : World) (hcells : ∀ (j : Nat) x, xs[j]? = some x → w.cell? ⟨bk, off + j, none⟩ = some (.string x))
  (hbk : bk < w.heap.size) (h2 : 2 ≤ xs.length) (hN : xs.length ≤ 140737488355328) (hcap : xs.length ≤ c)
  (hlen : (Lib.join (xs.map (·.data.toList)) sep.data.toList).length ≤ 140737488355328) :
  Calls Tryz.prog 44 #[.slice (some ⟨bk, off, none⟩) xs.length c, .string sep] w fun e w' => e = .returned (.string ⟨(Lib.join (xs.map (·.data.toList)) sep.data.toList).toArray⟩) ∧ Below w.heap.size w w' := by
 obtain ⟨x0, r, hxs⟩ : ∃ x0 r, xs = x0 :: r := by
  cases xs with
  | nil => simp at h2
  | cons a t => exact ⟨a, t, rfl⟩
 have hwhole : Lib.join (xs.map (·.data.toList)) sep.data.toList = x0.data.toList ++ Lib.joinTail sep.data.toList (r.map (·.data.toList)) := by
  rw [hxs, List.map_cons, Lib.join_cons]
 have hsum : sep.size * (xs.length - 1) + Lib.lens (xs.map (·.data.toList)) ≤ 140737488355328 := by
  rw [hwhole, List.length_append, Lib.joinTail_length] at hlen
  have e : Lib.lens (xs.map (·.data.toList)) = x0.data.toList.length + Lib.lens (r.map (·.data.toList)) := by rw [hxs]; simp [Lib.lens]
  have e3 : r.length = xs.length - 1 := by rw [hxs]; simp
  rw [e, Lib.size_eq, ← e3]
  rw [List.length_map] at hlen
  omega
 obtain ⟨M, hM⟩ : ∃ M, sep.size * (xs.length - 1) = M := ⟨_, rfl⟩
 rw [hM] at hsum
 have nums := join_nums h2 hN hM (by omega)
 have hdv := nums.1
 have hmu := nums.2
 have hM0 : sep.size = 0 → M = 0 := fun h => by rw [← hM, h, Nat.zero_mul]
 have hne0 : ((xs.length : Int) == 0) = false := beq_eq_false_iff_ne.2 (by omega)
 have hne1 : ((xs.length : Int) == 1) = false := beq_eq_false_iff_ne.2 (by omega)
 have HC := hid hcells
 have HX := hid hxs
 have HL := hid hlen
 have HW := hid hwhole
 clear hcells hxs hlen hwhole nums
 go_enter Tryz.func44, Tryz.ntmps44
 go_wp2_with fail
 all_goals (
  go_loop [5, 41] (fun n i => ∃ k : Nat, k ≤ xs.length ∧ i = .int .i64 k ∧ n = .int .i64 ((M + Lib.lens ((xs.map (·.data.toList)).take k) : Nat) : Int)) (fun _ i => xs.length - (intOf i).toNat)
  case atStart => exact ⟨0, Nat.zero_le _, rfl, by first | (simp [Lib.lens]; done) | (have := hM0 (by omega); simp [Lib.lens, this])⟩
  case round =>
   obtain ⟨k, hk, rfl, rfl⟩ := hrel
   by_cases hlt : k < xs.length
   ·have hx : xs[k]? = some xs[k] := List.getElem?_eq_getElem hlt
    generalize xs[k] = x at hx
    have hcell := HC.out k x hx
    have hs := Lib.lens_take_succ (xs.map (·.data.toList)) k x.data.toList (by simp [hx])
    have hb := Lib.lens_take_le (xs.map (·.data.toList)) (k + 1)
    rw [← Lib.size_eq] at hs
    generalize hA : Lib.lens ((xs.map (·.data.toList)).take (k + 1)) = A at hs hb
    generalize Lib.lens ((xs.map (·.data.toList)).take k) = A0 at hs
    have HA := hid hA
    clear hA
    go_wp2
    exact ⟨⟨k + 1, by omega, by go_num, by rw [HA.out]; refine congrArg _ ?_; omega⟩, by simp [intOf]; omega⟩
   ·have hke : k = xs.length := by omega
    subst hke
    rw [List.take_of_length_le (show (xs.map (·.data.toList)).length ≤ xs.length by simp)]
    generalize hT : Lib.lens (xs.map (·.data.toList)) = T at hsum
    have HT := hid hT
    clear hT
    go_wp2_with fail
    have hMT : ((M : Int) + (T : Int)) = ((M + T : Nat) : Int) := by omega
    rw [hMT]
    refine (Tryz.Builder_Grow_fresh w.heap.size w.heap.size (M + T) _ (Nat.le_refl _) (heap_alloc_new w _) (by simp) (by omega)).mono ?_
    rintro e w1 ⟨rfl, hb1, hw1⟩
    have hw1' : Below w.heap.size w w1 := ((Below.refl w.heap.size w).alloc (Nat.le_refl _) _).trans hw1
    have hx0 : xs[0]? = some x0 := by rw [HX.out]; rfl
    have hcell : w1.cell? ⟨bk, off, none⟩ = some (.string x0) := by
     rw [hw1'.cell (p := ⟨bk, off, none⟩) hbk]
     exact HC.out 0 x0 hx0
    have B1 := hid (Or.inr hb1 : Lib.IsBuilder 101 5 w.heap.size w.heap.size [] w1)
    have W1 := hid hw1'
    have hsz1 : w.heap.size ≤ w1.heap.size := hw1'.size
    have hfit : ∀ k, (x0.data.toList ++ Lib.joinTail sep.data.toList ((r.map (·.data.toList)).take k)).length ≤ 140737488355328 := fun k => by
     have h1 := HL.out
     rw [HW.out, List.length_append] at h1
     have := Lib.joinTail_take_le sep.data.toList (r.map (·.data.toList)) k
     rw [List.length_append]; omega
    have HF := hid hfit
    clear hb1 hw1 hw1' hMT hfit
    go_wp2_with fail
    refine (Tryz.Builder_WriteString w.heap.size w.heap.size [] x0 w1 B1.out (by have := HF.out 0; simp [Lib.joinTail] at this ⊢; omega) hsz1).mono ?_
    rintro e w2 ⟨rfl, hb2, hw2⟩
    rw [show ([] : List Value) ++ Lib.strCells x0 = Lib.byteCells (x0.data.toList ++ Lib.joinTail sep.data.toList ((r.map (·.data.toList)).take 0)) by simp [Lib.joinTail, Lib.strCells_eq]] at hb2
    have B2 := hid (Or.inr hb2 : Lib.IsBuilder 101 5 w.heap.size w.heap.size _ w2)
    have W2 := hid (W1.out.trans hw2)
    have hrl : r.length = xs.length - 1 := by rw [HX.out]; simp
    clear hb2 hw2
    go_wp2_with fail
    go_loopw [65] (fun i wr => ∃ k : Nat, k ≤ r.length ∧ i = .int .i64 k ∧ Hid (Lib.IsBuilder 101 5 w.heap.size w.heap.size (Lib.byteCells (x0.data.toList ++ Lib.joinTail sep.data.toList ((r.map (·.data.toList)).take k))) wr) ∧
     Hid (Below w.heap.size w wr)) (fun i _ => r.length - (intOf i).toNat)
    case atStart => exact ⟨0, Nat.zero_le _, rfl, B2, W2⟩
    case round =>
     obtain ⟨k, hk2, rfl, BK, WK⟩ := hrel
     by_cases hlt : k < r.length
     ·have hy : r[k]? = some r[k] := List.getElem?_eq_getElem hlt
      generalize r[k] = y at hy
      have hxy : xs[k + 1]? = some y := by rw [HX.out]; simpa using hy
      have hcell : wr.cell? ⟨bk, off + 1 + k, none⟩ = some (.string y) := by
       rw [WK.out.cell (p := ⟨bk, off + 1 + k, none⟩) hbk, show off + 1 + k = off + (k + 1) by omega]
       exact HC.out (k + 1) y hxy
      have hsz : w.heap.size ≤ wr.heap.size := WK.out.size
      have htail := Lib.joinTail_take_succ sep.data.toList (r.map (·.data.toList)) k y.data.toList (by simp [hy])
      have hl := HF.out (k + 1)
      rw [htail] at hl
      simp only [List.length_append, ← Lib.size_eq] at hl
      have hl0 : (Lib.byteCells (x0.data.toList ++ Lib.joinTail sep.data.toList ((r.map (·.data.toList)).take k))).length = x0.size + (Lib.joinTail sep.data.toList ((r.map (·.data.toList)).take k)).length := by
       rw [Lib.byteCells_length, List.length_append, ← Lib.size_eq]
      have hnext := hid (show Lib.byteCells (x0.data.toList ++ Lib.joinTail sep.data.toList ((r.map (·.data.toList)).take k)) ++ Lib.strCells sep ++ Lib.strCells y =
        Lib.byteCells (x0.data.toList ++ Lib.joinTail sep.data.toList ((r.map (·.data.toList)).take (k + 1))) by
       rw [htail, Lib.strCells_eq, Lib.strCells_eq, ← Lib.byteCells_append, ← Lib.byteCells_append]
       simp only [List.append_assoc])
      generalize (Lib.joinTail sep.data.toList ((r.map (·.data.toList)).take k)).length = J at hl0 hl
      clear htail hy hxy
      go_wp2_with fail
      refine (Tryz.Builder_WriteString w.heap.size w.heap.size _ sep wr BK.out (by rw [hl0]; omega) hsz).mono ?_
      rintro e w3 ⟨rfl, hb3, hw3⟩
      have hsz3 : w.heap.size ≤ w3.heap.size := Nat.le_trans hsz hw3.size
      have B3 := hid hb3
      have W3 := hid hw3
      clear hb3 hw3
      go_wp2_with fail
      refine (Tryz.Builder_WriteString w.heap.size w.heap.size _ y w3 (Or.inr B3.out) (by rw [List.length_append, hl0, Lib.strCells_length]; omega) hsz3).mono ?_
      rintro e w4 ⟨rfl, hb4, hw4⟩
      rw [hnext.out] at hb4
      have B4 := hid (Or.inr hb4 : Lib.IsBuilder 101 5 w.heap.size w.heap.size _ w4)
      have W4 := hid ((WK.out.trans W3.out).trans hw4)
      clear hb4 hw4
      go_wp2
      exact ⟨⟨k + 1, by omega, by go_num, B4, W4⟩, by simp [intOf]; omega⟩
     ·have hke : k = r.length := by omega
      subst hke
      have hb := BK.out
      rw [List.take_of_length_le (show (r.map (·.data.toList)).length ≤ r.length by simp), ← HW.out] at hb
      have hsz : w.heap.size ≤ wr.heap.size := WK.out.size
      go_wp2_with fail
      refine (Tryz.Builder_String_any w.heap.size w.heap.size _ wr hb hsz).mono ?_
      rintro e w5 ⟨rfl, hw5⟩
      have W5 := hid (WK.out.trans hw5)
      clear hb hw5
      go_wp2
      go_ret
      exact ⟨rfl, W5.out⟩)
end Go.Proofs.YtghhkbigmmjanaaGreatDoor.VA

/-! Tj -/
namespace Go.Proofs.YtghhkbigmmjanaaGreatDoor.VA
open Go Go.RowKit
set_option linter.unusedSimpArgs false
set_option maxRecDepth 100000

theorem strs_some : ∀ (es : List (List AV)) (l : List (List UInt8)), strs es = some l → es = l.map encS
 | [], l, h => by simp [strs] at h; subst h; rfl
 | e :: es, l, h => by
  unfold strs at h
  split at h
  ·rename_i heq; cases heq
  ·rename_i s r heq
   obtain ⟨rfl, rfl⟩ := List.cons.inj heq
   cases hr : strs es with
   | none => simp [hr] at h
   | some l' =>
    simp [hr] at h
    subst h
    rw [strs_some es l' hr]
    simp [encS, ← ba_eta]
  ·cases h
theorem join_none (a : Option Addr) (c : Nat) (sep : ByteArray) (w : World) : Calls Tryz.prog 44 #[.slice a 0 c, .string sep] w fun e w' => e = .returned (.string ⟨#[]⟩) ∧ w' = w := by
 go_enter Tryz.func44, Tryz.ntmps44
 go_wp2
 go_ret
 exact ⟨rfl, rfl⟩
theorem join_one (bk o c : Nat) (x sep : ByteArray) (w : World) (hc : w.cell? ⟨bk, o, none⟩ = some (.string x)) :
  Calls Tryz.prog 44 #[.slice (some ⟨bk, o, none⟩) 1 c, .string sep] w fun e w' => e = .returned (.string x) ∧ w' = w := by
 go_enter Tryz.func44, Tryz.ntmps44
 go_wp2
 go_ret
 exact ⟨rfl, rfl⟩
theorem lib_join_ba (l : List (List UInt8)) (sep : ByteArray) : (⟨(Lib.join ((l.map ba).map (·.data.toList)) sep.data.toList).toArray⟩ : ByteArray) = ba (joined sep.data.toList l) := by
 have : (l.map ba).map (·.data.toList) = l := by simp [Function.comp_def]
 rw [this]; rfl
theorem told_join {C : Cond} : ToldOk Tryz.prog C 44 tJoin := by
 refine ⟨fun vs w => callFunc_enter Tryz.func44 (by kernel_rfl) rfl vs w, ?_⟩
 intro args v h g H w vs hC hi hr
 unfold tJoin at h
 split at h
 ·rename_i o es sep
  split at h
  ·rename_i l hl
   split at h
   ·rename_i hc
    simp only [Option.some.injEq] at h
    subst h
    obtain ⟨v0, v1, rfl⟩ := two_args (by have := hr.1; simpa using this)
    have h1 := hr.tail.head.lit_inv
    subst h1
    have h0 := hr.head
    have hes := strs_some _ _ hl
    subst hes
    have post : ∀ (r : Ending) (w' : World), (r = .returned (.string (ba (joined sep.data.toList l))) ∧ Below w.heap.size w w') →
      ∃ u g', r = .returned u ∧ Ext g w g' w' ∧ Inv g' H w' ∧ g'.box = g.box ∧ g'.own = g.own ∧ Rel g' w' (.lit (.string (ba (joined sep.data.toList l)))) u := by
     rintro r w' ⟨rfl, hb⟩
     obtain ⟨k1, k2⟩ := below_step hi hb
     exact ⟨_, g, rfl, k1, k2, rfl, rfl, .lit _⟩
    have none_case : ∀ (a : Option Addr) (c : Nat), l = [] → Calls Tryz.prog 44 #[.slice a 0 c, .string sep] w fun en w' => ∃ u g', en = .returned u ∧ Ext g w g' w' ∧ Inv g' H w' ∧ g'.box = g.box ∧ g'.own = g.own ∧
      Rel g' w' (.lit (.string (ba (joined sep.data.toList l)))) u := by
     intro a c hl0
     refine (join_none a c sep w).mono fun r w' hh => post r w' ?_
     obtain ⟨rfl, rfl⟩ := hh
     exact ⟨by rw [hl0]; rfl, Below.refl _ _⟩
    generalize hes : l.map encS = es at h0
    cases h0 with
    | sl _ _ a n cap sz f ho hn hcap hex hown hsz h1 ha hrel =>
     subst hes
     rw [List.length_map] at hn
     subst hn
     cases hlen : l.length with
     | zero => exact none_case a cap (List.eq_nil_of_length_eq_zero hlen)
     | succ m =>
      rw [← hlen]
      have hsz1 : sz = 1 := by
       have hne : l ≠ [] := by intro hh; rw [hh] at hlen; cases hlen
       obtain ⟨x, l', rfl⟩ : ∃ x l', l = x :: l' := by cases l with | nil => exact absurd rfl hne | cons x l' => exact ⟨x, l', rfl⟩
       exact (hsz (encS x) (by simp)).symm
      subst hsz1
      obtain ⟨b, off, rfl, hv, hcells⟩ := ha (by omega)
      have cells : ∀ (j : Nat) x, l[j]? = some x → w.cell? ⟨b, off + j, none⟩ = some (.string (ba x)) := by
       intro j x hx
       have hj : j < l.length := (List.getElem?_eq_some_iff.1 hx).1
       rw [hcells j (by omega)]
       have := hrel j (encS x) 0 (.lit (.string (ba x))) (by simp [hx]) rfl
       have := this.lit_inv
       simp at this
       rw [this]
      have hb : b < w.heap.size := by
       apply Classical.byContradiction
       intro hb
       have h2 := hcells 0 (by omega)
       simp [World.cell?, Array.getElem?_eq_none (show w.heap.size ≤ b by omega)] at h2
      cases m with
      | zero =>
       obtain ⟨x, rfl⟩ : ∃ x, l = [x] := by
        match l, hlen with
        | [x], _ => exact ⟨x, rfl⟩
       refine (join_one b off cap (ba x) sep w (cells 0 x rfl)).mono fun r w' hh => post r w' ?_
       obtain ⟨rfl, rfl⟩ := hh
       refine ⟨?_, Below.refl _ _⟩
       simp [joined, Lib.join_one]
      | succ m =>
       have hj := join_many b off cap (l.map ba) sep w (by
        intro j x hx
        rw [List.getElem?_map] at hx
        cases hl2 : l[j]? with
        | none => rw [hl2] at hx; cases hx
        | some y => rw [hl2] at hx; simp at hx; subst hx; exact cells j y hl2) hb (by simp; omega) (by simp; omega) (by simp; omega) (by
        have : (l.map ba).map (·.data.toList) = l := by simp [Function.comp_def]
        rw [this]; exact hc.1)
       rw [lib_join_ba, List.length_map] at hj
       exact hj.mono fun r w' hh => post r w' hh
    | nil =>
     exact none_case none 0 (List.map_eq_nil_iff.1 hes)
   ·cases h
  ·cases h
 ·cases h
end Go.Proofs.YtghhkbigmmjanaaGreatDoor.VA

/-! St -/
namespace Go.Proofs
open Go.Shelf
def Tryz.laysM171_ren : Go.Shelf.Ren := ⟨fun | 171 => 108 | 243 => 120 | 246 => 124 | 283 => 130 | 284 => 131 | 285 => 132 | 286 => 133 | 129 => 142 | 317 => 141 | 318 => 143 | 319 => 144 | 320 => 145 | 337 => 149 | 338 => 150 | n => n, fun | 3 => 3 | 9 => 9 | 2 => 2 | 4 => 4 | 171 => 144 | 0 => 0 | 53 => 133 | 37 => 99 | 5 => 5 | 173 => 147 | 212 => 157 | 51 => 158 | 20 => 20 | 213 => 159 | 46 => 161 | 232 => 174 | 233 => 175 | n => n, fun | 17 => 1 | 18 => 4 | 19 => 5 | n => n⟩
theorem Tryz.laysM171 : Go.Proofs.LaysM.n171 Tryz.prog Tryz.laysM171_ren := {
 mixed := by kernel_rfl
 f129 := Tryz.func142.trans (congrArg some (by kernel_rfl))
 f171 := Tryz.func108.trans (congrArg some (by kernel_rfl))
 f243 := Tryz.func120.trans (congrArg some (by kernel_rfl))
 f246 := Tryz.func124.trans (congrArg some (by kernel_rfl))
 f283 := Tryz.func130.trans (congrArg some (by kernel_rfl))
 f284 := Tryz.func131.trans (congrArg some (by kernel_rfl))
 f285 := Tryz.func132.trans (congrArg some (by kernel_rfl))
 f286 := Tryz.func133.trans (congrArg some (by kernel_rfl))
 f317 := Tryz.func141.trans (congrArg some (by kernel_rfl))
 f318 := Tryz.func143.trans (congrArg some (by kernel_rfl))
 f319 := Tryz.func144.trans (congrArg some (by kernel_rfl))
 f320 := Tryz.func145.trans (congrArg some (by kernel_rfl))
 f337 := Tryz.func149.trans (congrArg some (by kernel_rfl))
 f338 := Tryz.func150.trans (congrArg some (by kernel_rfl))
 t0 := Tryz.underlying0
 a0 := Tryz.isAgg0
 z0 := Tryz.sizeOf0
 v0 := Tryz.zeroValue0
 t2 := Tryz.underlying2
 a2 := Tryz.isAgg2
 z2 := Tryz.sizeOf2
 v2 := Tryz.zeroValue2
 t3 := Tryz.underlying3
 a3 := Tryz.isAgg3
 z3 := Tryz.sizeOf3
 v3 := Tryz.zeroValue3
 t4 := Tryz.underlying4
 a4 := Tryz.isAgg4
 z4 := Tryz.sizeOf4
 v4 := Tryz.zeroValue4
 t5 := Tryz.underlying5
 a5 := Tryz.isAgg5
 z5 := Tryz.sizeOf5
 v5 := Tryz.zeroValue5
 t9 := Tryz.underlying9
 a9 := Tryz.isAgg9
 z9 := Tryz.sizeOf9
 v9 := Tryz.zeroValue9
 t20 := Tryz.underlying20
 a20 := Tryz.isAgg20
 z20 := Tryz.sizeOf20
 v20 := Tryz.zeroValue20
 t37 := Tryz.underlying99
 a37 := Tryz.isAgg99
 z37 := Tryz.sizeOf99
 v37 := Tryz.zeroValue99
 t46 := Tryz.underlying161
 a46 := Tryz.isAgg161
 z46 := Tryz.sizeOf161
 v46 := Tryz.zeroValue161
 t51 := Tryz.underlying158
 a51 := Tryz.isAgg158
 z51 := Tryz.sizeOf158
 v51 := Tryz.zeroValue158
 t53 := Tryz.underlying133
 a53 := Tryz.isAgg133
 z53 := Tryz.sizeOf133
 v53 := Tryz.zeroValue133
 t171 := Tryz.underlying144
 a171 := Tryz.isAgg144
 z171 := Tryz.sizeOf144
 v171 := Tryz.zeroValue144
 t173 := Tryz.underlying147
 a173 := Tryz.isAgg147
 z173 := Tryz.sizeOf147
 v173 := Tryz.zeroValue147
 t212 := Tryz.underlying157
 a212 := Tryz.isAgg157
 z212 := Tryz.sizeOf157
 v212 := Tryz.zeroValue157
 t213 := Tryz.underlying159
 a213 := Tryz.isAgg159
 z213 := Tryz.sizeOf159
 t232 := Tryz.underlying174
 a232 := Tryz.isAgg174
 z232 := Tryz.sizeOf174
 v232 := Tryz.zeroValue174
 t233 := Tryz.underlying175
 a233 := Tryz.isAgg175
 z233 := Tryz.sizeOf175
 v233 := Tryz.zeroValue175
 g17 := by kernel_rfl
 g18 := by kernel_rfl
 g19 := by kernel_rfl
 i0 := by kernel_rfl
 i2 := by kernel_rfl
 i3 := by kernel_rfl
 i4 := by kernel_rfl
 i5 := by kernel_rfl
 i9 := by kernel_rfl
 i20 := by kernel_rfl
 i37 := by kernel_rfl
 i46 := by kernel_rfl
 i51 := by kernel_rfl
 i53 := by kernel_rfl
 i171 := by kernel_rfl
 i173 := by kernel_rfl
 i212 := by kernel_rfl
 i232 := by kernel_rfl
 i233 := by kernel_rfl
 m17 := by kernel_rfl
 m18 := by kernel_rfl
 m19 := by kernel_rfl }
open Go.RowKit Go.Sort Go.Lib in
/-- strconv.Itoa: "Itoa is equivalent to FormatInt(int64(i), 10).": i's DECIMAL NUMERAL ('Lib.itoa': a '-' where i is negative, then the digits), FOR EVERY int. The world behind the call: the world before it, new blocks behind the heap (the library's 'var a [24]byte'), draws. (LAID: no walk: one application.) -/
theorem Tryz.strconv_Itoa (n : Int) (h0 : -9223372036854775808 ≤ n) (h1 : n ≤ 9223372036854775807) (w : World) (htab : Lib.TabIs Tryz.prog w "internal/strconv.uint64pow10" .u64 Lib.pow10Tab) :
  Calls Tryz.prog 108 #[.int .i64 n] w fun e w' => e = .returned (.string ⟨(Lib.itoa n).toArray⟩) ∧ ∃ k os, w' = grow (w.drewN k) os := Any.strconv_Itoa Tryz.laysM171 n h0 h1 w htab
end Go.Proofs
