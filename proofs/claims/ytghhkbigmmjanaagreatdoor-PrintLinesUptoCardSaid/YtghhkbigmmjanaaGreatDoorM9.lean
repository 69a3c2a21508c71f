/- What is proved: the library's Atoi, walked at this program: at digits, at most 18 of them, it answers their number and no error. Condition: so many digits. The way follows the shelf's own, uncompiled, text.
What is proved: strings.IndexByte answers as the abstract interpreter (VA) is told. No condition.
What is proved: strconv.Itoa answers as the abstract interpreter (VA) is told. Condition: the library's table of powers of ten lies in memory. -/
import Derived.Test.YtghhkbigmmjanaaGreatDoorM6
import Derived.Shelf.LaysM
import Derived.Lib.Strings
import Derived.Lib.Walk
import Derived.Lib.ConvBytes
import Derived.Lib.Atoi
import Derived.Lib.ItoaWalk
import Derived.Lib.Hide
import Derived.Laws.Strings3
import Derived.WalkKit
import Derived.BigCall
import Derived.BigGuard
import Derived.Test.YtghhkbigmmjanaaGreatDoorM4
import Derived.Test.YtghhkbigmmjanaaGreatDoorM5
/-! Ta1 -/
namespace Go.Proofs.YtghhkbigmmjanaaGreatDoor.VA
open Go Go.Shelf Go.RowKit
set_option linter.unusedVariables false
set_option linter.unusedSimpArgs false

set_option maxHeartbeats 6400000 in
set_option maxRecDepth 100000 in
theorem inner_atoi (s : ByteArray) (m : Nat) (b0 : UInt8) (r : List UInt8) (hL : s.data.toList = b0 :: r) (hn45 : b0 ≠ 45) (hn43 : b0 ≠ 43) (hl : s.size ≤ 18) (hm : Lib.decFrom 0 s.data.toList = some m) (w : World) :
  Calls Tryz.prog 126 #[.string s] w fun e w' => e = .returned (.tuple #[.int .i64 (m : Nat), .nilIface]) ∧ ∃ t, w' = Lib.bytesWorld w 5 t := by
 have hsz : s.size = r.length + 1 := by rw [Lib.size_eq, hL]; rfl
 have hpos : 0 < s.size := by omega
 have hs0 : s[0]'hpos = b0 := by have := Lib.getD_at s 0 hpos; rw [hL] at this; exact this
 have h45 : ((b0.toNat : Int) == 45) = false := beq_eq_false_iff_ne.2 fun e => hn45 (UInt8.toNat_inj.1 (by show b0.toNat = 45; omega))
 have h43 : ((b0.toNat : Int) == 43) = false := beq_eq_false_iff_ne.2 fun e => hn43 (UInt8.toNat_inj.1 (by show b0.toNat = 43; omega))
 clear hL hn45 hn43
 have hcv := Lib.run_convert_string_bytes (P := Tryz.prog) w 9 99 5 s (u := .string) Tryz.underlying9 Tryz.underlying99 Tryz.underlying5
 have hB : ∀ j, j < s.size → (Lib.bytesWorld w 5 s).cell? ⟨w.heap.size, j, none⟩ = some (.int .u8 (s.data.toList.getD j 0).toNat) := fun j hj => Lib.bytesWorld_cell w 5 s j hj
 obtain ⟨W1, hW1⟩ : ∃ W1, W1 = Lib.bytesWorld w 5 s := ⟨_, rfl⟩
 rw [← hW1] at hcv hB
 have HW := Lib.hid hW1
 have HB := Lib.hid hB
 have hm18 := Lib.decFrom_lt18 hm (by rw [← Lib.size_eq]; omega)
 have HM := Lib.hid hm
 clear hW1 hB hm
 go_enter Tryz.func126, Tryz.ntmps126
 go_wp2
 go_loop [49, 6] (fun vi vn => ∃ (k acc : Nat), k ≤ s.size ∧ vi = .int .i64 k ∧ vn = .int .i64 acc ∧ Hid (Lib.decFrom 0 (s.data.toList.take k) = some acc)) (fun vi _ => s.size - (RowKit.intOf vi).toNat)
 case atStart => exact ⟨0, 0, Nat.zero_le _, rfl, rfl, rfl⟩
 case round =>
  obtain ⟨k, acc, hk, rfl, rfl, hacc⟩ := hrel
  by_cases hkn : k < s.size
  ·obtain ⟨x, hx⟩ : ∃ x, x = s.data.toList.getD k 0 := ⟨_, rfl⟩
   have hxk : s.data.toList[k]? = some x := by
    rw [hx, List.getD, List.getElem?_eq_getElem (by rw [← Lib.size_eq]; exact hkn)]
    rfl
   have hc1 : W1.cell? ⟨w.heap.size, k, none⟩ = some (.int .u8 x.toNat) := by rw [hx]; exact HB.out k hkn
   obtain ⟨dv, hdv⟩ := Lib.digit_of_decFrom _ 0 m HM.out k x hxk
   obtain ⟨h48, h57, hde⟩ := Lib.digitVal_eq hdv
   have hlt := Lib.decFrom_take_lt hacc.out (by omega)
   have Hxk := Lib.hid hxk
   have Hdv := Lib.hid hdv
   clear hx hxk hdv
   go_wp2
   go_round
   case rel => exact ⟨k + 1, acc * 10 + dv, by omega, by go_num, by first | go_num | (congr 1; omega), Lib.decFrom_take _ k 0 acc x dv hacc.out Hxk.out Hdv.out⟩
   case measure => simp [RowKit.intOf]; omega
  ·have hke : k = s.size := by omega
   subst hke
   have hfin : acc = m := by
    have h1 := hacc.out
    rw [List.take_of_length_le (by rw [← Lib.size_eq]; exact Nat.le_refl _), HM.out] at h1
    exact (Option.some.inj h1).symm
   subst hfin
   go_wp2
   go_ret2
   exact ⟨rfl, s, HW.out⟩
set_option maxRecDepth 100000 in
theorem outer_atoi (s : ByteArray) (m : Nat) (b0 : UInt8) (r : List UInt8) (hL : s.data.toList = b0 :: r) (hn45 : b0 ≠ 45) (hn43 : b0 ≠ 43) (hl : s.size ≤ 18) (hm : Lib.decFrom 0 s.data.toList = some m) (w : World) :
  Calls Tryz.prog 122 #[.string s] w fun e w' => e = .returned (.tuple #[.int .i64 (m : Nat), .nilIface]) ∧ ∃ t, w' = Lib.bytesWorld w 5 t := by
 have e244 : ∀ args w, (callFunc 126 args).run Tryz.prog w = .ok (.enter 126 args) w := enters_of Tryz.func126 (by kernel_rfl) rfl
 go_enter Tryz.func122, Tryz.ntmps122
 go_wp2_with (go_at_fn 126; refine (inner_atoi s m b0 r hL hn45 hn43 hl hm _).mono ?_; rintro e w' ⟨rfl, t, rfl⟩)
 go_ret2
 exact ⟨rfl, t, rfl⟩
end Go.Proofs.YtghhkbigmmjanaaGreatDoor.VA

/-! Lt1 -/
namespace Go.Proofs.YtghhkbigmmjanaaGreatDoor.VA
open Go Go.RowKit
set_option linter.unusedSimpArgs false
set_option maxRecDepth 100000

theorem idx_lib {c : Nat} (hc : c < 256) : ∀ (l : List UInt8) (i : Nat), (Lib.indexByte l c.toUInt8 = -1 ∧ idxByte l c i = -1) ∨ (0 ≤ Lib.indexByte l c.toUInt8 ∧ idxByte l c i = Lib.indexByte l c.toUInt8 + (i : Int))
 | [], i => .inl ⟨rfl, rfl⟩
 | x :: l, i => by
  have hs : Lib.indexByte (x :: l) c.toUInt8 = if (x == c.toUInt8) = true then 0 else if (Lib.indexByte l c.toUInt8 == -1) = true then -1 else Lib.indexByte l c.toUInt8 + 1 := rfl
  have ht : idxByte (x :: l) c i = if x.toNat = c then (i : Int) else idxByte l c (i + 1) := rfl
  by_cases hx : x.toNat = c
  ·have h1 : (x == c.toUInt8) = true := by rw [← hx]; simp
   rw [if_pos h1] at hs
   rw [if_pos hx] at ht
   rw [hs, ht]
   exact .inr ⟨by omega, by omega⟩
  ·have h1 : ¬ (x == c.toUInt8) = true := by
    intro hh; apply hx; rw [eq_of_beq hh]; simp; omega
   rw [if_neg h1] at hs
   rw [if_neg hx] at ht
   rcases idx_lib hc l (i + 1) with ⟨h2, h3⟩ | ⟨h2, h3⟩
   ·rw [if_pos (by rw [h2]; rfl)] at hs
    rw [hs, ht]
    exact .inl ⟨rfl, h3⟩
   ·have h4 : ¬ (Lib.indexByte l c.toUInt8 == -1) = true := fun hh => by have := eq_of_beq hh; omega
    rw [if_neg h4] at hs
    rw [hs, ht]
    exact .inr ⟨by omega, by omega⟩
theorem told_index {C : Cond} : ToldOk Tryz.prog C 80 tIndexByte := by
 refine ⟨fun vs w => callFunc_enter Tryz.func80 (by kernel_rfl) rfl vs w, ?_⟩
 intro args v h g H w vs hC hi hr
 unfold tIndexByte at h
 split at h
 ·rename_i s c
  split at h
  ·rename_i hc
   simp only [Option.some.injEq] at h
   subst h
   obtain ⟨v0, v1, hvs⟩ : ∃ v0 v1, vs = #[v0, v1] := by
    have hl := hr.1
    simp at hl
    refine ⟨vs[0], vs[1], ?_⟩
    apply Array.ext <;> simp <;> try omega
    intro i h1 h2
    match i, h2 with
    | 0, _ => rfl
    | 1, _ => rfl
   subst hvs
   have h0 := hr.head.lit_inv
   have h1 := hr.tail.head.lit_inv
   subst h0; subst h1
   refine (Tryz.strings_IndexByte s c w).mono ?_
   rintro en w' ⟨rfl, rfl⟩
   refine ⟨_, g, rfl, Ext.refl g _, hi, rfl, rfl, ?_⟩
   have he : idxByte s.data.toList c.toNat 0 = Lib.indexByte s.data.toList c.toNat.toUInt8 := by
    rcases idx_lib hc s.data.toList 0 with ⟨h2, h3⟩ | ⟨h2, h3⟩ <;> omega
   rw [he]
   exact .lit _
  ·cases h
 ·cases h
end Go.Proofs.YtghhkbigmmjanaaGreatDoor.VA

/-! Ti -/
namespace Go.Proofs.YtghhkbigmmjanaaGreatDoor.VA
open Go Go.RowKit
set_option linter.unusedSimpArgs false

theorem below_grow (w : World) (k : Nat) (os : Array Obj) : Below w.heap.size w (Sort.grow (w.drewN k) os) := by
 refine ⟨rfl, rfl, rfl, by simp [Sort.grow], fun b hb => ?_⟩
 simp only [Sort.grow]
 exact Array.getElem?_append_left (show b < (w.drewN k).heap.size from hb)
theorem told_itoa : ToldOk Tryz.prog CC 108 tItoa := by
 refine ⟨fun vs w => callFunc_enter Tryz.func108 (by kernel_rfl) rfl vs w, ?_⟩
 intro args v h g H w vs hC hi hr
 unfold tItoa at h
 split at h
 ·rename_i n
  split at h
  ·rename_i hc
   simp only [Option.some.injEq] at h
   subst h
   obtain ⟨v0, hvs⟩ : ∃ v0, vs = #[v0] := by
    have hl : vs.size = 1 := by have := hr.1; simpa using this.symm
    refine ⟨vs[0]'(by omega), ?_⟩
    apply Array.ext
    ·simp [hl]
    ·intro i h1 h2
     have h0 : i = 0 := by omega
     subst h0
     rfl
   subst hvs
   have h0 := hr.head.lit_inv
   subst h0
   have hcd := hi.cond
   rw [hC] at hcd
   refine (Tryz.strconv_Itoa n hc.1 hc.2 w hcd.1).mono ?_
   rintro en w' ⟨rfl, k, os, rfl⟩
   obtain ⟨hx, hv⟩ := below_step hi (below_grow w k os)
   exact ⟨_, g, rfl, hx, hv, rfl, rfl, .lit _⟩
  ·cases h
 ·cases h
end Go.Proofs.YtghhkbigmmjanaaGreatDoor.VA
