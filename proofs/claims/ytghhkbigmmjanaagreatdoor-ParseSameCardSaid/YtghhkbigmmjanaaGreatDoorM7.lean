/- What is proved: what the parser's small functions answer, or panic with, in the abstract interpreter (VA). Condition: no more tokens than a machine holds.
What is proved: what the parser's take, need, name and operand answer, or panic with, in the abstract interpreter (VA). Condition: no more tokens than a machine holds.
What is proved: what the parser's operand answers, or panics with, in the abstract interpreter (VA). Condition: no more tokens than a machine holds.
What is proved: what the parser's lists come to, closures and all, in the abstract interpreter (VA). Condition: no more tokens than a machine holds.
What is proved: what the parser's lists of operands and of names come to, in the abstract interpreter (VA). Condition: no more tokens than a machine holds.
What is proved: what the parser's object comes to, in the abstract interpreter (VA). Condition: no more tokens than a machine holds.
What is proved: what the parser's object answers, or panics with, in the abstract interpreter (VA). Condition: no more tokens than a machine holds. -/
import Derived.Test.YtghhkbigmmjanaaGreatDoorM6
/-! Pe1 -/
namespace Go.Proofs.YtghhkbigmmjanaaGreatDoor.VA
open Go Go.RowKit
attribute [local go_sem] Nat.add_eq_left Nat.left_eq_add true_and and_true ite_true if_false Int.cast_ofNat_Int eq_self Nat.add_assoc Option.some.injEq decide_true decide_false Bool.not_true Bool.not_false List.size_toArray List.length_cons List.length_nil
set_option linter.unusedSimpArgs false
set_option maxRecDepth 100000

theorem conc_tro : Tryz.prog.concrete 73 = true := by kernel_rfl
section
variable {l : List GTok} {en : Int} {r : Nat} {s : PS} {H : Heap}
theorem ne_new {H : Heap} {r : Nat} (h : r < H.next) : ∀ k, (H.next + k = r) = False := fun k => eq_false (by omega)
theorem ne_new' {H : Heap} {r : Nat} (h : r < H.next) : ∀ k, (r = H.next + k) = False := fun k => eq_false (by omega)
theorem ne_new0 {H : Heap} {r : Nat} (h : r < H.next) : (H.next = r) = False := eq_false (by omega)
theorem c_place (_ : r < H.next) (hg : H.get r = some (cP l en s)) : PCall Tryz.prog cfg r 113 [.ptr r 0] H (.ok (.lit (.int .i64 (place l en s.at_))) (cP l en s)) := by
  refine PCall_of' (fn := Tryz.f113) rfl rfl rfl rfl rfl ?_
  have rs : Tryz.f113.results.toList = [.tmp 2] := rfl
  simp only [go_sem, Nat.reduceBEq, Nat.reduceLeDiff, Nat.reduceEqDiff, Nat.reduceSub, Nat.reduceAdd, Int.reduceEq, Int.reduceLT, Int.reduceLE, Int.reduceAdd]
  refine W_draw [(3, 7)] (by kernel_rfl) ?_
  by_cases hlt : s.at_ < l.length
  · have hlt' : decide ((s.at_ : Int) < (l.length : Nat)) = true := by simp; omega
    have ha := iad_encG (t := 66) (bs := 32) (o := .sh) hlt
    have hp : place l en s.at_ = (l.getD s.at_ default).at_ := by simp only [place, hlt, if_true]
    rw [hp]
    simp only [go_sem, Nat.reduceBEq, Nat.reduceLeDiff, Nat.reduceEqDiff, Nat.reduceSub, Nat.reduceAdd, Int.reduceEq, Int.reduceLT, Int.reduceLE, Int.reduceAdd, hg, List.length_map, hlt']
    refine W_draw [(3, 7)] (by kernel_rfl) ?_
    simp only [go_sem, Nat.reduceBEq, Nat.reduceLeDiff, Nat.reduceEqDiff, Nat.reduceSub, Nat.reduceAdd, Int.reduceEq, Int.reduceLT, Int.reduceLE, Int.reduceAdd, rs, hg, ha, encG]
    (repeat first | exact Adv.refl _ _ | assumption | refine Adv.trans ?_ ha1 | refine Adv.trans ?_ ha2 | refine Adv.trans ?_ ha3 | refine Adv.trans ?_ ha4 | refine Adv.trans ?_ ha5 | refine Adv.trans ?_ ha6 | apply Adv.up | apply Adv.put | refine Adv.new ?_ (by omega) _ | refine Adv.live ?_ (by omega) _)
  · have hlt' : decide ((s.at_ : Int) < (l.length : Nat)) = false := by simp; omega
    have hp : place l en s.at_ = en := by simp only [place, hlt, if_false]
    rw [hp]
    simp only [go_sem, Nat.reduceBEq, Nat.reduceLeDiff, Nat.reduceEqDiff, Nat.reduceSub, Nat.reduceAdd, Int.reduceEq, Int.reduceLT, Int.reduceLE, Int.reduceAdd, rs, hg, List.length_map, hlt']
    (repeat first | exact Adv.refl _ _ | assumption | refine Adv.trans ?_ ha1 | refine Adv.trans ?_ ha2 | refine Adv.trans ?_ ha3 | refine Adv.trans ?_ ha4 | refine Adv.trans ?_ ha5 | refine Adv.trans ?_ ha6 | apply Adv.up | apply Adv.put | refine Adv.new ?_ (by omega) _ | refine Adv.live ?_ (by omega) _)
theorem c_fail (hr : r < H.next) (hg : H.get r = some (cP l en s)) (code : Nat) {k : Int} (hk : k = ((code + 20 : Nat) : Int)) :
    PCall Tryz.prog cfg r 101 [.ptr r 0, .lit (.int .i64 k)] H (.bad (encTrouble code (place l en s.at_))) := by
  refine PCall_of' (fn := Tryz.f101) rfl rfl rfl rfl rfl ?_
  have rs : Tryz.f101.results.toList = [] := rfl
  subst hk
  simp only [go_sem, Nat.reduceBEq, Nat.reduceLeDiff, Nat.reduceEqDiff, Nat.reduceSub, Nat.reduceAdd, Int.reduceEq, Int.reduceLT, Int.reduceLE, Int.reduceAdd]
  refine goC_ok (c_place (s := s) (l := l) (en := en) (by simp only [go_sem, Nat.reduceBEq, Nat.reduceLeDiff, Nat.reduceEqDiff, Nat.reduceSub, Nat.reduceAdd, Int.reduceEq, Int.reduceLT, Int.reduceLE, Int.reduceAdd]; omega) (by simp only [go_sem, Nat.reduceBEq, Nat.reduceLeDiff, Nat.reduceEqDiff, Nat.reduceSub, Nat.reduceAdd, Int.reduceEq, Int.reduceLT, Int.reduceLE, Int.reduceAdd, hg])) ?_
  intro H1 hg1 ha1
  have e1 : ∀ (ρ : Operand → AV) (H : Heap) (id : Nat) (x : Operand), astep Tryz.prog ρ H id (.makeInterface 73 x) = some (.val (.ifc 73 (ρ x)) [] []) := fun ρ H id x => st_makeIface x conc_tro
  simp only [go_sem, Nat.reduceBEq, Nat.reduceLeDiff, Nat.reduceEqDiff, Nat.reduceSub, Nat.reduceAdd, Int.reduceEq, Int.reduceLT, Int.reduceLE, Int.reduceAdd, e1, encTrouble]
  (repeat first | exact Adv.refl _ _ | assumption | refine Adv.trans ?_ ha1 | refine Adv.trans ?_ ha2 | refine Adv.trans ?_ ha3 | refine Adv.trans ?_ ha4 | refine Adv.trans ?_ ha5 | refine Adv.trans ?_ ha6 | apply Adv.up | apply Adv.put | refine Adv.new ?_ (by omega) _ | refine Adv.live ?_ (by omega) _)
theorem slice_tok {i : Nat} (h : i < l.length) : aSlice Tryz.prog 45 (.sl .sh (l.map encG)) (some (.lit (.int .i64 (i : Nat)))) (some (.lit (.int .i64 (i + 1 : Nat)))) = some (.sl .sh ([l.getD i default].map encG)) := by
  have hi : (l.map encG)[i]? = some (encG (l.getD i default)) := by
    rw [List.getElem?_map, List.getElem?_eq_getElem h, List.getD_eq_getElem?_getD, List.getElem?_eq_getElem h]; rfl
  have hd : ((l.map encG).drop i).take 1 = [l.getD i default].map encG := by
    rw [← List.map_drop, drop_cons' default h]; rfl
  have h1 : ((i + 1 : Nat) : Int) = (i : Int) + 1 := by omega
  simp only [aSlice, el_tok, optNat, aNat_cast, hi, List.length_map]
  rw [if_pos (by omega), if_neg (by omega)]
  simp only [encG, List.length_cons, List.length_nil, if_true]
  rw [show i + 1 - i = 1 by omega, hd]
/-- The next token, or the zero one. -/
def peekG (l : List GTok) (s : PS) : GTok := match l[s.at_]? with | some x => if rightG x = true then x else ⟨-1, [], 0⟩ | none => ⟨-1, [], 0⟩
theorem c_peek (hlen : l.length ≤ LM) (hr : r < H.next) (hg : H.get r = some (cP l en s)) : PCall Tryz.prog cfg r 114 [.ptr r 0] H (.ok (.agg (encG (peekG l s))) (cP l en s)) := by
  refine PCall_of' (fn := Tryz.f114) rfl rfl rfl rfl rfl ?_
  have rs : Tryz.f114.results.toList = [.cell 2 66] := rfl
  have hn := ne_new hr
  have hn' := ne_new' hr
  have hn0 := ne_new0 hr
  simp only [go_sem, Nat.reduceBEq, Nat.reduceLeDiff, Nat.reduceEqDiff, Nat.reduceSub, Nat.reduceAdd, Int.reduceEq, Int.reduceLT, Int.reduceLE, Int.reduceAdd]
  refine W_draw [(3, 7), (14, 18), (14, 22), (18, 22)] (by kernel_rfl) ?_
  have hz : encG ⟨-1, [], 0⟩ = [.lit (.int .i64 (-1)), .lit (.string (ba [])), .lit (.int .i64 0)] := rfl
  by_cases hlt : s.at_ < l.length
  · have hlt' : decide ((s.at_ : Int) < (l.length : Nat)) = true := by simp; omega
    have hx : l[s.at_]? = some (l.getD s.at_ default) := by rw [List.getD_eq_getElem?_getD, List.getElem?_eq_getElem hlt]; rfl
    have hw := at_wrap hlen hlt
    have hsl := slice_tok hlt
    have ha := iad_encG (t := 66) (bs := 32) (o := .sh) hlt
    generalize l.getD s.at_ default = x at hx hsl ha
    have hmay : [x].all rightG = rightG x := by simp
    have hm : ∀ H, calls Tryz.prog cfg 121 [.sl .sh [encG x]] H = some (.ret (.lit (.bool (rightG x))) H) := fun H => by
      have := c_may [x] (by simp) .sh H
      rwa [hmay] at this
    cases hR : rightG x with
    | true =>
      have hp : peekG l s = x := by simp only [peekG, hx, hR, if_true]
      rw [hp]
      simp only [go_sem, Nat.reduceBEq, Nat.reduceLeDiff, Nat.reduceEqDiff, Nat.reduceSub, Nat.reduceAdd, Int.reduceEq, Int.reduceLT, Int.reduceLE, Int.reduceAdd, hg, hn, hn0, List.length_map, hlt', hw, hsl, hm, hR]
      refine W_draw [(3, 7)] (by kernel_rfl) ?_
      simp only [go_sem, Nat.reduceBEq, Nat.reduceLeDiff, Nat.reduceEqDiff, Nat.reduceSub, Nat.reduceAdd, Int.reduceEq, Int.reduceLT, Int.reduceLE, Int.reduceAdd, rs, hg, hn, hn0, ha, encG]
      (repeat first | exact Adv.refl _ _ | assumption | refine Adv.trans ?_ ha1 | refine Adv.trans ?_ ha2 | refine Adv.trans ?_ ha3 | refine Adv.trans ?_ ha4 | refine Adv.trans ?_ ha5 | refine Adv.trans ?_ ha6 | apply Adv.up | apply Adv.put | refine Adv.new ?_ (by omega) _ | refine Adv.live ?_ (by omega) _)
    | false =>
      have hp : peekG l s = ⟨-1, [], 0⟩ := by simp only [peekG, hx, hR]; rfl
      rw [hp]
      simp only [go_sem, Nat.reduceBEq, Nat.reduceLeDiff, Nat.reduceEqDiff, Nat.reduceSub, Nat.reduceAdd, Int.reduceEq, Int.reduceLT, Int.reduceLE, Int.reduceAdd, rs, hg, hn, hn0, List.length_map, hlt', hw, hsl, hm, hR, hz]
      (repeat first | exact Adv.refl _ _ | assumption | refine Adv.trans ?_ ha1 | refine Adv.trans ?_ ha2 | refine Adv.trans ?_ ha3 | refine Adv.trans ?_ ha4 | refine Adv.trans ?_ ha5 | refine Adv.trans ?_ ha6 | apply Adv.up | apply Adv.put | refine Adv.new ?_ (by omega) _ | refine Adv.live ?_ (by omega) _)
  · have hlt' : decide ((s.at_ : Int) < (l.length : Nat)) = false := by simp; omega
    have hx : l[s.at_]? = none := List.getElem?_eq_none (by omega)
    have hp : peekG l s = ⟨-1, [], 0⟩ := by simp only [peekG, hx]
    rw [hp]
    simp only [go_sem, Nat.reduceBEq, Nat.reduceLeDiff, Nat.reduceEqDiff, Nat.reduceSub, Nat.reduceAdd, Int.reduceEq, Int.reduceLT, Int.reduceLE, Int.reduceAdd, rs, hg, hn, hn0, List.length_map, hlt', hz]
    (repeat first | exact Adv.refl _ _ | assumption | refine Adv.trans ?_ ha1 | refine Adv.trans ?_ ha2 | refine Adv.trans ?_ ha3 | refine Adv.trans ?_ ha4 | refine Adv.trans ?_ ha5 | refine Adv.trans ?_ ha6 | apply Adv.up | apply Adv.put | refine Adv.new ?_ (by omega) _ | refine Adv.live ?_ (by omega) _)
theorem peek_is (hf : s.f = none) (t : List UInt8) (ht : t ≠ []) : (decide ((peekG l s).text = t) && !decide ((peekG l s).kind = 1)) = isT l s t := by
  cases h : l[s.at_]? with
  | none =>
    simp only [peekG, isT, tk, hf, h]
    simp [ht.symm]
  | some x =>
    simp only [peekG, isT, tk, hf, h]
    cases hx : rightG x with
    | true => simp
    | false => simp [ht.symm]
theorem peek_name (hf : s.f = none) : (decide ((peekG l s).kind = 0) && !keyword (peekG l s).text) = isName l s := by
  cases h : l[s.at_]? with
  | none =>
    simp only [peekG, isName, tk, hf, h]
    simp
  | some x =>
    simp only [peekG, isName, tk, hf, h]
    cases hx : rightG x with
    | true => simp
    | false => simp
theorem peek_num (hf : s.f = none) : decide ((peekG l s).kind = 1) = isNum l s := by
  cases h : l[s.at_]? with
  | none =>
    simp only [peekG, isNum, tk, hf, h]
    simp
  | some x =>
    simp only [peekG, isNum, tk, hf, h]
    cases hx : rightG x with
    | true => simp
    | false => simp
theorem c_is (hlen : l.length ≤ LM) (hf : s.f = none) (hr : r < H.next) (hg : H.get r = some (cP l en s)) (t : List UInt8) (ht : t ≠ []) :
    PCall Tryz.prog cfg r 103 [.ptr r 0, .lit (.string (ba t))] H (.ok (.lit (.bool (isT l s t))) (cP l en s)) := by
  refine PCall_of' (fn := Tryz.f103) rfl rfl rfl rfl rfl ?_
  have rs : Tryz.f103.results.toList = [.tmp 4] := rfl
  have hp := peek_is (l := l) hf t ht
  generalize isT l s t = b at hp
  simp only [go_sem, Nat.reduceBEq, Nat.reduceLeDiff, Nat.reduceEqDiff, Nat.reduceSub, Nat.reduceAdd, Int.reduceEq, Int.reduceLT, Int.reduceLE, Int.reduceAdd]
  refine goC_ok (c_peek (s := s) (l := l) (en := en) hlen (by simp only [go_sem, Nat.reduceBEq, Nat.reduceLeDiff, Nat.reduceEqDiff, Nat.reduceSub, Nat.reduceAdd, Int.reduceEq, Int.reduceLT, Int.reduceLE, Int.reduceAdd]; omega) (by simp only [go_sem, Nat.reduceBEq, Nat.reduceLeDiff, Nat.reduceEqDiff, Nat.reduceSub, Nat.reduceAdd, Int.reduceEq, Int.reduceLT, Int.reduceLE, Int.reduceAdd, hg])) ?_
  intro H1 hg1 ha1
  have hl1 := ha1.1
  simp only [go_sem, Nat.reduceBEq, Nat.reduceLeDiff, Nat.reduceEqDiff, Nat.reduceSub, Nat.reduceAdd, Int.reduceEq, Int.reduceLT, Int.reduceLE, Int.reduceAdd] at hl1
  have hr1 : r < H1.next := by omega
  have hn := ne_new hr1
  have hn0 := ne_new0 hr1
  have hm := ne_new hr
  have hm0 := ne_new0 hr
  generalize peekG l s = x at hp
  have hd : decide (ba x.text = ba t) = decide (x.text = t) := by simp [ba_inj]
  simp only [go_sem, Nat.reduceBEq, Nat.reduceLeDiff, Nat.reduceEqDiff, Nat.reduceSub, Nat.reduceAdd, Int.reduceEq, Int.reduceLT, Int.reduceLE, Int.reduceAdd, encG, hn, hn0, hm, hm0, hg1, hd]
  cases h1 : decide (x.text = t) with
  | true =>
    rw [h1, Bool.true_and] at hp
    simp only [go_sem, Nat.reduceBEq, Nat.reduceLeDiff, Nat.reduceEqDiff, Nat.reduceSub, Nat.reduceAdd, Int.reduceEq, Int.reduceLT, Int.reduceLE, Int.reduceAdd, rs, encG, hn, hn0, hm, hm0, hg1, hp]
    (repeat first | exact Adv.refl _ _ | assumption | refine Adv.trans ?_ ha1 | refine Adv.trans ?_ ha2 | refine Adv.trans ?_ ha3 | refine Adv.trans ?_ ha4 | refine Adv.trans ?_ ha5 | refine Adv.trans ?_ ha6 | apply Adv.up | apply Adv.put | refine Adv.new ?_ (by omega) _ | refine Adv.live ?_ (by omega) _)
  | false =>
    rw [h1, Bool.false_and] at hp
    simp only [go_sem, Nat.reduceBEq, Nat.reduceLeDiff, Nat.reduceEqDiff, Nat.reduceSub, Nat.reduceAdd, Int.reduceEq, Int.reduceLT, Int.reduceLE, Int.reduceAdd, rs, encG, hn, hn0, hm, hm0, hg1, ← hp]
    (repeat first | exact Adv.refl _ _ | assumption | refine Adv.trans ?_ ha1 | refine Adv.trans ?_ ha2 | refine Adv.trans ?_ ha3 | refine Adv.trans ?_ ha4 | refine Adv.trans ?_ ha5 | refine Adv.trans ?_ ha6 | apply Adv.up | apply Adv.put | refine Adv.new ?_ (by omega) _ | refine Adv.live ?_ (by omega) _)
end
end Go.Proofs.YtghhkbigmmjanaaGreatDoor.VA

/-! Pe2 -/
namespace Go.Proofs.YtghhkbigmmjanaaGreatDoor.VA
open Go Go.RowKit
attribute [local go_sem] Nat.add_eq_left Nat.left_eq_add true_and and_true ite_true if_false Int.cast_ofNat_Int eq_self Nat.add_assoc Option.some.injEq decide_true decide_false Bool.not_true Bool.not_false List.size_toArray List.length_cons List.length_nil
set_option linter.unusedSimpArgs false
set_option maxRecDepth 100000

section
variable {l : List GTok} {en : Int} {r : Nat} {s : PS} {H : Heap}
def takeP (l : List GTok) (s : PS) (t : List UInt8) : PS := match isT l s t with | true => s.adv | false => s
theorem outP_fail (hf : s.f = none) (code : Nat) (v : AV) : outP l en (pfail l en s code) v = .bad (encTrouble code (place l en s.at_)) := by simp only [pfail, hf, outP]
theorem c_take (hlen : l.length ≤ LM) (hf : s.f = none) (hr : r < H.next) (hg : H.get r = some (cP l en s)) (t : List UInt8) (ht : t ≠ []) :
    PCall Tryz.prog cfg r 100 [.ptr r 0, .lit (.string (ba t))] H (.ok (.lit (.bool (isT l s t))) (cP l en (takeP l s t))) := by
  refine PCall_of' (fn := Tryz.f100) rfl rfl rfl rfl rfl ?_
  have rs : Tryz.f100.results.toList = [.tmp 4] := rfl
  have hn := ne_new hr
  have hz := ne_new0 hr
  have hn' := ne_new' hr
  simp only [go_sem, Nat.reduceBEq, Nat.reduceLeDiff, Nat.reduceEqDiff, Nat.reduceSub, Nat.reduceAdd, Int.reduceEq, Int.reduceLT, Int.reduceLE, Int.reduceAdd]
  refine goC_ok (c_is (s := s) (l := l) (en := en) hlen hf (by first | omega | (simp only [go_sem, Nat.reduceBEq, Nat.reduceLeDiff, Nat.reduceEqDiff, Nat.reduceSub, Nat.reduceAdd, Int.reduceEq, Int.reduceLT, Int.reduceLE, Int.reduceAdd]; omega)) (by first | assumption | simp only [go_sem, Nat.reduceBEq, Nat.reduceLeDiff, Nat.reduceEqDiff, Nat.reduceSub, Nat.reduceAdd, Int.reduceEq, Int.reduceLT, Int.reduceLE, Int.reduceAdd, hg, hn, hz, hn', Nat.add_zero]) t ht) ?_
  intro H1 hg1 ha1
  have hl1 := ha1.1
  try simp only [go_sem, Nat.reduceBEq, Nat.reduceLeDiff, Nat.reduceEqDiff, Nat.reduceSub, Nat.reduceAdd, Int.reduceEq, Int.reduceLT, Int.reduceLE, Int.reduceAdd] at hl1
  have hr1 : r < H1.next := by omega
  have hn1 := ne_new hr1
  have hz1 := ne_new0 hr1
  have hx1 := ne_new' hr1
  cases h : isT l s t with
  | true =>
    have hw := at_wrap hlen (isT_at h)
    have e : takeP l s t = s.adv := by simp only [takeP, h]
    rw [e]
    simp only [go_sem, Nat.reduceBEq, Nat.reduceLeDiff, Nat.reduceEqDiff, Nat.reduceSub, Nat.reduceAdd, Int.reduceEq, Int.reduceLT, Int.reduceLE, Int.reduceAdd, hg1, hn, hz, hn', Nat.add_zero, hn1, hz1, hx1, rs, hw]
    (repeat first | exact Adv.refl _ _ | assumption | refine Adv.trans ?_ had | refine Adv.trans ?_ ha1 | refine Adv.trans ?_ ha2 | refine Adv.trans ?_ ha3 | refine Adv.trans ?_ ha4 | refine Adv.trans ?_ ha5 | refine Adv.trans ?_ ha6 | refine Adv.trans ?_ ha7 | refine Adv.trans ?_ ha8 | refine Adv.trans ?_ ha9 | refine Adv.trans ?_ ha10 | refine Adv.trans ?_ ha11 | refine Adv.trans ?_ ha12 | apply Adv.up | apply Adv.put | refine Adv.new ?_ (by omega) _ | refine Adv.live ?_ (by omega) _ | refine Adv.owns ?_ (by omega) (by first | exact OwnB.lo ‹_› | exact fun _ _ _ h => by cases h))
  | false =>
    have e : takeP l s t = s := by simp only [takeP, h]
    rw [e]
    simp only [go_sem, Nat.reduceBEq, Nat.reduceLeDiff, Nat.reduceEqDiff, Nat.reduceSub, Nat.reduceAdd, Int.reduceEq, Int.reduceLT, Int.reduceLE, Int.reduceAdd, hg1, hn, hz, hn', Nat.add_zero, hn1, hz1, hx1, rs]
    (repeat first | exact Adv.refl _ _ | assumption | refine Adv.trans ?_ had | refine Adv.trans ?_ ha1 | refine Adv.trans ?_ ha2 | refine Adv.trans ?_ ha3 | refine Adv.trans ?_ ha4 | refine Adv.trans ?_ ha5 | refine Adv.trans ?_ ha6 | refine Adv.trans ?_ ha7 | refine Adv.trans ?_ ha8 | refine Adv.trans ?_ ha9 | refine Adv.trans ?_ ha10 | refine Adv.trans ?_ ha11 | refine Adv.trans ?_ ha12 | apply Adv.up | apply Adv.put | refine Adv.new ?_ (by omega) _ | refine Adv.live ?_ (by omega) _ | refine Adv.owns ?_ (by omega) (by first | exact OwnB.lo ‹_› | exact fun _ _ _ h => by cases h))
theorem c_take_yes (hlen : l.length ≤ LM) (hf : s.f = none) (hr : r < H.next) (hg : H.get r = some (cP l en s)) {t : List UInt8} (ht : t ≠ []) (h : isT l s t = true) :
    PCall Tryz.prog cfg r 100 [.ptr r 0, .lit (.string (ba t))] H (.ok (.lit (.bool true)) (cP l en s.adv)) := by
  have := c_take hlen hf hr hg t ht
  simp only [takeP, h] at this
  exact this
theorem c_take_no (hlen : l.length ≤ LM) (hf : s.f = none) (hr : r < H.next) (hg : H.get r = some (cP l en s)) {t : List UInt8} (ht : t ≠ []) (h : isT l s t = false) :
    PCall Tryz.prog cfg r 100 [.ptr r 0, .lit (.string (ba t))] H (.ok (.lit (.bool false)) (cP l en s)) := by
  have := c_take hlen hf hr hg t ht
  simp only [takeP, h] at this
  exact this
theorem needYes {t : List UInt8} (h : isT l s t = true) : need l en s t = s.adv := by simp only [need, h]
theorem c_need (hlen : l.length ≤ LM) (hf : s.f = none) (hr : r < H.next) (hg : H.get r = some (cP l en s)) (t : List UInt8) (ht : t ≠ []) :
    PCall Tryz.prog cfg r 81 [.ptr r 0, .lit (.string (ba t))] H (outP l en (need l en s t) (.tup [])) := by
  refine PCall_of' (fn := Tryz.f81) rfl rfl rfl rfl rfl ?_
  have rs : Tryz.f81.results.toList = [] := rfl
  have hn := ne_new hr
  have hz := ne_new0 hr
  have hn' := ne_new' hr
  simp only [go_sem, Nat.reduceBEq, Nat.reduceLeDiff, Nat.reduceEqDiff, Nat.reduceSub, Nat.reduceAdd, Int.reduceEq, Int.reduceLT, Int.reduceLE, Int.reduceAdd]
  cases h : isT l s t with
  | true =>
    rw [needYes h, outP_none (show s.adv.f = none from hf)]
    refine goC_ok (c_take_yes (s := s) (l := l) (en := en) hlen hf (by first | omega | (simp only [go_sem, Nat.reduceBEq, Nat.reduceLeDiff, Nat.reduceEqDiff, Nat.reduceSub, Nat.reduceAdd, Int.reduceEq, Int.reduceLT, Int.reduceLE, Int.reduceAdd]; omega)) (by first | assumption | simp only [go_sem, Nat.reduceBEq, Nat.reduceLeDiff, Nat.reduceEqDiff, Nat.reduceSub, Nat.reduceAdd, Int.reduceEq, Int.reduceLT, Int.reduceLE, Int.reduceAdd, hg, hn, hz, hn', Nat.add_zero]) ht h) ?_
    intro H1 hg1 ha1
    have hl1 := ha1.1
    try simp only [go_sem, Nat.reduceBEq, Nat.reduceLeDiff, Nat.reduceEqDiff, Nat.reduceSub, Nat.reduceAdd, Int.reduceEq, Int.reduceLT, Int.reduceLE, Int.reduceAdd] at hl1
    have hr1 : r < H1.next := by omega
    have hn1 := ne_new hr1
    have hz1 := ne_new0 hr1
    have hx1 := ne_new' hr1
    simp only [go_sem, Nat.reduceBEq, Nat.reduceLeDiff, Nat.reduceEqDiff, Nat.reduceSub, Nat.reduceAdd, Int.reduceEq, Int.reduceLT, Int.reduceLE, Int.reduceAdd, hg1, hn, hz, hn', Nat.add_zero, hn1, hz1, hx1, rs]
    (repeat first | exact Adv.refl _ _ | assumption | refine Adv.trans ?_ had | refine Adv.trans ?_ ha1 | refine Adv.trans ?_ ha2 | refine Adv.trans ?_ ha3 | refine Adv.trans ?_ ha4 | refine Adv.trans ?_ ha5 | refine Adv.trans ?_ ha6 | refine Adv.trans ?_ ha7 | refine Adv.trans ?_ ha8 | refine Adv.trans ?_ ha9 | refine Adv.trans ?_ ha10 | refine Adv.trans ?_ ha11 | refine Adv.trans ?_ ha12 | apply Adv.up | apply Adv.put | refine Adv.new ?_ (by omega) _ | refine Adv.live ?_ (by omega) _ | refine Adv.owns ?_ (by omega) (by first | exact OwnB.lo ‹_› | exact fun _ _ _ h => by cases h))
  | false =>
    have e : need l en s t = pfail l en s 0 := by simp only [need, h]
    rw [e, outP_fail hf]
    refine goC_ok (c_take_no (s := s) (l := l) (en := en) hlen hf (by first | omega | (simp only [go_sem, Nat.reduceBEq, Nat.reduceLeDiff, Nat.reduceEqDiff, Nat.reduceSub, Nat.reduceAdd, Int.reduceEq, Int.reduceLT, Int.reduceLE, Int.reduceAdd]; omega)) (by first | assumption | simp only [go_sem, Nat.reduceBEq, Nat.reduceLeDiff, Nat.reduceEqDiff, Nat.reduceSub, Nat.reduceAdd, Int.reduceEq, Int.reduceLT, Int.reduceLE, Int.reduceAdd, hg, hn, hz, hn', Nat.add_zero]) ht h) ?_
    intro H1 hg1 ha1
    have hl1 := ha1.1
    try simp only [go_sem, Nat.reduceBEq, Nat.reduceLeDiff, Nat.reduceEqDiff, Nat.reduceSub, Nat.reduceAdd, Int.reduceEq, Int.reduceLT, Int.reduceLE, Int.reduceAdd] at hl1
    have hr1 : r < H1.next := by omega
    have hn1 := ne_new hr1
    have hz1 := ne_new0 hr1
    have hx1 := ne_new' hr1
    simp only [go_sem, Nat.reduceBEq, Nat.reduceLeDiff, Nat.reduceEqDiff, Nat.reduceSub, Nat.reduceAdd, Int.reduceEq, Int.reduceLT, Int.reduceLE, Int.reduceAdd, hg1, hn, hz, hn', Nat.add_zero, hn1, hz1, hx1, rs]
    refine goC_bad (c_fail (s := s) (l := l) (en := en) (by first | omega | (simp only [go_sem, Nat.reduceBEq, Nat.reduceLeDiff, Nat.reduceEqDiff, Nat.reduceSub, Nat.reduceAdd, Int.reduceEq, Int.reduceLT, Int.reduceLE, Int.reduceAdd]; omega)) (by first | assumption | simp only [go_sem, Nat.reduceBEq, Nat.reduceLeDiff, Nat.reduceEqDiff, Nat.reduceSub, Nat.reduceAdd, Int.reduceEq, Int.reduceLT, Int.reduceLE, Int.reduceAdd, hg1, hn, hz, hn', Nat.add_zero, hn1, hz1, hx1]) 0 rfl) ?_
    intro H2 had
    simp only [go_sem, Nat.reduceBEq, Nat.reduceLeDiff, Nat.reduceEqDiff, Nat.reduceSub, Nat.reduceAdd, Int.reduceEq, Int.reduceLT, Int.reduceLE, Int.reduceAdd, hg1, hn, hz, hn', Nat.add_zero, hn1, hz1, hx1, san_trouble]
    (repeat first | exact Adv.refl _ _ | assumption | refine Adv.trans ?_ had | refine Adv.trans ?_ ha1 | refine Adv.trans ?_ ha2 | refine Adv.trans ?_ ha3 | refine Adv.trans ?_ ha4 | refine Adv.trans ?_ ha5 | refine Adv.trans ?_ ha6 | refine Adv.trans ?_ ha7 | refine Adv.trans ?_ ha8 | refine Adv.trans ?_ ha9 | refine Adv.trans ?_ ha10 | refine Adv.trans ?_ ha11 | refine Adv.trans ?_ ha12 | apply Adv.up | apply Adv.put | refine Adv.new ?_ (by omega) _ | refine Adv.live ?_ (by omega) _ | refine Adv.owns ?_ (by omega) (by first | exact OwnB.lo ‹_› | exact fun _ _ _ h => by cases h))
theorem c_isName (hlen : l.length ≤ LM) (hf : s.f = none) (hr : r < H.next) (hg : H.get r = some (cP l en s)) :
    PCall Tryz.prog cfg r 102 [.ptr r 0] H (.ok (.lit (.bool (isName l s))) (cP l en s)) := by
  refine PCall_of' (fn := Tryz.f102) rfl rfl rfl rfl rfl ?_
  have rs : Tryz.f102.results.toList = [.tmp 2] := rfl
  have hn := ne_new hr
  have hz := ne_new0 hr
  have hn' := ne_new' hr
  have hp := peek_name (l := l) hf
  generalize isName l s = b at hp
  simp only [go_sem, Nat.reduceBEq, Nat.reduceLeDiff, Nat.reduceEqDiff, Nat.reduceSub, Nat.reduceAdd, Int.reduceEq, Int.reduceLT, Int.reduceLE, Int.reduceAdd]
  refine goC_ok (c_peek (s := s) (l := l) (en := en) hlen (by first | omega | (simp only [go_sem, Nat.reduceBEq, Nat.reduceLeDiff, Nat.reduceEqDiff, Nat.reduceSub, Nat.reduceAdd, Int.reduceEq, Int.reduceLT, Int.reduceLE, Int.reduceAdd]; omega)) (by first | assumption | simp only [go_sem, Nat.reduceBEq, Nat.reduceLeDiff, Nat.reduceEqDiff, Nat.reduceSub, Nat.reduceAdd, Int.reduceEq, Int.reduceLT, Int.reduceLE, Int.reduceAdd, hg, hn, hz, hn', Nat.add_zero])) ?_
  intro H1 hg1 ha1
  have hl1 := ha1.1
  try simp only [go_sem, Nat.reduceBEq, Nat.reduceLeDiff, Nat.reduceEqDiff, Nat.reduceSub, Nat.reduceAdd, Int.reduceEq, Int.reduceLT, Int.reduceLE, Int.reduceAdd] at hl1
  have hr1 : r < H1.next := by omega
  have hn1 := ne_new hr1
  have hz1 := ne_new0 hr1
  have hx1 := ne_new' hr1
  generalize peekG l s = x at hp
  simp only [go_sem, Nat.reduceBEq, Nat.reduceLeDiff, Nat.reduceEqDiff, Nat.reduceSub, Nat.reduceAdd, Int.reduceEq, Int.reduceLT, Int.reduceLE, Int.reduceAdd, hg1, hn, hz, hn', Nat.add_zero, hn1, hz1, hx1, encG]
  cases h1 : decide (x.kind = 0) with
  | true =>
    rw [h1, Bool.true_and] at hp
    simp only [go_sem, Nat.reduceBEq, Nat.reduceLeDiff, Nat.reduceEqDiff, Nat.reduceSub, Nat.reduceAdd, Int.reduceEq, Int.reduceLT, Int.reduceLE, Int.reduceAdd, hg1, hn, hz, hn', Nat.add_zero, hn1, hz1, hx1, rs, encG, c_keyword, hp]
    (repeat first | exact Adv.refl _ _ | assumption | refine Adv.trans ?_ had | refine Adv.trans ?_ ha1 | refine Adv.trans ?_ ha2 | refine Adv.trans ?_ ha3 | refine Adv.trans ?_ ha4 | refine Adv.trans ?_ ha5 | refine Adv.trans ?_ ha6 | refine Adv.trans ?_ ha7 | refine Adv.trans ?_ ha8 | refine Adv.trans ?_ ha9 | refine Adv.trans ?_ ha10 | refine Adv.trans ?_ ha11 | refine Adv.trans ?_ ha12 | apply Adv.up | apply Adv.put | refine Adv.new ?_ (by omega) _ | refine Adv.live ?_ (by omega) _ | refine Adv.owns ?_ (by omega) (by first | exact OwnB.lo ‹_› | exact fun _ _ _ h => by cases h))
  | false =>
    rw [h1, Bool.false_and] at hp
    simp only [go_sem, Nat.reduceBEq, Nat.reduceLeDiff, Nat.reduceEqDiff, Nat.reduceSub, Nat.reduceAdd, Int.reduceEq, Int.reduceLT, Int.reduceLE, Int.reduceAdd, hg1, hn, hz, hn', Nat.add_zero, hn1, hz1, hx1, rs, encG, ← hp]
    (repeat first | exact Adv.refl _ _ | assumption | refine Adv.trans ?_ had | refine Adv.trans ?_ ha1 | refine Adv.trans ?_ ha2 | refine Adv.trans ?_ ha3 | refine Adv.trans ?_ ha4 | refine Adv.trans ?_ ha5 | refine Adv.trans ?_ ha6 | refine Adv.trans ?_ ha7 | refine Adv.trans ?_ ha8 | refine Adv.trans ?_ ha9 | refine Adv.trans ?_ ha10 | refine Adv.trans ?_ ha11 | refine Adv.trans ?_ ha12 | apply Adv.up | apply Adv.put | refine Adv.new ?_ (by omega) _ | refine Adv.live ?_ (by omega) _ | refine Adv.owns ?_ (by omega) (by first | exact OwnB.lo ‹_› | exact fun _ _ _ h => by cases h))
theorem c_name (hlen : l.length ≤ LM) (hf : s.f = none) (hr : r < H.next) (hg : H.get r = some (cP l en s)) :
    PCall Tryz.prog cfg r 82 [.ptr r 0] H (outP l en (nameP l en s).1 (.lit (.string (ba (nameP l en s).2)))) := by
  refine PCall_of' (fn := Tryz.f82) rfl rfl rfl rfl rfl ?_
  have rs : Tryz.f82.results.toList = [.tmp 2] := rfl
  have hn := ne_new hr
  have hz := ne_new0 hr
  have hn' := ne_new' hr
  simp only [go_sem, Nat.reduceBEq, Nat.reduceLeDiff, Nat.reduceEqDiff, Nat.reduceSub, Nat.reduceAdd, Int.reduceEq, Int.reduceLT, Int.reduceLE, Int.reduceAdd]
  refine goC_ok (c_isName (s := s) (l := l) (en := en) hlen hf (by first | omega | (simp only [go_sem, Nat.reduceBEq, Nat.reduceLeDiff, Nat.reduceEqDiff, Nat.reduceSub, Nat.reduceAdd, Int.reduceEq, Int.reduceLT, Int.reduceLE, Int.reduceAdd]; omega)) (by first | assumption | simp only [go_sem, Nat.reduceBEq, Nat.reduceLeDiff, Nat.reduceEqDiff, Nat.reduceSub, Nat.reduceAdd, Int.reduceEq, Int.reduceLT, Int.reduceLE, Int.reduceAdd, hg, hn, hz, hn', Nat.add_zero])) ?_
  intro H1 hg1 ha1
  have hl1 := ha1.1
  try simp only [go_sem, Nat.reduceBEq, Nat.reduceLeDiff, Nat.reduceEqDiff, Nat.reduceSub, Nat.reduceAdd, Int.reduceEq, Int.reduceLT, Int.reduceLE, Int.reduceAdd] at hl1
  have hr1 : r < H1.next := by omega
  have hn1 := ne_new hr1
  have hz1 := ne_new0 hr1
  have hx1 := ne_new' hr1
  cases h : isName l s with
  | true =>
    have hlt := isName_at h
    have hw := at_wrap hlen hlt
    have e : nameP l en s = (s.adv, (l.getD s.at_ default).text) := by simp only [nameP, h, text]
    rw [e, outP_none (show (s.adv, (l.getD s.at_ default).text).1.f = none from hf)]
    have ha := iad_encG (t := 66) (bs := 32) (o := .sh) hlt
    have hwb : IntKind.wrap .i64 (((s.at_ + 1 : Nat) : Int) - 1) = (s.at_ : Nat) := by unfold LM at hlen; rw [wrap64 (by omega) (by omega)]; omega
    have hadv : s.adv.at_ = s.at_ + 1 := rfl
    generalize l.getD s.at_ default = x at ha
    simp only [go_sem, Nat.reduceBEq, Nat.reduceLeDiff, Nat.reduceEqDiff, Nat.reduceSub, Nat.reduceAdd, Int.reduceEq, Int.reduceLT, Int.reduceLE, Int.reduceAdd, hg1, hn, hz, hn', Nat.add_zero, hn1, hz1, hx1, hw]
    refine W_draw [(3, 7)] (by kernel_rfl) ?_
    simp only [go_sem, Nat.reduceBEq, Nat.reduceLeDiff, Nat.reduceEqDiff, Nat.reduceSub, Nat.reduceAdd, Int.reduceEq, Int.reduceLT, Int.reduceLE, Int.reduceAdd, hg1, hn, hz, hn', Nat.add_zero, hn1, hz1, hx1, rs, hadv, hwb, ha, encG]
    (repeat first | exact Adv.refl _ _ | assumption | refine Adv.trans ?_ had | refine Adv.trans ?_ ha1 | refine Adv.trans ?_ ha2 | refine Adv.trans ?_ ha3 | refine Adv.trans ?_ ha4 | refine Adv.trans ?_ ha5 | refine Adv.trans ?_ ha6 | refine Adv.trans ?_ ha7 | refine Adv.trans ?_ ha8 | refine Adv.trans ?_ ha9 | refine Adv.trans ?_ ha10 | refine Adv.trans ?_ ha11 | refine Adv.trans ?_ ha12 | apply Adv.up | apply Adv.put | refine Adv.new ?_ (by omega) _ | refine Adv.live ?_ (by omega) _ | refine Adv.owns ?_ (by omega) (by first | exact OwnB.lo ‹_› | exact fun _ _ _ h => by cases h))
  | false =>
    have e : nameP l en s = (pfail l en s 0, []) := by simp only [nameP, h]
    rw [e, outP_fail hf]
    simp only [go_sem, Nat.reduceBEq, Nat.reduceLeDiff, Nat.reduceEqDiff, Nat.reduceSub, Nat.reduceAdd, Int.reduceEq, Int.reduceLT, Int.reduceLE, Int.reduceAdd, hg1, hn, hz, hn', Nat.add_zero, hn1, hz1, hx1]
    refine goC_bad (c_fail (s := s) (l := l) (en := en) (by first | omega | (simp only [go_sem, Nat.reduceBEq, Nat.reduceLeDiff, Nat.reduceEqDiff, Nat.reduceSub, Nat.reduceAdd, Int.reduceEq, Int.reduceLT, Int.reduceLE, Int.reduceAdd]; omega)) (by first | assumption | simp only [go_sem, Nat.reduceBEq, Nat.reduceLeDiff, Nat.reduceEqDiff, Nat.reduceSub, Nat.reduceAdd, Int.reduceEq, Int.reduceLT, Int.reduceLE, Int.reduceAdd, hg1, hn, hz, hn', Nat.add_zero, hn1, hz1, hx1]) 0 rfl) ?_
    intro H2 had
    simp only [go_sem, Nat.reduceBEq, Nat.reduceLeDiff, Nat.reduceEqDiff, Nat.reduceSub, Nat.reduceAdd, Int.reduceEq, Int.reduceLT, Int.reduceLE, Int.reduceAdd, hg1, hn, hz, hn', Nat.add_zero, hn1, hz1, hx1, san_trouble]
    (repeat first | exact Adv.refl _ _ | assumption | refine Adv.trans ?_ had | refine Adv.trans ?_ ha1 | refine Adv.trans ?_ ha2 | refine Adv.trans ?_ ha3 | refine Adv.trans ?_ ha4 | refine Adv.trans ?_ ha5 | refine Adv.trans ?_ ha6 | refine Adv.trans ?_ ha7 | refine Adv.trans ?_ ha8 | refine Adv.trans ?_ ha9 | refine Adv.trans ?_ ha10 | refine Adv.trans ?_ ha11 | refine Adv.trans ?_ ha12 | apply Adv.up | apply Adv.put | refine Adv.new ?_ (by omega) _ | refine Adv.live ?_ (by omega) _ | refine Adv.owns ?_ (by omega) (by first | exact OwnB.lo ‹_› | exact fun _ _ _ h => by cases h))
end
end Go.Proofs.YtghhkbigmmjanaaGreatDoor.VA

/-! Pe3 -/
namespace Go.Proofs.YtghhkbigmmjanaaGreatDoor.VA
open Go Go.RowKit
attribute [local go_sem] Nat.add_eq_left Nat.left_eq_add true_and and_true ite_true if_false Int.cast_ofNat_Int eq_self Nat.add_assoc Option.some.injEq decide_true decide_false Bool.not_true Bool.not_false List.size_toArray List.length_cons List.length_nil
set_option linter.unusedSimpArgs false
set_option maxRecDepth 100000

section
variable {l : List GTok} {en : Int} {r : Nat} {s : PS} {H : Heap}
theorem c_atoi (t : List UInt8) (h1 : t.all (fun b => isDigit b.toNat) = true) (h2 : 1 ≤ t.length) (h3 : t.length ≤ 18) (H : Heap) :
    calls Tryz.prog cfg 122 [.lit (.string (ba t))] H = some (.ret (.tup [.lit (.int .i64 (numOf t : Nat)), .lit .nilIface]) H) :=
  calls_told (h := tAtoi) rfl (by
    simp only [sanL, san, tAtoi, ba_list]
    rw [if_pos ⟨h1, h2, h3⟩]) H
theorem peek_text (h : isNum l s = true) : (peekG l s).text = text l s ∧ (text l s).all (fun b => isDigit b.toNat) = true ∧ 1 ≤ (text l s).length ∧ (text l s).length ≤ 9 := by
  obtain ⟨x, hx, hg, hk⟩ := isNum_some h
  obtain ⟨hf, _, hlt, hd⟩ := tk_some hx
  have ht : text l s = x.text := by simp only [text, hd]
  have hi : l[s.at_]? = some x := by simpa only [tk, hf] using hx
  obtain ⟨n1, n2, n3⟩ := right_num hg hk
  refine ⟨?_, ?_⟩
  · simp only [peekG, hi, hg, if_true, ht]
  · rw [ht]; exact ⟨n1, n2, n3⟩
set_option maxRecDepth 20000 in
theorem c_operand (hlen : l.length ≤ LM) (hf : s.f = none) (hr : r < H.next) (hg : H.get r = some (cP l en s)) :
    PCall Tryz.prog cfg r 115 [.ptr r 0] H (outP l en (operand l en s).1 (.agg (encOpd (operand l en s).2))) := by
  refine PCall_of' (fn := Tryz.f115) rfl rfl rfl rfl rfl ?_
  have rs : Tryz.f115.results.toList = [.cell 2 50] := rfl
  have hn := ne_new hr
  have hz := ne_new0 hr
  have hn' := ne_new' hr
  generalize hq : operand l en s = q
  unfold operand at hq
  have hp := peek_num (l := l) hf
  simp only [go_sem, Nat.reduceBEq, Nat.reduceLeDiff, Nat.reduceEqDiff, Nat.reduceSub, Nat.reduceAdd, Int.reduceEq, Int.reduceLT, Int.reduceLE, Int.reduceAdd]
  have rR : (H.next = r) = False := eq_false (by omega)
  have qR : (r = H.next) = False := eq_false (by omega)
  refine goC_ok (c_peek (s := s) (l := l) (en := en) hlen (by first | omega | (simp only [go_sem, Nat.reduceBEq, Nat.reduceLeDiff, Nat.reduceEqDiff, Nat.reduceSub, Nat.reduceAdd, Int.reduceEq, Int.reduceLT, Int.reduceLE, Int.reduceAdd]; omega)) (by first | assumption | simp only [go_sem, Nat.reduceBEq, Nat.reduceLeDiff, Nat.reduceEqDiff, Nat.reduceSub, Nat.reduceAdd, Int.reduceEq, Int.reduceLT, Int.reduceLE, Int.reduceAdd, hg, hn, hz, hn', Nat.add_zero, rR, qR])) ?_
  intro H1 hg1 ha1
  have hl1 := ha1.1
  try simp only [go_sem, Nat.reduceBEq, Nat.reduceLeDiff, Nat.reduceEqDiff, Nat.reduceSub, Nat.reduceAdd, Int.reduceEq, Int.reduceLT, Int.reduceLE, Int.reduceAdd] at hl1
  have hr1 : r < H1.next := by omega
  have hn1 := ne_new hr1
  have hz1 := ne_new0 hr1
  have hx1 := ne_new' hr1
  have bR1 : H1.get (H.next) = some ([.lit (.int .i64 0), .lit (.int .i64 0), .lit (.string (ba []))]) := (ha1.get (by first | omega | (simp only [go_sem, Nat.reduceBEq, Nat.reduceLeDiff, Nat.reduceEqDiff, Nat.reduceSub, Nat.reduceAdd, Int.reduceEq, Int.reduceLT, Int.reduceLE, Int.reduceAdd]; omega)) (by omega)).trans (by simp only [go_sem, Nat.reduceBEq, Nat.reduceLeDiff, Nat.reduceEqDiff, Nat.reduceSub, Nat.reduceAdd, Int.reduceEq, Int.reduceLT, Int.reduceLE, Int.reduceAdd, hg, hn, hz, hn', Nat.add_zero, rR, qR])
  have cR1 : ∀ j, (H1.next + j = H.next) = False := fun j => eq_false (by omega)
  have dR1 : (H1.next = H.next) = False := eq_false (by omega)
  have eR1 : ∀ j, (H.next = H1.next + j) = False := fun j => eq_false (by omega)
  have pTR : (H.next + 3 = H.next) = False := eq_false (by omega)
  have pRT : (H.next = H.next + 3) = False := eq_false (by omega)
  have rT : (H.next + 3 = r) = False := eq_false (by omega)
  have qT : (r = H.next + 3) = False := eq_false (by omega)
  have eT : ([.lit (.int .i64 (peekG l s).kind), .lit (.string (ba (peekG l s).text)), .lit (.int .i64 (peekG l s).at_)] : List AV) = encG (peekG l s) := rfl
  have tT : ∀ x : GTok, (encG x).length = 3 ∧ (encG x).all AV.one = true ∧ (encG x).drop 3 = [] ∧ (encG x).take 3 = encG x ∧ encG x ++ [] = encG x ∧ (encG x)[0]? = some (.lit (.int .i64 x.kind)) ∧ (encG x)[1]? = some (.lit (.string (ba x.text))) := fun x => ⟨rfl, rfl, rfl, rfl, rfl, rfl, rfl⟩
  have t1 := fun x => (tT x).1
  have t2 := fun x => (tT x).2.1
  have t3 := fun x => (tT x).2.2.1
  have t4 := fun x => (tT x).2.2.2.1
  have t5 := fun x => (tT x).2.2.2.2.1
  have t6 := fun x => (tT x).2.2.2.2.2.1
  have t7 := fun x => (tT x).2.2.2.2.2.2
  simp only [go_sem, Nat.reduceBEq, Nat.reduceLeDiff, Nat.reduceEqDiff, Nat.reduceSub, Nat.reduceAdd, Int.reduceEq, Int.reduceLT, Int.reduceLE, Int.reduceAdd, hg1, hn, hz, hn', Nat.add_zero, hn1, hz1, hx1, bR1, cR1, dR1, eR1, rR, qR, pRT, rT, qT, pTR, t1, t2, t3, t4, t5, t6, t7]
  cases h0 : isT l s [110, 117, 108, 108] with
  | true =>
    refine goC_ok (c_take_yes (s := s) (l := l) (en := en) hlen hf (by first | omega | (simp only [go_sem, Nat.reduceBEq, Nat.reduceLeDiff, Nat.reduceEqDiff, Nat.reduceSub, Nat.reduceAdd, Int.reduceEq, Int.reduceLT, Int.reduceLE, Int.reduceAdd]; omega)) (by first | assumption | simp only [go_sem, Nat.reduceBEq, Nat.reduceLeDiff, Nat.reduceEqDiff, Nat.reduceSub, Nat.reduceAdd, Int.reduceEq, Int.reduceLT, Int.reduceLE, Int.reduceAdd, hg1, hn, hz, hn', Nat.add_zero, hn1, hz1, hx1, bR1, cR1, dR1, eR1, rR, qR, pRT, rT, qT, pTR, t1, t2, t3, t4, t5, t6, t7]) (by decide) h0) ?_
    intro H2 hg2 ha2
    have hl2 := ha2.1
    try simp only [go_sem, Nat.reduceBEq, Nat.reduceLeDiff, Nat.reduceEqDiff, Nat.reduceSub, Nat.reduceAdd, Int.reduceEq, Int.reduceLT, Int.reduceLE, Int.reduceAdd] at hl2
    have hr2 : r < H2.next := by omega
    have hn2 := ne_new hr2
    have hz2 := ne_new0 hr2
    have hx2 := ne_new' hr2
    have bR2 : H2.get (H.next) = some ([.lit (.int .i64 0), .lit (.int .i64 0), .lit (.string (ba []))]) := (ha2.get (by first | omega | (simp only [go_sem, Nat.reduceBEq, Nat.reduceLeDiff, Nat.reduceEqDiff, Nat.reduceSub, Nat.reduceAdd, Int.reduceEq, Int.reduceLT, Int.reduceLE, Int.reduceAdd]; omega)) (by omega)).trans (by simp only [go_sem, Nat.reduceBEq, Nat.reduceLeDiff, Nat.reduceEqDiff, Nat.reduceSub, Nat.reduceAdd, Int.reduceEq, Int.reduceLT, Int.reduceLE, Int.reduceAdd, hg1, hn, hz, hn', Nat.add_zero, hn1, hz1, hx1, bR1, cR1, dR1, eR1, rR, qR, pRT, rT, qT, pTR, t1, t2, t3, t4, t5, t6, t7])
    have cR2 : ∀ j, (H2.next + j = H.next) = False := fun j => eq_false (by omega)
    have dR2 : (H2.next = H.next) = False := eq_false (by omega)
    have eR2 : ∀ j, (H.next = H2.next + j) = False := fun j => eq_false (by omega)
    have bT2 : H2.get (H.next + 3) = some (encG (peekG l s)) := (ha2.get (by first | omega | (simp only [go_sem, Nat.reduceBEq, Nat.reduceLeDiff, Nat.reduceEqDiff, Nat.reduceSub, Nat.reduceAdd, Int.reduceEq, Int.reduceLT, Int.reduceLE, Int.reduceAdd]; omega)) (by omega)).trans (by simp only [go_sem, Nat.reduceBEq, Nat.reduceLeDiff, Nat.reduceEqDiff, Nat.reduceSub, Nat.reduceAdd, Int.reduceEq, Int.reduceLT, Int.reduceLE, Int.reduceAdd, hg1, hn, hz, hn', Nat.add_zero, hn1, hz1, hx1, bR1, cR1, dR1, eR1, rR, qR, pRT, rT, qT, pTR, t1, t2, t3, t4, t5, t6, t7])
    have cT2 : ∀ j, (H2.next + j = H.next + 3) = False := fun j => eq_false (by omega)
    have dT2 : (H2.next = H.next + 3) = False := eq_false (by omega)
    have eT2 : ∀ j, (H.next + 3 = H2.next + j) = False := fun j => eq_false (by omega)
    rw [show isT l s tNull = true from h0] at hq
    simp only at hq
    subst hq
    rw [outP_none (show s.adv.f = none from hf)]
    have e0 : ([.lit (.int .i64 0), .lit (.int .i64 0), .lit (.string (ba []))] : List AV) = encOpd ⟨0, 0, []⟩ := rfl
    simp only [go_sem, Nat.reduceBEq, Nat.reduceLeDiff, Nat.reduceEqDiff, Nat.reduceSub, Nat.reduceAdd, Int.reduceEq, Int.reduceLT, Int.reduceLE, Int.reduceAdd, hg2, hn, hz, hn', Nat.add_zero, hn2, hz2, hx2, bR2, cR2, dR2, eR2, rR, qR, pRT, bT2, cT2, dT2, eT2, rT, qT, pTR, t1, t2, t3, t4, t5, t6, t7, rs, e0]
    (repeat first | exact Adv.refl _ _ | assumption | refine Adv.trans ?_ had | refine Adv.trans ?_ ha1 | refine Adv.trans ?_ ha2 | refine Adv.trans ?_ ha3 | refine Adv.trans ?_ ha4 | refine Adv.trans ?_ ha5 | refine Adv.trans ?_ ha6 | refine Adv.trans ?_ ha7 | refine Adv.trans ?_ ha8 | refine Adv.trans ?_ ha9 | refine Adv.trans ?_ ha10 | refine Adv.trans ?_ ha11 | refine Adv.trans ?_ ha12 | apply Adv.up | apply Adv.put | refine Adv.new ?_ (by omega) _ | refine Adv.live ?_ (by omega) _ | refine Adv.owns ?_ (by omega) (by first | exact OwnB.lo ‹_› | exact fun _ _ _ h => by cases h))
  | false =>
  rw [show isT l s tNull = false from h0] at hq
  simp only at hq
  refine goC_ok (c_take_no (s := s) (l := l) (en := en) hlen hf (by first | omega | (simp only [go_sem, Nat.reduceBEq, Nat.reduceLeDiff, Nat.reduceEqDiff, Nat.reduceSub, Nat.reduceAdd, Int.reduceEq, Int.reduceLT, Int.reduceLE, Int.reduceAdd]; omega)) (by first | assumption | simp only [go_sem, Nat.reduceBEq, Nat.reduceLeDiff, Nat.reduceEqDiff, Nat.reduceSub, Nat.reduceAdd, Int.reduceEq, Int.reduceLT, Int.reduceLE, Int.reduceAdd, hg1, hn, hz, hn', Nat.add_zero, hn1, hz1, hx1, bR1, cR1, dR1, eR1, rR, qR, pRT, rT, qT, pTR, t1, t2, t3, t4, t5, t6, t7]) (by decide) h0) ?_
  intro H2 hg2 ha2
  have hl2 := ha2.1
  try simp only [go_sem, Nat.reduceBEq, Nat.reduceLeDiff, Nat.reduceEqDiff, Nat.reduceSub, Nat.reduceAdd, Int.reduceEq, Int.reduceLT, Int.reduceLE, Int.reduceAdd] at hl2
  have hr2 : r < H2.next := by omega
  have hn2 := ne_new hr2
  have hz2 := ne_new0 hr2
  have hx2 := ne_new' hr2
  have bR2 : H2.get (H.next) = some ([.lit (.int .i64 0), .lit (.int .i64 0), .lit (.string (ba []))]) := (ha2.get (by first | omega | (simp only [go_sem, Nat.reduceBEq, Nat.reduceLeDiff, Nat.reduceEqDiff, Nat.reduceSub, Nat.reduceAdd, Int.reduceEq, Int.reduceLT, Int.reduceLE, Int.reduceAdd]; omega)) (by omega)).trans (by simp only [go_sem, Nat.reduceBEq, Nat.reduceLeDiff, Nat.reduceEqDiff, Nat.reduceSub, Nat.reduceAdd, Int.reduceEq, Int.reduceLT, Int.reduceLE, Int.reduceAdd, hg1, hn, hz, hn', Nat.add_zero, hn1, hz1, hx1, bR1, cR1, dR1, eR1, rR, qR, pRT, rT, qT, pTR, t1, t2, t3, t4, t5, t6, t7])
  have cR2 : ∀ j, (H2.next + j = H.next) = False := fun j => eq_false (by omega)
  have dR2 : (H2.next = H.next) = False := eq_false (by omega)
  have eR2 : ∀ j, (H.next = H2.next + j) = False := fun j => eq_false (by omega)
  have bT2 : H2.get (H.next + 3) = some (encG (peekG l s)) := (ha2.get (by first | omega | (simp only [go_sem, Nat.reduceBEq, Nat.reduceLeDiff, Nat.reduceEqDiff, Nat.reduceSub, Nat.reduceAdd, Int.reduceEq, Int.reduceLT, Int.reduceLE, Int.reduceAdd]; omega)) (by omega)).trans (by simp only [go_sem, Nat.reduceBEq, Nat.reduceLeDiff, Nat.reduceEqDiff, Nat.reduceSub, Nat.reduceAdd, Int.reduceEq, Int.reduceLT, Int.reduceLE, Int.reduceAdd, hg1, hn, hz, hn', Nat.add_zero, hn1, hz1, hx1, bR1, cR1, dR1, eR1, rR, qR, pRT, rT, qT, pTR, t1, t2, t3, t4, t5, t6, t7])
  have cT2 : ∀ j, (H2.next + j = H.next + 3) = False := fun j => eq_false (by omega)
  have dT2 : (H2.next = H.next + 3) = False := eq_false (by omega)
  have eT2 : ∀ j, (H.next + 3 = H2.next + j) = False := fun j => eq_false (by omega)
  simp only [go_sem, Nat.reduceBEq, Nat.reduceLeDiff, Nat.reduceEqDiff, Nat.reduceSub, Nat.reduceAdd, Int.reduceEq, Int.reduceLT, Int.reduceLE, Int.reduceAdd, hg2, hn, hz, hn', Nat.add_zero, hn2, hz2, hx2, bR2, cR2, dR2, eR2, rR, qR, pRT, bT2, cT2, dT2, eT2, rT, qT, pTR, t1, t2, t3, t4, t5, t6, t7]
  cases h1 : isT l s [116, 114, 117, 101] with
  | true =>
    refine goC_ok (c_take_yes (s := s) (l := l) (en := en) hlen hf (by first | omega | (simp only [go_sem, Nat.reduceBEq, Nat.reduceLeDiff, Nat.reduceEqDiff, Nat.reduceSub, Nat.reduceAdd, Int.reduceEq, Int.reduceLT, Int.reduceLE, Int.reduceAdd]; omega)) (by first | assumption | simp only [go_sem, Nat.reduceBEq, Nat.reduceLeDiff, Nat.reduceEqDiff, Nat.reduceSub, Nat.reduceAdd, Int.reduceEq, Int.reduceLT, Int.reduceLE, Int.reduceAdd, hg2, hn, hz, hn', Nat.add_zero, hn2, hz2, hx2, bR2, cR2, dR2, eR2, rR, qR, pRT, bT2, cT2, dT2, eT2, rT, qT, pTR, t1, t2, t3, t4, t5, t6, t7]) (by decide) h1) ?_
    intro H3 hg3 ha3
    have hl3 := ha3.1
    try simp only [go_sem, Nat.reduceBEq, Nat.reduceLeDiff, Nat.reduceEqDiff, Nat.reduceSub, Nat.reduceAdd, Int.reduceEq, Int.reduceLT, Int.reduceLE, Int.reduceAdd] at hl3
    have hr3 : r < H3.next := by omega
    have hn3 := ne_new hr3
    have hz3 := ne_new0 hr3
    have hx3 := ne_new' hr3
    have bR3 : H3.get (H.next) = some ([.lit (.int .i64 0), .lit (.int .i64 0), .lit (.string (ba []))]) := (ha3.get (by first | omega | (simp only [go_sem, Nat.reduceBEq, Nat.reduceLeDiff, Nat.reduceEqDiff, Nat.reduceSub, Nat.reduceAdd, Int.reduceEq, Int.reduceLT, Int.reduceLE, Int.reduceAdd]; omega)) (by omega)).trans (by simp only [go_sem, Nat.reduceBEq, Nat.reduceLeDiff, Nat.reduceEqDiff, Nat.reduceSub, Nat.reduceAdd, Int.reduceEq, Int.reduceLT, Int.reduceLE, Int.reduceAdd, hg2, hn, hz, hn', Nat.add_zero, hn2, hz2, hx2, bR2, cR2, dR2, eR2, rR, qR, pRT, bT2, cT2, dT2, eT2, rT, qT, pTR, t1, t2, t3, t4, t5, t6, t7])
    have cR3 : ∀ j, (H3.next + j = H.next) = False := fun j => eq_false (by omega)
    have dR3 : (H3.next = H.next) = False := eq_false (by omega)
    have eR3 : ∀ j, (H.next = H3.next + j) = False := fun j => eq_false (by omega)
    have bT3 : H3.get (H.next + 3) = some (encG (peekG l s)) := (ha3.get (by first | omega | (simp only [go_sem, Nat.reduceBEq, Nat.reduceLeDiff, Nat.reduceEqDiff, Nat.reduceSub, Nat.reduceAdd, Int.reduceEq, Int.reduceLT, Int.reduceLE, Int.reduceAdd]; omega)) (by omega)).trans (by simp only [go_sem, Nat.reduceBEq, Nat.reduceLeDiff, Nat.reduceEqDiff, Nat.reduceSub, Nat.reduceAdd, Int.reduceEq, Int.reduceLT, Int.reduceLE, Int.reduceAdd, hg2, hn, hz, hn', Nat.add_zero, hn2, hz2, hx2, bR2, cR2, dR2, eR2, rR, qR, pRT, bT2, cT2, dT2, eT2, rT, qT, pTR, t1, t2, t3, t4, t5, t6, t7])
    have cT3 : ∀ j, (H3.next + j = H.next + 3) = False := fun j => eq_false (by omega)
    have dT3 : (H3.next = H.next + 3) = False := eq_false (by omega)
    have eT3 : ∀ j, (H.next + 3 = H3.next + j) = False := fun j => eq_false (by omega)
    rw [show isT l s tTrue = true from h1] at hq
    simp only at hq
    subst hq
    rw [outP_none (show s.adv.f = none from hf)]
    have e0 : ([.lit (.int .i64 1), .lit (.int .i64 1), .lit (.string (ba []))] : List AV) = encOpd ⟨1, 1, []⟩ := rfl
    simp only [go_sem, Nat.reduceBEq, Nat.reduceLeDiff, Nat.reduceEqDiff, Nat.reduceSub, Nat.reduceAdd, Int.reduceEq, Int.reduceLT, Int.reduceLE, Int.reduceAdd, hg3, hn, hz, hn', Nat.add_zero, hn3, hz3, hx3, bR3, cR3, dR3, eR3, rR, qR, pRT, bT3, cT3, dT3, eT3, rT, qT, pTR, t1, t2, t3, t4, t5, t6, t7, rs, e0]
    (repeat first | exact Adv.refl _ _ | assumption | refine Adv.trans ?_ had | refine Adv.trans ?_ ha1 | refine Adv.trans ?_ ha2 | refine Adv.trans ?_ ha3 | refine Adv.trans ?_ ha4 | refine Adv.trans ?_ ha5 | refine Adv.trans ?_ ha6 | refine Adv.trans ?_ ha7 | refine Adv.trans ?_ ha8 | refine Adv.trans ?_ ha9 | refine Adv.trans ?_ ha10 | refine Adv.trans ?_ ha11 | refine Adv.trans ?_ ha12 | apply Adv.up | apply Adv.put | refine Adv.new ?_ (by omega) _ | refine Adv.live ?_ (by omega) _ | refine Adv.owns ?_ (by omega) (by first | exact OwnB.lo ‹_› | exact fun _ _ _ h => by cases h))
  | false =>
  rw [show isT l s tTrue = false from h1] at hq
  simp only at hq
  refine goC_ok (c_take_no (s := s) (l := l) (en := en) hlen hf (by first | omega | (simp only [go_sem, Nat.reduceBEq, Nat.reduceLeDiff, Nat.reduceEqDiff, Nat.reduceSub, Nat.reduceAdd, Int.reduceEq, Int.reduceLT, Int.reduceLE, Int.reduceAdd]; omega)) (by first | assumption | simp only [go_sem, Nat.reduceBEq, Nat.reduceLeDiff, Nat.reduceEqDiff, Nat.reduceSub, Nat.reduceAdd, Int.reduceEq, Int.reduceLT, Int.reduceLE, Int.reduceAdd, hg2, hn, hz, hn', Nat.add_zero, hn2, hz2, hx2, bR2, cR2, dR2, eR2, rR, qR, pRT, bT2, cT2, dT2, eT2, rT, qT, pTR, t1, t2, t3, t4, t5, t6, t7]) (by decide) h1) ?_
  intro H3 hg3 ha3
  have hl3 := ha3.1
  try simp only [go_sem, Nat.reduceBEq, Nat.reduceLeDiff, Nat.reduceEqDiff, Nat.reduceSub, Nat.reduceAdd, Int.reduceEq, Int.reduceLT, Int.reduceLE, Int.reduceAdd] at hl3
  have hr3 : r < H3.next := by omega
  have hn3 := ne_new hr3
  have hz3 := ne_new0 hr3
  have hx3 := ne_new' hr3
  have bR3 : H3.get (H.next) = some ([.lit (.int .i64 0), .lit (.int .i64 0), .lit (.string (ba []))]) := (ha3.get (by first | omega | (simp only [go_sem, Nat.reduceBEq, Nat.reduceLeDiff, Nat.reduceEqDiff, Nat.reduceSub, Nat.reduceAdd, Int.reduceEq, Int.reduceLT, Int.reduceLE, Int.reduceAdd]; omega)) (by omega)).trans (by simp only [go_sem, Nat.reduceBEq, Nat.reduceLeDiff, Nat.reduceEqDiff, Nat.reduceSub, Nat.reduceAdd, Int.reduceEq, Int.reduceLT, Int.reduceLE, Int.reduceAdd, hg2, hn, hz, hn', Nat.add_zero, hn2, hz2, hx2, bR2, cR2, dR2, eR2, rR, qR, pRT, bT2, cT2, dT2, eT2, rT, qT, pTR, t1, t2, t3, t4, t5, t6, t7])
  have cR3 : ∀ j, (H3.next + j = H.next) = False := fun j => eq_false (by omega)
  have dR3 : (H3.next = H.next) = False := eq_false (by omega)
  have eR3 : ∀ j, (H.next = H3.next + j) = False := fun j => eq_false (by omega)
  have bT3 : H3.get (H.next + 3) = some (encG (peekG l s)) := (ha3.get (by first | omega | (simp only [go_sem, Nat.reduceBEq, Nat.reduceLeDiff, Nat.reduceEqDiff, Nat.reduceSub, Nat.reduceAdd, Int.reduceEq, Int.reduceLT, Int.reduceLE, Int.reduceAdd]; omega)) (by omega)).trans (by simp only [go_sem, Nat.reduceBEq, Nat.reduceLeDiff, Nat.reduceEqDiff, Nat.reduceSub, Nat.reduceAdd, Int.reduceEq, Int.reduceLT, Int.reduceLE, Int.reduceAdd, hg2, hn, hz, hn', Nat.add_zero, hn2, hz2, hx2, bR2, cR2, dR2, eR2, rR, qR, pRT, bT2, cT2, dT2, eT2, rT, qT, pTR, t1, t2, t3, t4, t5, t6, t7])
  have cT3 : ∀ j, (H3.next + j = H.next + 3) = False := fun j => eq_false (by omega)
  have dT3 : (H3.next = H.next + 3) = False := eq_false (by omega)
  have eT3 : ∀ j, (H.next + 3 = H3.next + j) = False := fun j => eq_false (by omega)
  simp only [go_sem, Nat.reduceBEq, Nat.reduceLeDiff, Nat.reduceEqDiff, Nat.reduceSub, Nat.reduceAdd, Int.reduceEq, Int.reduceLT, Int.reduceLE, Int.reduceAdd, hg3, hn, hz, hn', Nat.add_zero, hn3, hz3, hx3, bR3, cR3, dR3, eR3, rR, qR, pRT, bT3, cT3, dT3, eT3, rT, qT, pTR, t1, t2, t3, t4, t5, t6, t7]
  cases h2 : isT l s [102, 97, 108, 115, 101] with
  | true =>
    refine goC_ok (c_take_yes (s := s) (l := l) (en := en) hlen hf (by first | omega | (simp only [go_sem, Nat.reduceBEq, Nat.reduceLeDiff, Nat.reduceEqDiff, Nat.reduceSub, Nat.reduceAdd, Int.reduceEq, Int.reduceLT, Int.reduceLE, Int.reduceAdd]; omega)) (by first | assumption | simp only [go_sem, Nat.reduceBEq, Nat.reduceLeDiff, Nat.reduceEqDiff, Nat.reduceSub, Nat.reduceAdd, Int.reduceEq, Int.reduceLT, Int.reduceLE, Int.reduceAdd, hg3, hn, hz, hn', Nat.add_zero, hn3, hz3, hx3, bR3, cR3, dR3, eR3, rR, qR, pRT, bT3, cT3, dT3, eT3, rT, qT, pTR, t1, t2, t3, t4, t5, t6, t7]) (by decide) h2) ?_
    intro H4 hg4 ha4
    have hl4 := ha4.1
    try simp only [go_sem, Nat.reduceBEq, Nat.reduceLeDiff, Nat.reduceEqDiff, Nat.reduceSub, Nat.reduceAdd, Int.reduceEq, Int.reduceLT, Int.reduceLE, Int.reduceAdd] at hl4
    have hr4 : r < H4.next := by omega
    have hn4 := ne_new hr4
    have hz4 := ne_new0 hr4
    have hx4 := ne_new' hr4
    have bR4 : H4.get (H.next) = some ([.lit (.int .i64 0), .lit (.int .i64 0), .lit (.string (ba []))]) := (ha4.get (by first | omega | (simp only [go_sem, Nat.reduceBEq, Nat.reduceLeDiff, Nat.reduceEqDiff, Nat.reduceSub, Nat.reduceAdd, Int.reduceEq, Int.reduceLT, Int.reduceLE, Int.reduceAdd]; omega)) (by omega)).trans (by simp only [go_sem, Nat.reduceBEq, Nat.reduceLeDiff, Nat.reduceEqDiff, Nat.reduceSub, Nat.reduceAdd, Int.reduceEq, Int.reduceLT, Int.reduceLE, Int.reduceAdd, hg3, hn, hz, hn', Nat.add_zero, hn3, hz3, hx3, bR3, cR3, dR3, eR3, rR, qR, pRT, bT3, cT3, dT3, eT3, rT, qT, pTR, t1, t2, t3, t4, t5, t6, t7])
    have cR4 : ∀ j, (H4.next + j = H.next) = False := fun j => eq_false (by omega)
    have dR4 : (H4.next = H.next) = False := eq_false (by omega)
    have eR4 : ∀ j, (H.next = H4.next + j) = False := fun j => eq_false (by omega)
    have bT4 : H4.get (H.next + 3) = some (encG (peekG l s)) := (ha4.get (by first | omega | (simp only [go_sem, Nat.reduceBEq, Nat.reduceLeDiff, Nat.reduceEqDiff, Nat.reduceSub, Nat.reduceAdd, Int.reduceEq, Int.reduceLT, Int.reduceLE, Int.reduceAdd]; omega)) (by omega)).trans (by simp only [go_sem, Nat.reduceBEq, Nat.reduceLeDiff, Nat.reduceEqDiff, Nat.reduceSub, Nat.reduceAdd, Int.reduceEq, Int.reduceLT, Int.reduceLE, Int.reduceAdd, hg3, hn, hz, hn', Nat.add_zero, hn3, hz3, hx3, bR3, cR3, dR3, eR3, rR, qR, pRT, bT3, cT3, dT3, eT3, rT, qT, pTR, t1, t2, t3, t4, t5, t6, t7])
    have cT4 : ∀ j, (H4.next + j = H.next + 3) = False := fun j => eq_false (by omega)
    have dT4 : (H4.next = H.next + 3) = False := eq_false (by omega)
    have eT4 : ∀ j, (H.next + 3 = H4.next + j) = False := fun j => eq_false (by omega)
    rw [show isT l s tFalse = true from h2] at hq
    simp only at hq
    subst hq
    rw [outP_none (show s.adv.f = none from hf)]
    have e0 : ([.lit (.int .i64 1), .lit (.int .i64 0), .lit (.string (ba []))] : List AV) = encOpd ⟨1, 0, []⟩ := rfl
    simp only [go_sem, Nat.reduceBEq, Nat.reduceLeDiff, Nat.reduceEqDiff, Nat.reduceSub, Nat.reduceAdd, Int.reduceEq, Int.reduceLT, Int.reduceLE, Int.reduceAdd, hg4, hn, hz, hn', Nat.add_zero, hn4, hz4, hx4, bR4, cR4, dR4, eR4, rR, qR, pRT, bT4, cT4, dT4, eT4, rT, qT, pTR, t1, t2, t3, t4, t5, t6, t7, rs, e0]
    (repeat first | exact Adv.refl _ _ | assumption | refine Adv.trans ?_ had | refine Adv.trans ?_ ha1 | refine Adv.trans ?_ ha2 | refine Adv.trans ?_ ha3 | refine Adv.trans ?_ ha4 | refine Adv.trans ?_ ha5 | refine Adv.trans ?_ ha6 | refine Adv.trans ?_ ha7 | refine Adv.trans ?_ ha8 | refine Adv.trans ?_ ha9 | refine Adv.trans ?_ ha10 | refine Adv.trans ?_ ha11 | refine Adv.trans ?_ ha12 | apply Adv.up | apply Adv.put | refine Adv.new ?_ (by omega) _ | refine Adv.live ?_ (by omega) _ | refine Adv.owns ?_ (by omega) (by first | exact OwnB.lo ‹_› | exact fun _ _ _ h => by cases h))
  | false =>
  rw [show isT l s tFalse = false from h2] at hq
  simp only at hq
  refine goC_ok (c_take_no (s := s) (l := l) (en := en) hlen hf (by first | omega | (simp only [go_sem, Nat.reduceBEq, Nat.reduceLeDiff, Nat.reduceEqDiff, Nat.reduceSub, Nat.reduceAdd, Int.reduceEq, Int.reduceLT, Int.reduceLE, Int.reduceAdd]; omega)) (by first | assumption | simp only [go_sem, Nat.reduceBEq, Nat.reduceLeDiff, Nat.reduceEqDiff, Nat.reduceSub, Nat.reduceAdd, Int.reduceEq, Int.reduceLT, Int.reduceLE, Int.reduceAdd, hg3, hn, hz, hn', Nat.add_zero, hn3, hz3, hx3, bR3, cR3, dR3, eR3, rR, qR, pRT, bT3, cT3, dT3, eT3, rT, qT, pTR, t1, t2, t3, t4, t5, t6, t7]) (by decide) h2) ?_
  intro H4 hg4 ha4
  have hl4 := ha4.1
  try simp only [go_sem, Nat.reduceBEq, Nat.reduceLeDiff, Nat.reduceEqDiff, Nat.reduceSub, Nat.reduceAdd, Int.reduceEq, Int.reduceLT, Int.reduceLE, Int.reduceAdd] at hl4
  have hr4 : r < H4.next := by omega
  have hn4 := ne_new hr4
  have hz4 := ne_new0 hr4
  have hx4 := ne_new' hr4
  have bR4 : H4.get (H.next) = some ([.lit (.int .i64 0), .lit (.int .i64 0), .lit (.string (ba []))]) := (ha4.get (by first | omega | (simp only [go_sem, Nat.reduceBEq, Nat.reduceLeDiff, Nat.reduceEqDiff, Nat.reduceSub, Nat.reduceAdd, Int.reduceEq, Int.reduceLT, Int.reduceLE, Int.reduceAdd]; omega)) (by omega)).trans (by simp only [go_sem, Nat.reduceBEq, Nat.reduceLeDiff, Nat.reduceEqDiff, Nat.reduceSub, Nat.reduceAdd, Int.reduceEq, Int.reduceLT, Int.reduceLE, Int.reduceAdd, hg3, hn, hz, hn', Nat.add_zero, hn3, hz3, hx3, bR3, cR3, dR3, eR3, rR, qR, pRT, bT3, cT3, dT3, eT3, rT, qT, pTR, t1, t2, t3, t4, t5, t6, t7])
  have cR4 : ∀ j, (H4.next + j = H.next) = False := fun j => eq_false (by omega)
  have dR4 : (H4.next = H.next) = False := eq_false (by omega)
  have eR4 : ∀ j, (H.next = H4.next + j) = False := fun j => eq_false (by omega)
  have bT4 : H4.get (H.next + 3) = some (encG (peekG l s)) := (ha4.get (by first | omega | (simp only [go_sem, Nat.reduceBEq, Nat.reduceLeDiff, Nat.reduceEqDiff, Nat.reduceSub, Nat.reduceAdd, Int.reduceEq, Int.reduceLT, Int.reduceLE, Int.reduceAdd]; omega)) (by omega)).trans (by simp only [go_sem, Nat.reduceBEq, Nat.reduceLeDiff, Nat.reduceEqDiff, Nat.reduceSub, Nat.reduceAdd, Int.reduceEq, Int.reduceLT, Int.reduceLE, Int.reduceAdd, hg3, hn, hz, hn', Nat.add_zero, hn3, hz3, hx3, bR3, cR3, dR3, eR3, rR, qR, pRT, bT3, cT3, dT3, eT3, rT, qT, pTR, t1, t2, t3, t4, t5, t6, t7])
  have cT4 : ∀ j, (H4.next + j = H.next + 3) = False := fun j => eq_false (by omega)
  have dT4 : (H4.next = H.next + 3) = False := eq_false (by omega)
  have eT4 : ∀ j, (H.next + 3 = H4.next + j) = False := fun j => eq_false (by omega)
  simp only [go_sem, Nat.reduceBEq, Nat.reduceLeDiff, Nat.reduceEqDiff, Nat.reduceSub, Nat.reduceAdd, Int.reduceEq, Int.reduceLT, Int.reduceLE, Int.reduceAdd, hg4, hn, hz, hn', Nat.add_zero, hn4, hz4, hx4, bR4, cR4, dR4, eR4, rR, qR, pRT, bT4, cT4, dT4, eT4, rT, qT, pTR, t1, t2, t3, t4, t5, t6, t7]
  cases h4 : isT l s [38] with
  | true =>
    rw [h4] at hq
    simp only at hq
    subst hq
    refine goC_ok (c_take_yes (s := s) (l := l) (en := en) hlen hf (by first | omega | (simp only [go_sem, Nat.reduceBEq, Nat.reduceLeDiff, Nat.reduceEqDiff, Nat.reduceSub, Nat.reduceAdd, Int.reduceEq, Int.reduceLT, Int.reduceLE, Int.reduceAdd]; omega)) (by first | assumption | simp only [go_sem, Nat.reduceBEq, Nat.reduceLeDiff, Nat.reduceEqDiff, Nat.reduceSub, Nat.reduceAdd, Int.reduceEq, Int.reduceLT, Int.reduceLE, Int.reduceAdd, hg4, hn, hz, hn', Nat.add_zero, hn4, hz4, hx4, bR4, cR4, dR4, eR4, rR, qR, pRT, bT4, cT4, dT4, eT4, rT, qT, pTR, t1, t2, t3, t4, t5, t6, t7]) (by decide) h4) ?_
    intro H5 hg5 ha5
    have hl5 := ha5.1
    try simp only [go_sem, Nat.reduceBEq, Nat.reduceLeDiff, Nat.reduceEqDiff, Nat.reduceSub, Nat.reduceAdd, Int.reduceEq, Int.reduceLT, Int.reduceLE, Int.reduceAdd] at hl5
    have hr5 : r < H5.next := by omega
    have hn5 := ne_new hr5
    have hz5 := ne_new0 hr5
    have hx5 := ne_new' hr5
    have bR5 : H5.get (H.next) = some ([.lit (.int .i64 0), .lit (.int .i64 0), .lit (.string (ba []))]) := (ha5.get (by first | omega | (simp only [go_sem, Nat.reduceBEq, Nat.reduceLeDiff, Nat.reduceEqDiff, Nat.reduceSub, Nat.reduceAdd, Int.reduceEq, Int.reduceLT, Int.reduceLE, Int.reduceAdd]; omega)) (by omega)).trans (by simp only [go_sem, Nat.reduceBEq, Nat.reduceLeDiff, Nat.reduceEqDiff, Nat.reduceSub, Nat.reduceAdd, Int.reduceEq, Int.reduceLT, Int.reduceLE, Int.reduceAdd, hg4, hn, hz, hn', Nat.add_zero, hn4, hz4, hx4, bR4, cR4, dR4, eR4, rR, qR, pRT, bT4, cT4, dT4, eT4, rT, qT, pTR, t1, t2, t3, t4, t5, t6, t7])
    have cR5 : ∀ j, (H5.next + j = H.next) = False := fun j => eq_false (by omega)
    have dR5 : (H5.next = H.next) = False := eq_false (by omega)
    have eR5 : ∀ j, (H.next = H5.next + j) = False := fun j => eq_false (by omega)
    have bT5 : H5.get (H.next + 3) = some (encG (peekG l s)) := (ha5.get (by first | omega | (simp only [go_sem, Nat.reduceBEq, Nat.reduceLeDiff, Nat.reduceEqDiff, Nat.reduceSub, Nat.reduceAdd, Int.reduceEq, Int.reduceLT, Int.reduceLE, Int.reduceAdd]; omega)) (by omega)).trans (by simp only [go_sem, Nat.reduceBEq, Nat.reduceLeDiff, Nat.reduceEqDiff, Nat.reduceSub, Nat.reduceAdd, Int.reduceEq, Int.reduceLT, Int.reduceLE, Int.reduceAdd, hg4, hn, hz, hn', Nat.add_zero, hn4, hz4, hx4, bR4, cR4, dR4, eR4, rR, qR, pRT, bT4, cT4, dT4, eT4, rT, qT, pTR, t1, t2, t3, t4, t5, t6, t7])
    have cT5 : ∀ j, (H5.next + j = H.next + 3) = False := fun j => eq_false (by omega)
    have dT5 : (H5.next = H.next + 3) = False := eq_false (by omega)
    have eT5 : ∀ j, (H.next + 3 = H5.next + j) = False := fun j => eq_false (by omega)
    simp only [go_sem, Nat.reduceBEq, Nat.reduceLeDiff, Nat.reduceEqDiff, Nat.reduceSub, Nat.reduceAdd, Int.reduceEq, Int.reduceLT, Int.reduceLE, Int.reduceAdd, hg5, hn, hz, hn', Nat.add_zero, hn5, hz5, hx5, bR5, cR5, dR5, eR5, rR, qR, pRT, bT5, cT5, dT5, eT5, rT, qT, pTR, t1, t2, t3, t4, t5, t6, t7]
    refine goC_out (c_name (s := s.adv) (l := l) (en := en) hlen hf (by first | omega | (simp only [go_sem, Nat.reduceBEq, Nat.reduceLeDiff, Nat.reduceEqDiff, Nat.reduceSub, Nat.reduceAdd, Int.reduceEq, Int.reduceLT, Int.reduceLE, Int.reduceAdd]; omega)) (by first | assumption | simp only [go_sem, Nat.reduceBEq, Nat.reduceLeDiff, Nat.reduceEqDiff, Nat.reduceSub, Nat.reduceAdd, Int.reduceEq, Int.reduceLT, Int.reduceLE, Int.reduceAdd, hg5, hn, hz, hn', Nat.add_zero, hn5, hz5, hx5, bR5, cR5, dR5, eR5, rR, qR, pRT, bT5, cT5, dT5, eT5, rT, qT, pTR, t1, t2, t3, t4, t5, t6, t7])) ?_ ?_
    · intro hf2 H6 hg6 ha6
      have hl6 := ha6.1
      try simp only [go_sem, Nat.reduceBEq, Nat.reduceLeDiff, Nat.reduceEqDiff, Nat.reduceSub, Nat.reduceAdd, Int.reduceEq, Int.reduceLT, Int.reduceLE, Int.reduceAdd] at hl6
      have hr6 : r < H6.next := by omega
      have hn6 := ne_new hr6
      have hz6 := ne_new0 hr6
      have hx6 := ne_new' hr6
      have bR6 : H6.get (H.next) = some ([.lit (.int .i64 0), .lit (.int .i64 0), .lit (.string (ba []))]) := (ha6.get (by first | omega | (simp only [go_sem, Nat.reduceBEq, Nat.reduceLeDiff, Nat.reduceEqDiff, Nat.reduceSub, Nat.reduceAdd, Int.reduceEq, Int.reduceLT, Int.reduceLE, Int.reduceAdd]; omega)) (by omega)).trans (by simp only [go_sem, Nat.reduceBEq, Nat.reduceLeDiff, Nat.reduceEqDiff, Nat.reduceSub, Nat.reduceAdd, Int.reduceEq, Int.reduceLT, Int.reduceLE, Int.reduceAdd, hg5, hn, hz, hn', Nat.add_zero, hn5, hz5, hx5, bR5, cR5, dR5, eR5, rR, qR, pRT, bT5, cT5, dT5, eT5, rT, qT, pTR, t1, t2, t3, t4, t5, t6, t7])
      have cR6 : ∀ j, (H6.next + j = H.next) = False := fun j => eq_false (by omega)
      have dR6 : (H6.next = H.next) = False := eq_false (by omega)
      have eR6 : ∀ j, (H.next = H6.next + j) = False := fun j => eq_false (by omega)
      have bT6 : H6.get (H.next + 3) = some (encG (peekG l s)) := (ha6.get (by first | omega | (simp only [go_sem, Nat.reduceBEq, Nat.reduceLeDiff, Nat.reduceEqDiff, Nat.reduceSub, Nat.reduceAdd, Int.reduceEq, Int.reduceLT, Int.reduceLE, Int.reduceAdd]; omega)) (by omega)).trans (by simp only [go_sem, Nat.reduceBEq, Nat.reduceLeDiff, Nat.reduceEqDiff, Nat.reduceSub, Nat.reduceAdd, Int.reduceEq, Int.reduceLT, Int.reduceLE, Int.reduceAdd, hg5, hn, hz, hn', Nat.add_zero, hn5, hz5, hx5, bR5, cR5, dR5, eR5, rR, qR, pRT, bT5, cT5, dT5, eT5, rT, qT, pTR, t1, t2, t3, t4, t5, t6, t7])
      have cT6 : ∀ j, (H6.next + j = H.next + 3) = False := fun j => eq_false (by omega)
      have dT6 : (H6.next = H.next + 3) = False := eq_false (by omega)
      have eT6 : ∀ j, (H.next + 3 = H6.next + j) = False := fun j => eq_false (by omega)
      rw [outP_none (show (((nameP l en s.adv).1, (⟨3, 0, (nameP l en s.adv).2⟩ : Opd))).1.f = none from hf2)]
      have e0 : ([.lit (.int .i64 3), .lit (.int .i64 0), .lit (.string (ba (nameP l en s.adv).2))] : List AV) = encOpd ⟨3, 0, (nameP l en s.adv).2⟩ := rfl
      simp only [go_sem, Nat.reduceBEq, Nat.reduceLeDiff, Nat.reduceEqDiff, Nat.reduceSub, Nat.reduceAdd, Int.reduceEq, Int.reduceLT, Int.reduceLE, Int.reduceAdd, hg6, hn, hz, hn', Nat.add_zero, hn6, hz6, hx6, bR6, cR6, dR6, eR6, rR, qR, pRT, bT6, cT6, dT6, eT6, rT, qT, pTR, t1, t2, t3, t4, t5, t6, t7, rs, e0]
      (repeat first | exact Adv.refl _ _ | assumption | refine Adv.trans ?_ had | refine Adv.trans ?_ ha1 | refine Adv.trans ?_ ha2 | refine Adv.trans ?_ ha3 | refine Adv.trans ?_ ha4 | refine Adv.trans ?_ ha5 | refine Adv.trans ?_ ha6 | refine Adv.trans ?_ ha7 | refine Adv.trans ?_ ha8 | refine Adv.trans ?_ ha9 | refine Adv.trans ?_ ha10 | refine Adv.trans ?_ ha11 | refine Adv.trans ?_ ha12 | apply Adv.up | apply Adv.put | refine Adv.new ?_ (by omega) _ | refine Adv.live ?_ (by omega) _ | refine Adv.owns ?_ (by omega) (by first | exact OwnB.lo ‹_› | exact fun _ _ _ h => by cases h))
    · intro q hf2 H9 had
      rw [outP_some (show (((nameP l en s.adv).1, (⟨3, 0, (nameP l en s.adv).2⟩ : Opd))).1.f = some q from hf2)]
      simp only [go_sem, Nat.reduceBEq, Nat.reduceLeDiff, Nat.reduceEqDiff, Nat.reduceSub, Nat.reduceAdd, Int.reduceEq, Int.reduceLT, Int.reduceLE, Int.reduceAdd, san_trouble]
      (repeat first | exact Adv.refl _ _ | assumption | refine Adv.trans ?_ had | refine Adv.trans ?_ ha1 | refine Adv.trans ?_ ha2 | refine Adv.trans ?_ ha3 | refine Adv.trans ?_ ha4 | refine Adv.trans ?_ ha5 | refine Adv.trans ?_ ha6 | refine Adv.trans ?_ ha7 | refine Adv.trans ?_ ha8 | refine Adv.trans ?_ ha9 | refine Adv.trans ?_ ha10 | refine Adv.trans ?_ ha11 | refine Adv.trans ?_ ha12 | apply Adv.up | apply Adv.put | refine Adv.new ?_ (by omega) _ | refine Adv.live ?_ (by omega) _ | refine Adv.owns ?_ (by omega) (by first | exact OwnB.lo ‹_› | exact fun _ _ _ h => by cases h))
  | false =>
  rw [h4] at hq
  simp only at hq
  refine goC_ok (c_take_no (s := s) (l := l) (en := en) hlen hf (by first | omega | (simp only [go_sem, Nat.reduceBEq, Nat.reduceLeDiff, Nat.reduceEqDiff, Nat.reduceSub, Nat.reduceAdd, Int.reduceEq, Int.reduceLT, Int.reduceLE, Int.reduceAdd]; omega)) (by first | assumption | simp only [go_sem, Nat.reduceBEq, Nat.reduceLeDiff, Nat.reduceEqDiff, Nat.reduceSub, Nat.reduceAdd, Int.reduceEq, Int.reduceLT, Int.reduceLE, Int.reduceAdd, hg4, hn, hz, hn', Nat.add_zero, hn4, hz4, hx4, bR4, cR4, dR4, eR4, rR, qR, pRT, bT4, cT4, dT4, eT4, rT, qT, pTR, t1, t2, t3, t4, t5, t6, t7]) (by decide) h4) ?_
  intro H5 hg5 ha5
  have hl5 := ha5.1
  try simp only [go_sem, Nat.reduceBEq, Nat.reduceLeDiff, Nat.reduceEqDiff, Nat.reduceSub, Nat.reduceAdd, Int.reduceEq, Int.reduceLT, Int.reduceLE, Int.reduceAdd] at hl5
  have hr5 : r < H5.next := by omega
  have hn5 := ne_new hr5
  have hz5 := ne_new0 hr5
  have hx5 := ne_new' hr5
  have bR5 : H5.get (H.next) = some ([.lit (.int .i64 0), .lit (.int .i64 0), .lit (.string (ba []))]) := (ha5.get (by first | omega | (simp only [go_sem, Nat.reduceBEq, Nat.reduceLeDiff, Nat.reduceEqDiff, Nat.reduceSub, Nat.reduceAdd, Int.reduceEq, Int.reduceLT, Int.reduceLE, Int.reduceAdd]; omega)) (by omega)).trans (by simp only [go_sem, Nat.reduceBEq, Nat.reduceLeDiff, Nat.reduceEqDiff, Nat.reduceSub, Nat.reduceAdd, Int.reduceEq, Int.reduceLT, Int.reduceLE, Int.reduceAdd, hg4, hn, hz, hn', Nat.add_zero, hn4, hz4, hx4, bR4, cR4, dR4, eR4, rR, qR, pRT, bT4, cT4, dT4, eT4, rT, qT, pTR, t1, t2, t3, t4, t5, t6, t7])
  have cR5 : ∀ j, (H5.next + j = H.next) = False := fun j => eq_false (by omega)
  have dR5 : (H5.next = H.next) = False := eq_false (by omega)
  have eR5 : ∀ j, (H.next = H5.next + j) = False := fun j => eq_false (by omega)
  have bT5 : H5.get (H.next + 3) = some (encG (peekG l s)) := (ha5.get (by first | omega | (simp only [go_sem, Nat.reduceBEq, Nat.reduceLeDiff, Nat.reduceEqDiff, Nat.reduceSub, Nat.reduceAdd, Int.reduceEq, Int.reduceLT, Int.reduceLE, Int.reduceAdd]; omega)) (by omega)).trans (by simp only [go_sem, Nat.reduceBEq, Nat.reduceLeDiff, Nat.reduceEqDiff, Nat.reduceSub, Nat.reduceAdd, Int.reduceEq, Int.reduceLT, Int.reduceLE, Int.reduceAdd, hg4, hn, hz, hn', Nat.add_zero, hn4, hz4, hx4, bR4, cR4, dR4, eR4, rR, qR, pRT, bT4, cT4, dT4, eT4, rT, qT, pTR, t1, t2, t3, t4, t5, t6, t7])
  have cT5 : ∀ j, (H5.next + j = H.next + 3) = False := fun j => eq_false (by omega)
  have dT5 : (H5.next = H.next + 3) = False := eq_false (by omega)
  have eT5 : ∀ j, (H.next + 3 = H5.next + j) = False := fun j => eq_false (by omega)
  simp only [go_sem, Nat.reduceBEq, Nat.reduceLeDiff, Nat.reduceEqDiff, Nat.reduceSub, Nat.reduceAdd, Int.reduceEq, Int.reduceLT, Int.reduceLE, Int.reduceAdd, hg5, hn, hz, hn', Nat.add_zero, hn5, hz5, hx5, bR5, cR5, dR5, eR5, rR, qR, pRT, bT5, cT5, dT5, eT5, rT, qT, pTR, t1, t2, t3, t4, t5, t6, t7, hp]
  cases h5 : isNum l s with
  | true =>
    rw [h5] at hq
    simp only at hq
    subst hq
    rw [outP_none (show s.adv.f = none from hf)]
    obtain ⟨p1, p2, p3, p4⟩ := peek_text h5
    obtain ⟨x, hx, _⟩ := isNum_some h5
    have hw := at_wrap hlen (tk_some hx).2.2.1
    have ea := c_atoi _ p2 p3 (by omega)
    have e0 : ([.lit (.int .i64 2), .lit (.int .i64 ((numOf (text l s) : Nat) : Int)), .lit (.string (ba []))] : List AV) = encOpd ⟨2, (numOf (text l s) : Nat), []⟩ := rfl
    simp only [go_sem, Nat.reduceBEq, Nat.reduceLeDiff, Nat.reduceEqDiff, Nat.reduceSub, Nat.reduceAdd, Int.reduceEq, Int.reduceLT, Int.reduceLE, Int.reduceAdd, hg5, hn, hz, hn', Nat.add_zero, hn5, hz5, hx5, bR5, cR5, dR5, eR5, rR, qR, pRT, bT5, cT5, dT5, eT5, rT, qT, pTR, t1, t2, t3, t4, t5, t6, t7, rs, hw, p1, ea, e0]
    (repeat first | exact Adv.refl _ _ | assumption | refine Adv.trans ?_ had | refine Adv.trans ?_ ha1 | refine Adv.trans ?_ ha2 | refine Adv.trans ?_ ha3 | refine Adv.trans ?_ ha4 | refine Adv.trans ?_ ha5 | refine Adv.trans ?_ ha6 | refine Adv.trans ?_ ha7 | refine Adv.trans ?_ ha8 | refine Adv.trans ?_ ha9 | refine Adv.trans ?_ ha10 | refine Adv.trans ?_ ha11 | refine Adv.trans ?_ ha12 | apply Adv.up | apply Adv.put | refine Adv.new ?_ (by omega) _ | refine Adv.live ?_ (by omega) _ | refine Adv.owns ?_ (by omega) (by first | exact OwnB.lo ‹_› | exact fun _ _ _ h => by cases h))
  | false =>
  rw [h5] at hq
  simp only at hq
  subst hq
  simp only [go_sem, Nat.reduceBEq, Nat.reduceLeDiff, Nat.reduceEqDiff, Nat.reduceSub, Nat.reduceAdd, Int.reduceEq, Int.reduceLT, Int.reduceLE, Int.reduceAdd, hg5, hn, hz, hn', Nat.add_zero, hn5, hz5, hx5, bR5, cR5, dR5, eR5, rR, qR, pRT, bT5, cT5, dT5, eT5, rT, qT, pTR, t1, t2, t3, t4, t5, t6, t7]
  refine goC_out (c_name (s := s) (l := l) (en := en) hlen hf (by first | omega | (simp only [go_sem, Nat.reduceBEq, Nat.reduceLeDiff, Nat.reduceEqDiff, Nat.reduceSub, Nat.reduceAdd, Int.reduceEq, Int.reduceLT, Int.reduceLE, Int.reduceAdd]; omega)) (by first | assumption | simp only [go_sem, Nat.reduceBEq, Nat.reduceLeDiff, Nat.reduceEqDiff, Nat.reduceSub, Nat.reduceAdd, Int.reduceEq, Int.reduceLT, Int.reduceLE, Int.reduceAdd, hg5, hn, hz, hn', Nat.add_zero, hn5, hz5, hx5, bR5, cR5, dR5, eR5, rR, qR, pRT, bT5, cT5, dT5, eT5, rT, qT, pTR, t1, t2, t3, t4, t5, t6, t7])) ?_ ?_
  · intro hf2 H6 hg6 ha6
    have hl6 := ha6.1
    try simp only [go_sem, Nat.reduceBEq, Nat.reduceLeDiff, Nat.reduceEqDiff, Nat.reduceSub, Nat.reduceAdd, Int.reduceEq, Int.reduceLT, Int.reduceLE, Int.reduceAdd] at hl6
    have hr6 : r < H6.next := by omega
    have hn6 := ne_new hr6
    have hz6 := ne_new0 hr6
    have hx6 := ne_new' hr6
    have bR6 : H6.get (H.next) = some ([.lit (.int .i64 0), .lit (.int .i64 0), .lit (.string (ba []))]) := (ha6.get (by first | omega | (simp only [go_sem, Nat.reduceBEq, Nat.reduceLeDiff, Nat.reduceEqDiff, Nat.reduceSub, Nat.reduceAdd, Int.reduceEq, Int.reduceLT, Int.reduceLE, Int.reduceAdd]; omega)) (by omega)).trans (by simp only [go_sem, Nat.reduceBEq, Nat.reduceLeDiff, Nat.reduceEqDiff, Nat.reduceSub, Nat.reduceAdd, Int.reduceEq, Int.reduceLT, Int.reduceLE, Int.reduceAdd, hg5, hn, hz, hn', Nat.add_zero, hn5, hz5, hx5, bR5, cR5, dR5, eR5, rR, qR, pRT, bT5, cT5, dT5, eT5, rT, qT, pTR, t1, t2, t3, t4, t5, t6, t7])
    have cR6 : ∀ j, (H6.next + j = H.next) = False := fun j => eq_false (by omega)
    have dR6 : (H6.next = H.next) = False := eq_false (by omega)
    have eR6 : ∀ j, (H.next = H6.next + j) = False := fun j => eq_false (by omega)
    have bT6 : H6.get (H.next + 3) = some (encG (peekG l s)) := (ha6.get (by first | omega | (simp only [go_sem, Nat.reduceBEq, Nat.reduceLeDiff, Nat.reduceEqDiff, Nat.reduceSub, Nat.reduceAdd, Int.reduceEq, Int.reduceLT, Int.reduceLE, Int.reduceAdd]; omega)) (by omega)).trans (by simp only [go_sem, Nat.reduceBEq, Nat.reduceLeDiff, Nat.reduceEqDiff, Nat.reduceSub, Nat.reduceAdd, Int.reduceEq, Int.reduceLT, Int.reduceLE, Int.reduceAdd, hg5, hn, hz, hn', Nat.add_zero, hn5, hz5, hx5, bR5, cR5, dR5, eR5, rR, qR, pRT, bT5, cT5, dT5, eT5, rT, qT, pTR, t1, t2, t3, t4, t5, t6, t7])
    have cT6 : ∀ j, (H6.next + j = H.next + 3) = False := fun j => eq_false (by omega)
    have dT6 : (H6.next = H.next + 3) = False := eq_false (by omega)
    have eT6 : ∀ j, (H.next + 3 = H6.next + j) = False := fun j => eq_false (by omega)
    rw [outP_none (show (((nameP l en s).1, (⟨4, 0, (nameP l en s).2⟩ : Opd))).1.f = none from hf2)]
    have e0 : ([.lit (.int .i64 4), .lit (.int .i64 0), .lit (.string (ba (nameP l en s).2))] : List AV) = encOpd ⟨4, 0, (nameP l en s).2⟩ := rfl
    simp only [go_sem, Nat.reduceBEq, Nat.reduceLeDiff, Nat.reduceEqDiff, Nat.reduceSub, Nat.reduceAdd, Int.reduceEq, Int.reduceLT, Int.reduceLE, Int.reduceAdd, hg6, hn, hz, hn', Nat.add_zero, hn6, hz6, hx6, bR6, cR6, dR6, eR6, rR, qR, pRT, bT6, cT6, dT6, eT6, rT, qT, pTR, t1, t2, t3, t4, t5, t6, t7, rs, e0]
    (repeat first | exact Adv.refl _ _ | assumption | refine Adv.trans ?_ had | refine Adv.trans ?_ ha1 | refine Adv.trans ?_ ha2 | refine Adv.trans ?_ ha3 | refine Adv.trans ?_ ha4 | refine Adv.trans ?_ ha5 | refine Adv.trans ?_ ha6 | refine Adv.trans ?_ ha7 | refine Adv.trans ?_ ha8 | refine Adv.trans ?_ ha9 | refine Adv.trans ?_ ha10 | refine Adv.trans ?_ ha11 | refine Adv.trans ?_ ha12 | apply Adv.up | apply Adv.put | refine Adv.new ?_ (by omega) _ | refine Adv.live ?_ (by omega) _ | refine Adv.owns ?_ (by omega) (by first | exact OwnB.lo ‹_› | exact fun _ _ _ h => by cases h))
  · intro q hf2 H9 had
    rw [outP_some (show (((nameP l en s).1, (⟨4, 0, (nameP l en s).2⟩ : Opd))).1.f = some q from hf2)]
    simp only [go_sem, Nat.reduceBEq, Nat.reduceLeDiff, Nat.reduceEqDiff, Nat.reduceSub, Nat.reduceAdd, Int.reduceEq, Int.reduceLT, Int.reduceLE, Int.reduceAdd, san_trouble]
    (repeat first | exact Adv.refl _ _ | assumption | refine Adv.trans ?_ had | refine Adv.trans ?_ ha1 | refine Adv.trans ?_ ha2 | refine Adv.trans ?_ ha3 | refine Adv.trans ?_ ha4 | refine Adv.trans ?_ ha5 | refine Adv.trans ?_ ha6 | refine Adv.trans ?_ ha7 | refine Adv.trans ?_ ha8 | refine Adv.trans ?_ ha9 | refine Adv.trans ?_ ha10 | refine Adv.trans ?_ ha11 | refine Adv.trans ?_ ha12 | apply Adv.up | apply Adv.put | refine Adv.new ?_ (by omega) _ | refine Adv.live ?_ (by omega) _ | refine Adv.owns ?_ (by omega) (by first | exact OwnB.lo ‹_› | exact fun _ _ _ h => by cases h))
end
end Go.Proofs.YtghhkbigmmjanaaGreatDoor.VA

/-! Pe4 -/
namespace Go.Proofs.YtghhkbigmmjanaaGreatDoor.VA
open Go Go.RowKit
attribute [local go_sem] Nat.add_eq_left Nat.left_eq_add true_and and_true ite_true if_false Int.cast_ofNat_Int eq_self Nat.add_assoc Option.some.injEq decide_true decide_false Bool.not_true Bool.not_false List.size_toArray List.length_cons List.length_nil
set_option linter.unusedSimpArgs false
set_option maxRecDepth 100000

/-- A call that answers nothing, and leaves a memory of which something is said; or panics with a fault. -/
def LC (P : Program) (c : Cfg) (f : FuncId) (args : List AV) (H : Heap) (o : Option (Nat × Int)) (I J : Heap → Prop) : Prop :=
  match o with
  | none => ∃ H', calls P c f args H = some (.ret (.tup []) H') ∧ I H'
  | some q => ∃ H', calls P c f args H = some (.pan (encTrouble q.1 q.2) H') ∧ J H'
def LQ (P : Program) (rs : List ResultVar) (o : Option (Nat × Int)) (I J : Heap → Prop) : Post := fun x e H => match x with
  | .nrm | .ret => o = none ∧ (aResults P e H rs).map (fun vs => san (oneOr vs)) = some (.tup []) ∧ I H
  | .pan u => ∃ q, o = some q ∧ san u = encTrouble q.1 q.2 ∧ J H
  | _ => False
section
variable {P : Program} {c : Cfg} {rs : List ResultVar} {o : Option (Nat × Int)} {I J : Heap → Prop} {e : List AV} {H : Heap}
@[go_sem] theorem LQ_nrm : LQ P rs o I J .nrm e H = (o = none ∧ (aResults P e H rs).map (fun vs => san (oneOr vs)) = some (.tup []) ∧ I H) := rfl
@[go_sem] theorem LQ_ret : LQ P rs o I J .ret e H = (o = none ∧ (aResults P e H rs).map (fun vs => san (oneOr vs)) = some (.tup []) ∧ I H) := rfl
@[go_sem] theorem LQ_pan {u : AV} : LQ P rs o I J (.pan u) e H = (∃ q, o = some q ∧ san u = encTrouble q.1 q.2 ∧ J H) := rfl
theorem LC_of {f : FuncId} {fn : Func} {code : Code} {args : List AV} (ht : c.told f = none) (hf : c.fn f = some fn) (hi : c.imp f = true) (hb : fn.body = some code) (hn : Nat.ble args.length fn.ntmps = true)
    (h : W P c code [] args H (LQ P fn.results.toList o I J)) : LC P c f args H o I J := by
  obtain ⟨x, e1, H1, hx, hq⟩ := h
  rw [Fin_nil] at hq
  have hn' := Nat.le_of_ble_eq_true hn
  have good : (x = .nrm ∨ x = .ret) → (o = none ∧ (aResults P e1 H1 fn.results.toList).map (fun vs => san (oneOr vs)) = some (.tup []) ∧ I H1) → LC P c f args H o I J := by
    rintro hx2 ⟨rfl, hv, hI⟩
    cases hvs : aResults P e1 H1 fn.results.toList with
    | none => rw [hvs] at hv; cases hv
    | some vs =>
      have hs : san (oneOr vs) = .tup [] := by rw [hvs] at hv; simpa using hv
      obtain ⟨k, hk⟩ := runFn_of_XS hb hn' hx hx2 hvs
      exact ⟨H1, calls_iff.2 ⟨k + 1, by simp only [call, ht, hf, hi, hk, hs]⟩, hI⟩
  cases x with
  | nrm => exact good (.inl rfl) hq
  | ret => exact good (.inr rfl) hq
  | exit j => exact hq.elim
  | pan v =>
    obtain ⟨q, rfl, hs, hJ⟩ := hq
    obtain ⟨k, hk⟩ := runFn_of_pan hb hn' hx
    exact ⟨H1, calls_iff.2 ⟨k + 1, by simp only [call, ht, hf, hi, hk, hs]⟩, hJ⟩
variable {st : List Fr} {Q : Post} {ds : List (Option Tmp)} {base : Nat} {dst : Option Tmp} {os : List Oper} {i : Nat} {f : FuncId} {args : List AV}
theorem goC_LC (h : LC P c f args H o I J) (ok : o = none → ∀ H', I H' → WO P c ds base os i st (aput e dst (.tup [])) H' Q) (bad : ∀ q, o = some q → ∀ H', J H' → Fin P c st (.pan (encTrouble q.1 q.2)) e H' Q) :
    goC P c (calls P c f args H) ds base dst os i st e Q := by
  cases o with
  | none => obtain ⟨H', h1, h2⟩ := h; rw [h1]; exact ok rfl H' h2
  | some q => obtain ⟨H', h1, h2⟩ := h; rw [h1]; exact bad q rfl H' h2
end
section
variable {l : List GTok} {en : Int} {r : Nat} {s : PS} {H : Heap}
theorem bad_f {s : PS} {q : Nat × Int} (h : s.f = some q) : s.ok = false := ok_some h
theorem isT_bad {s : PS} (h : s.ok = false) (t : List UInt8) : isT l s t = false := by
  cases h2 : isT l s t with
  | false => rfl
  | true => obtain ⟨x, h3, _⟩ := isT_some h2; rw [(tk_some h3).2.1] at h; cases h
theorem need_bad' {s : PS} (h : s.ok = false) (t : List UInt8) : need l en s t = s := by
  obtain ⟨a, c, f⟩ := s
  cases f with
  | none => cases h
  | some q => rfl
theorem listF_one {X : Type} {one : PS → X → PS × X} {end_ : List UInt8} {s : PS} {x : X} {n : Nat} (h : s.ok = true) (hn : ms l s < n) (h2 : (one s x).1.ok = false) : listF l en one end_ n s x = one s x := by
  obtain ⟨n, rfl⟩ : ∃ k, n = k + 1 := ⟨n - 1, by omega⟩
  simp only [listF, h, isT_bad h2, need_bad' h2, listF_bad _ _ h2]
/-- What is said of a closure that takes one thing. -/
structure OneOk (l : List GTok) (en : Int) (r : Nat) (H0 : Heap) {X : Type} (one : PS → X → PS × X) (f : FuncId) (caps : List AV) (I : PS → X → Heap → Prop) : Prop where
  par : ∀ s x H, I s x H → r < H.next ∧ H.get r = some (cP l en s)
  adv : ∀ s x H s' H', I s x H → s.at_ ≤ s'.at_ → s'.at_ ≤ l.length → Adv r H H' → H'.get r = some (cP l en s') → I s' x H'
  lt : ∀ s x, Lt1 l s (one s x).1
  one : ∀ s x H, s.f = none → I s x H → LC Tryz.prog cfg f caps H (one s x).1.f (fun H' => I (one s x).1 (one s x).2 H') (Adv r H0)
  ad : ∀ s x H, I s x H → Adv r H0 H
  le : ∀ s x H, I s x H → s.at_ ≤ l.length
set_option maxRecDepth 20000 in
theorem c_list (hlen : l.length ≤ LM) {X : Type} {one : PS → X → PS × X} {f : FuncId} {caps : List AV} {I : PS → X → Heap → Prop} {H0 : Heap} (ho : OneOk l en r H0 one f caps I) (end_ : List UInt8) (he : end_ ≠ []) (x : X) (hf : s.f = none) (hI : I s x H) :
    LC Tryz.prog cfg 83 [.ptr r 0, .lit (.string (ba end_)), .fn f caps] H (listP l en one end_ s x).1.f (fun H' => I (listP l en one end_ s x).1 (listP l en one end_ s x).2 H') (Adv r H0) := by
  refine LC_of (fn := Tryz.f83) rfl rfl rfl rfl rfl ?_
  have rs : Tryz.f83.results.toList = [] := rfl
  generalize hR : listP l en one end_ s x = R
  unfold listP at hR
  obtain ⟨hr, hg⟩ := ho.par _ _ _ hI
  have hle := ho.le _ _ _ hI
  simp only [go_sem, Nat.reduceBEq, Nat.reduceLeDiff, Nat.reduceEqDiff, Nat.reduceSub, Nat.reduceAdd, Int.reduceEq, Int.reduceLT, Int.reduceLE, Int.reduceAdd]
  cases h0 : isT l s end_ with
  | true =>
    rw [h0] at hR
    subst hR
    refine goC_ok (c_take_yes (s := s) (l := l) (en := en) hlen hf (by simp only [go_sem, Nat.reduceBEq, Nat.reduceLeDiff, Nat.reduceEqDiff, Nat.reduceSub, Nat.reduceAdd, Int.reduceEq, Int.reduceLT, Int.reduceLE, Int.reduceAdd]; omega) (by simp only [go_sem, Nat.reduceBEq, Nat.reduceLeDiff, Nat.reduceEqDiff, Nat.reduceSub, Nat.reduceAdd, Int.reduceEq, Int.reduceLT, Int.reduceLE, Int.reduceAdd, hg]) he h0) ?_
    intro H1 hg1 ha1
    simp only [go_sem, Nat.reduceBEq, Nat.reduceLeDiff, Nat.reduceEqDiff, Nat.reduceSub, Nat.reduceAdd, Int.reduceEq, Int.reduceLT, Int.reduceLE, Int.reduceAdd, rs]
    exact ⟨hf, ho.adv _ _ _ _ _ hI (Nat.le_succ _) (isT_at h0) ((((Adv.refl r H).up 3).trans ha1)) hg1⟩
  | false =>
  rw [h0] at hR
  simp only at hR
  refine goC_ok (c_take_no (s := s) (l := l) (en := en) hlen hf (by simp only [go_sem, Nat.reduceBEq, Nat.reduceLeDiff, Nat.reduceEqDiff, Nat.reduceSub, Nat.reduceAdd, Int.reduceEq, Int.reduceLT, Int.reduceLE, Int.reduceAdd]; omega) (by simp only [go_sem, Nat.reduceBEq, Nat.reduceLeDiff, Nat.reduceEqDiff, Nat.reduceSub, Nat.reduceAdd, Int.reduceEq, Int.reduceLT, Int.reduceLE, Int.reduceAdd, hg]) he h0) ?_
  intro H1 hg1 ha1
  simp only [go_sem, Nat.reduceBEq, Nat.reduceLeDiff, Nat.reduceEqDiff, Nat.reduceSub, Nat.reduceAdd, Int.reduceEq, Int.reduceLT, Int.reduceLE, Int.reduceAdd]
  refine W_loop_ind (fun n e H => ∃ (s : PS) (x : X) (k : Nat), n = ms l s ∧ ms l s < k ∧ s.f = none ∧ listF l en one end_ k s x = R ∧ I s x H ∧ gget .bad e 0 = .ptr r 0 ∧ gget .bad e 1 = .lit (.string (ba end_)) ∧ gget .bad e 2 = .fn f caps)
    (ms l s) ⟨s, x, FN, rfl, ms_FN hlen s, hf, hR, ho.adv _ _ _ _ _ hI (Nat.le_refl _) hle (((Adv.refl r H).up 3).trans ha1) hg1, by simp only [go_sem, Nat.reduceBEq, Nat.reduceLeDiff, Nat.reduceEqDiff, Nat.reduceSub, Nat.reduceAdd, Int.reduceEq, Int.reduceLT, Int.reduceLE, Int.reduceAdd], by simp only [go_sem, Nat.reduceBEq, Nat.reduceLeDiff, Nat.reduceEqDiff, Nat.reduceSub, Nat.reduceAdd, Int.reduceEq, Int.reduceLT, Int.reduceLE, Int.reduceAdd], by simp only [go_sem, Nat.reduceBEq, Nat.reduceLeDiff, Nat.reduceEqDiff, Nat.reduceSub, Nat.reduceAdd, Int.reduceEq, Int.reduceLT, Int.reduceLE, Int.reduceAdd]⟩ ?_
  clear hg1 ha1 h0 hR hI hr hg hle
  rintro n ih e H ⟨s, x, k, rfl, hk, hf, hR, hI, e0, e1, e2⟩
  obtain ⟨hr, hg⟩ := ho.par _ _ _ hI
  have hle := ho.le _ _ _ hI
  have hok := ok_none hf
  simp only [go_sem, Nat.reduceBEq, Nat.reduceLeDiff, Nat.reduceEqDiff, Nat.reduceSub, Nat.reduceAdd, Int.reduceEq, Int.reduceLT, Int.reduceLE, Int.reduceAdd, e0, e1, e2]
  refine goC_LC (ho.one s x _ hf (ho.adv _ _ _ _ _ hI (Nat.le_refl _) hle ((Adv.refl r H).up 2) (by simp only [go_sem, Nat.reduceBEq, Nat.reduceLeDiff, Nat.reduceEqDiff, Nat.reduceSub, Nat.reduceAdd, Int.reduceEq, Int.reduceLT, Int.reduceLE, Int.reduceAdd, hg]))) ?_ ?_
  · intro hf1 H1 hI1
    obtain ⟨hr1, hg1⟩ := ho.par _ _ _ hI1
    have hle1 := ho.le _ _ _ hI1
    simp only [go_sem, Nat.reduceBEq, Nat.reduceLeDiff, Nat.reduceEqDiff, Nat.reduceSub, Nat.reduceAdd, Int.reduceEq, Int.reduceLT, Int.reduceLE, Int.reduceAdd, e0, e1, e2]
    cases h1 : isT l (one s x).1 end_ with
    | true =>
      have hR' := (listF_end hok hk h1).symm.trans hR
      subst hR'
      refine goC_ok (c_take_yes (s := (one s x).1) (l := l) (en := en) hlen hf1 (by simp only [go_sem, Nat.reduceBEq, Nat.reduceLeDiff, Nat.reduceEqDiff, Nat.reduceSub, Nat.reduceAdd, Int.reduceEq, Int.reduceLT, Int.reduceLE, Int.reduceAdd]; omega) (by simp only [go_sem, Nat.reduceBEq, Nat.reduceLeDiff, Nat.reduceEqDiff, Nat.reduceSub, Nat.reduceAdd, Int.reduceEq, Int.reduceLT, Int.reduceLE, Int.reduceAdd, hg1]) he h1) ?_
      intro H2 hg2 ha2
      simp only [go_sem, Nat.reduceBEq, Nat.reduceLeDiff, Nat.reduceEqDiff, Nat.reduceSub, Nat.reduceAdd, Int.reduceEq, Int.reduceLT, Int.reduceLE, Int.reduceAdd, rs]
      exact ⟨hf1, ho.adv _ _ _ _ _ hI1 (Nat.le_succ _) (isT_at h1) (((Adv.refl r H1).up 3).trans ha2) hg2⟩
    | false =>
      obtain ⟨k, rfl, h2⟩ := listF_more (en := en) (one := one) (x := x) hok hk h1
      rw [h2] at hR
      refine goC_ok (c_take_no (s := (one s x).1) (l := l) (en := en) hlen hf1 (by simp only [go_sem, Nat.reduceBEq, Nat.reduceLeDiff, Nat.reduceEqDiff, Nat.reduceSub, Nat.reduceAdd, Int.reduceEq, Int.reduceLT, Int.reduceLE, Int.reduceAdd]; omega) (by simp only [go_sem, Nat.reduceBEq, Nat.reduceLeDiff, Nat.reduceEqDiff, Nat.reduceSub, Nat.reduceAdd, Int.reduceEq, Int.reduceLT, Int.reduceLE, Int.reduceAdd, hg1]) he h1) ?_
      intro H2 hg2 ha2
      have hl2 := ha2.1
      simp only [go_sem, Nat.reduceBEq, Nat.reduceLeDiff, Nat.reduceEqDiff, Nat.reduceSub, Nat.reduceAdd, Int.reduceEq, Int.reduceLT, Int.reduceLE, Int.reduceAdd] at hl2
      simp only [go_sem, Nat.reduceBEq, Nat.reduceLeDiff, Nat.reduceEqDiff, Nat.reduceSub, Nat.reduceAdd, Int.reduceEq, Int.reduceLT, Int.reduceLE, Int.reduceAdd, e0, e1, e2]
      refine goC_out (c_need (s := (one s x).1) (l := l) (en := en) hlen hf1 (by simp only [go_sem, Nat.reduceBEq, Nat.reduceLeDiff, Nat.reduceEqDiff, Nat.reduceSub, Nat.reduceAdd, Int.reduceEq, Int.reduceLT, Int.reduceLE, Int.reduceAdd]; omega) (by simp only [go_sem, Nat.reduceBEq, Nat.reduceLeDiff, Nat.reduceEqDiff, Nat.reduceSub, Nat.reduceAdd, Int.reduceEq, Int.reduceLT, Int.reduceLE, Int.reduceAdd, hg2]) [44] (by decide)) ?_ ?_
      · intro hf3 H3 hg3 ha3
        have hlt := (ho.lt s x).trans_le (need_lt (en := en) (one s x).1 [44]).le
        have hms := ms_lt hlt hok
        obtain ⟨_, _, hle3⟩ := hlt (ok_none hf3)
        obtain ⟨_, hle4, _⟩ := need_lt (l := l) (en := en) (one s x).1 [44] (ok_none hf3)
        simp only [go_sem, Nat.reduceBEq, Nat.reduceLeDiff, Nat.reduceEqDiff, Nat.reduceSub, Nat.reduceAdd, Int.reduceEq, Int.reduceLT, Int.reduceLE, Int.reduceAdd, e0, e1, e2]
        exact ih _ hms _ _ ⟨_, _, k, rfl, by omega, hf3, hR, ho.adv _ _ _ _ _ hI1 (by omega) hle3 (((((Adv.refl r H1).up 3).trans ha2).up 2).trans ha3) hg3, by simp only [go_sem, Nat.reduceBEq, Nat.reduceLeDiff, Nat.reduceEqDiff, Nat.reduceSub, Nat.reduceAdd, Int.reduceEq, Int.reduceLT, Int.reduceLE, Int.reduceAdd, e0], by simp only [go_sem, Nat.reduceBEq, Nat.reduceLeDiff, Nat.reduceEqDiff, Nat.reduceSub, Nat.reduceAdd, Int.reduceEq, Int.reduceLT, Int.reduceLE, Int.reduceAdd, e1], by simp only [go_sem, Nat.reduceBEq, Nat.reduceLeDiff, Nat.reduceEqDiff, Nat.reduceSub, Nat.reduceAdd, Int.reduceEq, Int.reduceLT, Int.reduceLE, Int.reduceAdd, e2]⟩
      · intro q hf3 H3 had
        rw [listF_bad _ _ (ok_some hf3)] at hR
        subst hR
        simp only [go_sem, Nat.reduceBEq, Nat.reduceLeDiff, Nat.reduceEqDiff, Nat.reduceSub, Nat.reduceAdd, Int.reduceEq, Int.reduceLT, Int.reduceLE, Int.reduceAdd, san_trouble]
        exact ⟨q, hf3, rfl, (((((ho.ad _ _ _ hI1).up 3).trans ha2).up 2).trans had)⟩
  · intro q hf1 H1 had
    have hR' := (listF_one hok hk (ok_some hf1)).symm.trans hR
    subst hR'
    simp only [go_sem, Nat.reduceBEq, Nat.reduceLeDiff, Nat.reduceEqDiff, Nat.reduceSub, Nat.reduceAdd, Int.reduceEq, Int.reduceLT, Int.reduceLE, Int.reduceAdd, san_trouble]
    exact ⟨q, hf1, rfl, had⟩
end
end Go.Proofs.YtghhkbigmmjanaaGreatDoor.VA

/-! Pe5 -/
namespace Go.Proofs.YtghhkbigmmjanaaGreatDoor.VA
open Go Go.RowKit
attribute [local go_sem] Nat.add_eq_left Nat.left_eq_add true_and and_true ite_true if_false Int.cast_ofNat_Int eq_self Nat.add_assoc Option.some.injEq decide_true decide_false Bool.not_true Bool.not_false List.size_toArray List.length_cons List.length_nil
set_option linter.unusedSimpArgs false
set_option maxRecDepth 100000

section
variable {l : List GTok} {en : Int} {r : Nat} {s : PS} {H : Heap}
theorem listP_bad {X : Type} (one : PS → X → PS × X) (end_ : List UInt8) {s : PS} (h : s.ok = false) (x : X) : listP l en one end_ s x = (s, x) := by
  simp only [listP, isT_bad h, listF_bad _ _ h]
theorem OwnB.appOk {H : Heap} {o : Own} {e : TypeId} {sz lo : Nat} (h : OwnB H o e sz lo) (n : Nat) : AppOk H o n e sz := by
  cases o with
  | nil => trivial
  | own s e' z => exact h.ok
  | sh => exact h.elim
  | ex => exact h.elim
/-- What lies there while a list is read: the parser, the box of its address, the box of what was read. -/
structure Li (l : List GTok) (en : Int) (r : Nat) (H0 : Heap) (q b : Nat) (kp : List (Nat × List AV)) (s : PS) (H : Heap) : Prop where
  rl : r < H0.next
  q0 : H0.next ≤ q
  q1 : q < H.next
  b0 : H0.next ≤ b
  b1 : b < H.next
  qb : q ≠ b
  gr : H.get r = some (cP l en s)
  gq : H.get q = some [.ptr r 0]
  ad : Adv r H0 H
  le : s.at_ ≤ l.length
  kk : ∀ x ∈ kp, x.1 ≠ r ∧ x.1 ≠ b ∧ x.1 < H.next ∧ H.get x.1 = some x.2
theorem Li.adv {H0 : Heap} {q b : Nat} {kp : List (Nat × List AV)} {s s' : PS} {H H' : Heap} (h : Li l en r H0 q b kp s H) (ha : Adv r H H') (hg : H'.get r = some (cP l en s')) (hle : s'.at_ ≤ l.length) : Li l en r H0 q b kp s' H' :=
  ⟨h.rl, h.q0, Nat.lt_of_lt_of_le h.q1 ha.1, h.b0, Nat.lt_of_lt_of_le h.b1 ha.1, h.qb, hg, by rw [ha.get h.q1 (by have := h.rl; have := h.q0; omega)]; exact h.gq, h.ad.trans ha, hle,
    fun x hx => let ⟨k1, k2, k3, k4⟩ := h.kk x hx; ⟨k1, k2, Nat.lt_of_lt_of_le k3 ha.1, by rw [ha.get k3 k1]; exact k4⟩⟩
theorem Li.ne {H0 : Heap} {q b : Nat} {kp : List (Nat × List AV)} {s : PS} {H : Heap} (h : Li l en r H0 q b kp s H) : (r = b) = False ∧ (b = r) = False ∧ (r = q) = False ∧ (q = r) = False ∧ (q = b) = False ∧ (b = q) = False := by
  have := h.rl; have := h.q0; have := h.b0; have := h.qb
  refine ⟨eq_false (by omega), eq_false (by omega), eq_false (by omega), eq_false (by omega), eq_false (by omega), eq_false (by omega)⟩
def IArg (l : List GTok) (en : Int) (r : Nat) (H0 : Heap) (q b : Nat) (kp : List (Nat × List AV)) (s : PS) (acc : List Opd) (H : Heap) : Prop :=
  Li l en r H0 q b kp s H ∧ acc.length ≤ s.at_ ∧ ∃ o, H.get b = some [.sl o (acc.map encOpd)] ∧ OwnB H o 50 3 H0.next
set_option maxRecDepth 20000 in
theorem oneArg_ok (hlen : l.length ≤ LM) (H0 : Heap) (q b : Nat) (kp : List (Nat × List AV)) : OneOk l en r H0 (oneArg l en) 139 [.ptr b 0, .ptr q 0] (IArg l en r H0 q b kp) := by
  refine ⟨fun s x H h => ⟨Nat.lt_of_lt_of_le h.1.rl h.1.ad.1, h.1.gr⟩, fun s x H s' H' h h1 h2 h3 h4 => ?_, oneArg_lt, fun s acc H hf hI => ?_, fun s x H h => h.1.ad, fun s x H h => h.1.le⟩
  · obtain ⟨hL, hb, o, g, ho⟩ := h
    exact ⟨hL.adv h3 h4 h2, by omega, o, by rw [h3.get hL.b1 (by have := hL.rl; have := hL.b0; omega)]; exact g, ho.adv h3 hL.rl⟩
  · obtain ⟨hL, hbd, o, gb, ho⟩ := hI
    refine LC_of (fn := Tryz.f139) rfl rfl rfl rfl rfl ?_
    have rs : Tryz.f139.results.toList = [] := rfl
    obtain ⟨n1, n2, n3, n4, n5, n6⟩ := hL.ne
    have hr := Nat.lt_of_lt_of_le hL.rl hL.ad.1
    have hg := hL.gr
    have gq := hL.gq
    have hb1 := hL.b1
    have hq1 := hL.q1
    have hlt := oneArg_lt (l := l) (en := en) s acc
    refine W_drawE [(0, 1), (0, 2)] [[4, 5], [2, 3, 4, 5], [3, 4, 5], [4, 5], [5], []] (by kernel_rfl) ?_
    simp only [go_sem, Nat.reduceBEq, Nat.reduceLeDiff, Nat.reduceEqDiff, Nat.reduceSub, Nat.reduceAdd, Int.reduceEq, Int.reduceLT, Int.reduceLE, Int.reduceAdd, gb, gq]
    refine eK_out rfl (c_operand (s := s) (l := l) (en := en) hlen hf (by simp only [go_sem, Nat.reduceBEq, Nat.reduceLeDiff, Nat.reduceEqDiff, Nat.reduceSub, Nat.reduceAdd, Int.reduceEq, Int.reduceLT, Int.reduceLE, Int.reduceAdd]; omega) (by simp only [go_sem, Nat.reduceBEq, Nat.reduceLeDiff, Nat.reduceEqDiff, Nat.reduceSub, Nat.reduceAdd, Int.reduceEq, Int.reduceLT, Int.reduceLE, Int.reduceAdd, hg])) ?_ ?_
    · intro hf1 H1 hg1 ha1
      have hl1 := ha1.1
      simp only [go_sem, Nat.reduceBEq, Nat.reduceLeDiff, Nat.reduceEqDiff, Nat.reduceSub, Nat.reduceAdd, Int.reduceEq, Int.reduceLT, Int.reduceLE, Int.reduceAdd] at hl1
      have gb1 : H1.get b = some [.sl o (acc.map encOpd)] := (ha1.get (by simp only [go_sem, Nat.reduceBEq, Nat.reduceLeDiff, Nat.reduceEqDiff, Nat.reduceSub, Nat.reduceAdd, Int.reduceEq, Int.reduceLT, Int.reduceLE, Int.reduceAdd]; omega) (by have := hL.rl; have := hL.b0; omega)).trans (by simp only [go_sem, Nat.reduceBEq, Nat.reduceLeDiff, Nat.reduceEqDiff, Nat.reduceSub, Nat.reduceAdd, Int.reduceEq, Int.reduceLT, Int.reduceLE, Int.reduceAdd, gb])
      have gq1 : H1.get q = some [.ptr r 0] := (ha1.get (by simp only [go_sem, Nat.reduceBEq, Nat.reduceLeDiff, Nat.reduceEqDiff, Nat.reduceSub, Nat.reduceAdd, Int.reduceEq, Int.reduceLT, Int.reduceLE, Int.reduceAdd]; omega) (by have := hL.rl; have := hL.q0; omega)).trans (by simp only [go_sem, Nat.reduceBEq, Nat.reduceLeDiff, Nat.reduceEqDiff, Nat.reduceSub, Nat.reduceAdd, Int.reduceEq, Int.reduceLT, Int.reduceLE, Int.reduceAdd, gq])
      have hk : Keeps (H.up 6) H1 b := ha1.keeps (by simp only [go_sem, Nat.reduceBEq, Nat.reduceLeDiff, Nat.reduceEqDiff, Nat.reduceSub, Nat.reduceAdd, Int.reduceEq, Int.reduceLT, Int.reduceLE, Int.reduceAdd]; omega) (by have := hL.rl; have := hL.b0; omega)
      have ho1 := (ho.up 6).adv ha1 hL.rl
      have hoA := ho1.appOk acc.length
      have hle := hL.le
      have hap := fun o x H id h => app_opd hlen (acc := acc) (by omega) o x H id h
      obtain ⟨_, q2, q3⟩ := hlt (ok_none hf1)
      simp only [go_sem, Nat.reduceBEq, Nat.reduceLeDiff, Nat.reduceEqDiff, Nat.reduceSub, Nat.reduceAdd, Int.reduceEq, Int.reduceLT, Int.reduceLE, Int.reduceAdd, gb1, hap, hoA, hk, hf1, rs]
      refine ⟨hf1, ⟨hL.rl, hL.q0, by simp only [go_sem, Nat.reduceBEq, Nat.reduceLeDiff, Nat.reduceEqDiff, Nat.reduceSub, Nat.reduceAdd, Int.reduceEq, Int.reduceLT, Int.reduceLE, Int.reduceAdd]; omega, hL.b0, by simp only [go_sem, Nat.reduceBEq, Nat.reduceLeDiff, Nat.reduceEqDiff, Nat.reduceSub, Nat.reduceAdd, Int.reduceEq, Int.reduceLT, Int.reduceLE, Int.reduceAdd]; omega, hL.qb, by simp only [go_sem, Nat.reduceBEq, Nat.reduceLeDiff, Nat.reduceEqDiff, Nat.reduceSub, Nat.reduceAdd, Int.reduceEq, Int.reduceLT, Int.reduceLE, Int.reduceAdd, n1, n2, hg1, oneArg], by simp only [go_sem, Nat.reduceBEq, Nat.reduceLeDiff, Nat.reduceEqDiff, Nat.reduceSub, Nat.reduceAdd, Int.reduceEq, Int.reduceLT, Int.reduceLE, Int.reduceAdd, n5, n6, gq1], ?_, q3, fun x hx => ?_⟩, by simp [oneArg] at q2 ⊢; omega, _, by simp only [go_sem, Nat.reduceBEq, Nat.reduceLeDiff, Nat.reduceEqDiff, Nat.reduceSub, Nat.reduceAdd, Int.reduceEq, Int.reduceLT, Int.reduceLE, Int.reduceAdd] <;> rfl, ((OwnB.app H1 o _ _ _ _ (by have := hL.ad.1; omega) (by omega)).put _ _)⟩
      · exact Adv.new (Adv.owns ((hL.ad.up 6).trans ha1) (by have := hL.ad.1; omega) ho1.lo) hL.b0 _
      · obtain ⟨k1, k2, k3, k4⟩ := hL.kk x hx
        refine ⟨k1, k2, by simp only [go_sem, Nat.reduceBEq, Nat.reduceLeDiff, Nat.reduceEqDiff, Nat.reduceSub, Nat.reduceAdd, Int.reduceEq, Int.reduceLT, Int.reduceLE, Int.reduceAdd]; omega, ?_⟩
        rw [Heap.get_put, if_neg (Ne.symm k2), ownUs_get, ha1.get (by simp only [go_sem, Nat.reduceBEq, Nat.reduceLeDiff, Nat.reduceEqDiff, Nat.reduceSub, Nat.reduceAdd, Int.reduceEq, Int.reduceLT, Int.reduceLE, Int.reduceAdd]; omega) k1]
        exact k4
    · intro q2 hq2 H1 had
      simp only [go_sem, Nat.reduceBEq, Nat.reduceLeDiff, Nat.reduceEqDiff, Nat.reduceSub, Nat.reduceAdd, Int.reduceEq, Int.reduceLT, Int.reduceLE, Int.reduceAdd, san_trouble]
      exact ⟨q2, hq2, rfl, (hL.ad.up 6).trans had⟩
def INam (l : List GTok) (en : Int) (r : Nat) (H0 : Heap) (q b : Nat) (kp : List (Nat × List AV)) (nm : List UInt8) (s : PS) (acc : List (List UInt8)) (H : Heap) : Prop :=
  Li l en r H0 q b kp s H ∧ acc.length ≤ s.at_ ∧ ∃ o, H.get b = some [.lit (.string (ba nm)), .sl o (acc.map encStr), .sl .nil []] ∧ OwnB H o 9 1 H0.next
set_option maxRecDepth 20000 in
theorem oneName_ok (hlen : l.length ≤ LM) (H0 : Heap) (q b : Nat) (kp : List (Nat × List AV)) (nm : List UInt8) : OneOk l en r H0 (oneName l en) 84 [.ptr b 0, .ptr q 0] (INam l en r H0 q b kp nm) := by
  refine ⟨fun s x H h => ⟨Nat.lt_of_lt_of_le h.1.rl h.1.ad.1, h.1.gr⟩, fun s x H s' H' h h1 h2 h3 h4 => ?_, oneName_lt, fun s acc H hf hI => ?_, fun s x H h => h.1.ad, fun s x H h => h.1.le⟩
  · obtain ⟨hL, hb, o, g, ho⟩ := h
    exact ⟨hL.adv h3 h4 h2, by omega, o, by rw [h3.get hL.b1 (by have := hL.rl; have := hL.b0; omega)]; exact g, ho.adv h3 hL.rl⟩
  · obtain ⟨hL, hbd, o, gb, ho⟩ := hI
    refine LC_of (fn := Tryz.f84) rfl rfl rfl rfl rfl ?_
    have rs : Tryz.f84.results.toList = [] := rfl
    obtain ⟨n1, n2, n3, n4, n5, n6⟩ := hL.ne
    have hr := Nat.lt_of_lt_of_le hL.rl hL.ad.1
    have hg := hL.gr
    have gq := hL.gq
    have hb1 := hL.b1
    have hq1 := hL.q1
    have hlt := oneName_lt (l := l) (en := en) s acc
    refine W_drawE [(1, 2), (1, 3)] [[1, 5, 6, 7], [5, 6, 7], [3, 4, 5, 6, 7], [4, 5, 6, 7], [5, 6, 7], [6, 7], [7], []] (by kernel_rfl) ?_
    simp only [go_sem, Nat.reduceBEq, Nat.reduceLeDiff, Nat.reduceEqDiff, Nat.reduceSub, Nat.reduceAdd, Int.reduceEq, Int.reduceLT, Int.reduceLE, Int.reduceAdd, gb, gq]
    refine eK_out rfl (c_name (s := s) (l := l) (en := en) hlen hf (by simp only [go_sem, Nat.reduceBEq, Nat.reduceLeDiff, Nat.reduceEqDiff, Nat.reduceSub, Nat.reduceAdd, Int.reduceEq, Int.reduceLT, Int.reduceLE, Int.reduceAdd]; omega) (by simp only [go_sem, Nat.reduceBEq, Nat.reduceLeDiff, Nat.reduceEqDiff, Nat.reduceSub, Nat.reduceAdd, Int.reduceEq, Int.reduceLT, Int.reduceLE, Int.reduceAdd, hg])) ?_ ?_
    · intro hf1 H1 hg1 ha1
      have hl1 := ha1.1
      simp only [go_sem, Nat.reduceBEq, Nat.reduceLeDiff, Nat.reduceEqDiff, Nat.reduceSub, Nat.reduceAdd, Int.reduceEq, Int.reduceLT, Int.reduceLE, Int.reduceAdd] at hl1
      have gb1 : H1.get b = some [.lit (.string (ba nm)), .sl o (acc.map encStr), .sl .nil []] := (ha1.get (by simp only [go_sem, Nat.reduceBEq, Nat.reduceLeDiff, Nat.reduceEqDiff, Nat.reduceSub, Nat.reduceAdd, Int.reduceEq, Int.reduceLT, Int.reduceLE, Int.reduceAdd]; omega) (by have := hL.rl; have := hL.b0; omega)).trans (by simp only [go_sem, Nat.reduceBEq, Nat.reduceLeDiff, Nat.reduceEqDiff, Nat.reduceSub, Nat.reduceAdd, Int.reduceEq, Int.reduceLT, Int.reduceLE, Int.reduceAdd, gb])
      have gq1 : H1.get q = some [.ptr r 0] := (ha1.get (by simp only [go_sem, Nat.reduceBEq, Nat.reduceLeDiff, Nat.reduceEqDiff, Nat.reduceSub, Nat.reduceAdd, Int.reduceEq, Int.reduceLT, Int.reduceLE, Int.reduceAdd]; omega) (by have := hL.rl; have := hL.q0; omega)).trans (by simp only [go_sem, Nat.reduceBEq, Nat.reduceLeDiff, Nat.reduceEqDiff, Nat.reduceSub, Nat.reduceAdd, Int.reduceEq, Int.reduceLT, Int.reduceLE, Int.reduceAdd, gq])
      have hk : Keeps (H.up 8) H1 b := ha1.keeps (by simp only [go_sem, Nat.reduceBEq, Nat.reduceLeDiff, Nat.reduceEqDiff, Nat.reduceSub, Nat.reduceAdd, Int.reduceEq, Int.reduceLT, Int.reduceLE, Int.reduceAdd]; omega) (by have := hL.rl; have := hL.b0; omega)
      have ho1 := (ho.up 8).adv ha1 hL.rl
      have hoA := ho1.appOk acc.length
      have hle := hL.le
      have hap := fun o x H id h => app_str hlen (acc := acc) (by omega) o x H id h
      obtain ⟨_, q2, q3⟩ := hlt (ok_none hf1)
      simp only [go_sem, Nat.reduceBEq, Nat.reduceLeDiff, Nat.reduceEqDiff, Nat.reduceSub, Nat.reduceAdd, Int.reduceEq, Int.reduceLT, Int.reduceLE, Int.reduceAdd, gb1, hap, hoA, hk, hf1, rs]
      refine ⟨hf1, ⟨hL.rl, hL.q0, by simp only [go_sem, Nat.reduceBEq, Nat.reduceLeDiff, Nat.reduceEqDiff, Nat.reduceSub, Nat.reduceAdd, Int.reduceEq, Int.reduceLT, Int.reduceLE, Int.reduceAdd]; omega, hL.b0, by simp only [go_sem, Nat.reduceBEq, Nat.reduceLeDiff, Nat.reduceEqDiff, Nat.reduceSub, Nat.reduceAdd, Int.reduceEq, Int.reduceLT, Int.reduceLE, Int.reduceAdd]; omega, hL.qb, by simp only [go_sem, Nat.reduceBEq, Nat.reduceLeDiff, Nat.reduceEqDiff, Nat.reduceSub, Nat.reduceAdd, Int.reduceEq, Int.reduceLT, Int.reduceLE, Int.reduceAdd, n1, n2, hg1, oneName], by simp only [go_sem, Nat.reduceBEq, Nat.reduceLeDiff, Nat.reduceEqDiff, Nat.reduceSub, Nat.reduceAdd, Int.reduceEq, Int.reduceLT, Int.reduceLE, Int.reduceAdd, n5, n6, gq1], ?_, q3, fun x hx => ?_⟩, by simp [oneName] at q2 ⊢; omega, _, by simp only [go_sem, Nat.reduceBEq, Nat.reduceLeDiff, Nat.reduceEqDiff, Nat.reduceSub, Nat.reduceAdd, Int.reduceEq, Int.reduceLT, Int.reduceLE, Int.reduceAdd] <;> rfl, ((OwnB.app H1 o _ _ _ _ (by have := hL.ad.1; omega) (by omega)).put _ _)⟩
      · exact Adv.new (Adv.owns ((hL.ad.up 8).trans ha1) (by have := hL.ad.1; omega) ho1.lo) hL.b0 _
      · obtain ⟨k1, k2, k3, k4⟩ := hL.kk x hx
        refine ⟨k1, k2, by simp only [go_sem, Nat.reduceBEq, Nat.reduceLeDiff, Nat.reduceEqDiff, Nat.reduceSub, Nat.reduceAdd, Int.reduceEq, Int.reduceLT, Int.reduceLE, Int.reduceAdd]; omega, ?_⟩
        rw [Heap.get_put, if_neg (Ne.symm k2), ownUs_get, ha1.get (by simp only [go_sem, Nat.reduceBEq, Nat.reduceLeDiff, Nat.reduceEqDiff, Nat.reduceSub, Nat.reduceAdd, Int.reduceEq, Int.reduceLT, Int.reduceLE, Int.reduceAdd]; omega) k1]
        exact k4
    · intro q2 hq2 H1 had
      simp only [go_sem, Nat.reduceBEq, Nat.reduceLeDiff, Nat.reduceEqDiff, Nat.reduceSub, Nat.reduceAdd, Int.reduceEq, Int.reduceLT, Int.reduceLE, Int.reduceAdd, san_trouble]
      exact ⟨q2, hq2, rfl, (hL.ad.up 8).trans had⟩
set_option maxRecDepth 20000 in
theorem c_args (hlen : l.length ≤ LM) (hf : s.f = none) (hr : r < H.next) (hg : H.get r = some (cP l en s)) :
    PCall Tryz.prog cfg r 128 [.ptr r 0] H (outP l en (args l en s).1 (.sl .sh ((args l en s).2.map encOpd))) := by
  refine PCall_of' (fn := Tryz.f128) rfl rfl rfl rfl rfl ?_
  have rs : Tryz.f128.results.toList = [.tmp 2] := rfl
  have hn := ne_new hr
  have hz := ne_new0 hr
  have hn' := ne_new' hr
  simp only [go_sem, Nat.reduceBEq, Nat.reduceLeDiff, Nat.reduceEqDiff, Nat.reduceSub, Nat.reduceAdd, Int.reduceEq, Int.reduceLT, Int.reduceLE, Int.reduceAdd]
  have rQ : (H.next = r) = False := eq_false (by omega)
  have qQ : (r = H.next) = False := eq_false (by omega)
  have pBQ : (H.next + 2 = H.next) = False := eq_false (by omega)
  have pQB : (H.next = H.next + 2) = False := eq_false (by omega)
  have rB : (H.next + 2 = r) = False := eq_false (by omega)
  have qB : (r = H.next + 2) = False := eq_false (by omega)
  simp only [go_sem, Nat.reduceBEq, Nat.reduceLeDiff, Nat.reduceEqDiff, Nat.reduceSub, Nat.reduceAdd, Int.reduceEq, Int.reduceLT, Int.reduceLE, Int.reduceAdd, hg, hn, hz, hn', Nat.add_zero, rQ, qQ, pQB, rB, qB, pBQ]
  refine goC_out (c_need (s := s) (l := l) (en := en) hlen hf (by first | omega | (simp only [go_sem, Nat.reduceBEq, Nat.reduceLeDiff, Nat.reduceEqDiff, Nat.reduceSub, Nat.reduceAdd, Int.reduceEq, Int.reduceLT, Int.reduceLE, Int.reduceAdd]; omega)) (by first | assumption | simp only [go_sem, Nat.reduceBEq, Nat.reduceLeDiff, Nat.reduceEqDiff, Nat.reduceSub, Nat.reduceAdd, Int.reduceEq, Int.reduceLT, Int.reduceLE, Int.reduceAdd, hg, hn, hz, hn', Nat.add_zero, rQ, qQ, pQB, rB, qB, pBQ]) [40] (by decide)) ?_ ?_
  case refine_2 =>
    intro q hq H1 had
    rw [outP_some (show (args l en s).1.f = some q by unfold args; rw [listP_bad _ _ (ok_some hq)]; exact hq)]
    simp only [go_sem, Nat.reduceBEq, Nat.reduceLeDiff, Nat.reduceEqDiff, Nat.reduceSub, Nat.reduceAdd, Int.reduceEq, Int.reduceLT, Int.reduceLE, Int.reduceAdd, san_trouble]
    (repeat first | exact Adv.refl _ _ | assumption | refine Adv.trans ?_ had | refine Adv.trans ?_ ha1 | refine Adv.trans ?_ ha2 | refine Adv.trans ?_ ha3 | refine Adv.trans ?_ ha4 | refine Adv.trans ?_ ha5 | refine Adv.trans ?_ ha6 | refine Adv.trans ?_ ha7 | refine Adv.trans ?_ ha8 | refine Adv.trans ?_ ha9 | refine Adv.trans ?_ ha10 | refine Adv.trans ?_ ha11 | refine Adv.trans ?_ ha12 | apply Adv.up | apply Adv.put | refine Adv.new ?_ (by omega) _ | refine Adv.live ?_ (by omega) _ | refine Adv.owns ?_ (by omega) (by first | exact OwnB.lo ‹_› | exact fun _ _ _ h => by cases h))
  intro hf1 H1 hg1 ha1
  have hl1 := ha1.1
  try simp only [go_sem, Nat.reduceBEq, Nat.reduceLeDiff, Nat.reduceEqDiff, Nat.reduceSub, Nat.reduceAdd, Int.reduceEq, Int.reduceLT, Int.reduceLE, Int.reduceAdd] at hl1
  have hr1 : r < H1.next := by omega
  have hn1 := ne_new hr1
  have hz1 := ne_new0 hr1
  have hx1 := ne_new' hr1
  have bQ1 : H1.get (H.next) = some ([.ptr r 0]) := (ha1.get (by first | omega | (simp only [go_sem, Nat.reduceBEq, Nat.reduceLeDiff, Nat.reduceEqDiff, Nat.reduceSub, Nat.reduceAdd, Int.reduceEq, Int.reduceLT, Int.reduceLE, Int.reduceAdd]; omega)) (by omega)).trans (by simp only [go_sem, Nat.reduceBEq, Nat.reduceLeDiff, Nat.reduceEqDiff, Nat.reduceSub, Nat.reduceAdd, Int.reduceEq, Int.reduceLT, Int.reduceLE, Int.reduceAdd, hg, hn, hz, hn', Nat.add_zero, rQ, qQ, pQB, rB, qB, pBQ])
  have cQ1 : ∀ j, (H1.next + j = H.next) = False := fun j => eq_false (by omega)
  have dQ1 : (H1.next = H.next) = False := eq_false (by omega)
  have eQ1 : ∀ j, (H.next = H1.next + j) = False := fun j => eq_false (by omega)
  have bB1 : H1.get (H.next + 2) = some ([.sl .nil []]) := (ha1.get (by first | omega | (simp only [go_sem, Nat.reduceBEq, Nat.reduceLeDiff, Nat.reduceEqDiff, Nat.reduceSub, Nat.reduceAdd, Int.reduceEq, Int.reduceLT, Int.reduceLE, Int.reduceAdd]; omega)) (by omega)).trans (by simp only [go_sem, Nat.reduceBEq, Nat.reduceLeDiff, Nat.reduceEqDiff, Nat.reduceSub, Nat.reduceAdd, Int.reduceEq, Int.reduceLT, Int.reduceLE, Int.reduceAdd, hg, hn, hz, hn', Nat.add_zero, rQ, qQ, pQB, rB, qB, pBQ])
  have cB1 : ∀ j, (H1.next + j = H.next + 2) = False := fun j => eq_false (by omega)
  have dB1 : (H1.next = H.next + 2) = False := eq_false (by omega)
  have eB1 : ∀ j, (H.next + 2 = H1.next + j) = False := fun j => eq_false (by omega)
  obtain ⟨_, hat1, hat2⟩ := need_lt (l := l) (en := en) s [40] (ok_none hf1)
  simp only [go_sem, Nat.reduceBEq, Nat.reduceLeDiff, Nat.reduceEqDiff, Nat.reduceSub, Nat.reduceAdd, Int.reduceEq, Int.reduceLT, Int.reduceLE, Int.reduceAdd, hg1, hn, hz, hn', Nat.add_zero, hn1, hz1, hx1, bQ1, cQ1, dQ1, eQ1, rQ, qQ, pQB, bB1, cB1, dB1, eB1, rB, qB, pBQ]
  refine goC_LC (c_list (s := need l en s [40]) (en := en) hlen (oneArg_ok (l := l) (en := en) (r := r) hlen H H.next (H.next + 2) []) [41] (by decide) [] hf1 ⟨⟨hr, by omega, by simp only [go_sem, Nat.reduceBEq, Nat.reduceLeDiff, Nat.reduceEqDiff, Nat.reduceSub, Nat.reduceAdd, Int.reduceEq, Int.reduceLT, Int.reduceLE, Int.reduceAdd]; omega, by omega, by simp only [go_sem, Nat.reduceBEq, Nat.reduceLeDiff, Nat.reduceEqDiff, Nat.reduceSub, Nat.reduceAdd, Int.reduceEq, Int.reduceLT, Int.reduceLE, Int.reduceAdd]; omega, by omega, by simp only [go_sem, Nat.reduceBEq, Nat.reduceLeDiff, Nat.reduceEqDiff, Nat.reduceSub, Nat.reduceAdd, Int.reduceEq, Int.reduceLT, Int.reduceLE, Int.reduceAdd, hg1], by simp only [go_sem, Nat.reduceBEq, Nat.reduceLeDiff, Nat.reduceEqDiff, Nat.reduceSub, Nat.reduceAdd, Int.reduceEq, Int.reduceLT, Int.reduceLE, Int.reduceAdd, bQ1], ?_, hat2, fun x hx => by cases hx⟩, by simp, .nil, by simp only [go_sem, Nat.reduceBEq, Nat.reduceLeDiff, Nat.reduceEqDiff, Nat.reduceSub, Nat.reduceAdd, Int.reduceEq, Int.reduceLT, Int.reduceLE, Int.reduceAdd, bB1, List.map_nil], OwnB.nil _ _ _ _⟩) ?_ ?_
  · (repeat first | exact Adv.refl _ _ | assumption | refine Adv.trans ?_ had | refine Adv.trans ?_ ha1 | refine Adv.trans ?_ ha2 | refine Adv.trans ?_ ha3 | refine Adv.trans ?_ ha4 | refine Adv.trans ?_ ha5 | refine Adv.trans ?_ ha6 | refine Adv.trans ?_ ha7 | refine Adv.trans ?_ ha8 | refine Adv.trans ?_ ha9 | refine Adv.trans ?_ ha10 | refine Adv.trans ?_ ha11 | refine Adv.trans ?_ ha12 | apply Adv.up | apply Adv.put | refine Adv.new ?_ (by omega) _ | refine Adv.live ?_ (by omega) _ | refine Adv.owns ?_ (by omega) (by first | exact OwnB.lo ‹_› | exact fun _ _ _ h => by cases h))
  · intro hfo H2 hI2
    obtain ⟨hL, _, o, g, _⟩ := hI2
    have hg2 := hL.gr
    have ha2 := hL.ad
    rw [outP_none (show (args l en s).1.f = none from hfo)]
    simp only [go_sem, Nat.reduceBEq, Nat.reduceLeDiff, Nat.reduceEqDiff, Nat.reduceSub, Nat.reduceAdd, Int.reduceEq, Int.reduceLT, Int.reduceLE, Int.reduceAdd, rs, g, sanLL_encOpd]
    exact ⟨rfl, hg2, by (repeat first | exact Adv.refl _ _ | assumption | refine Adv.trans ?_ had | refine Adv.trans ?_ ha1 | refine Adv.trans ?_ ha2 | refine Adv.trans ?_ ha3 | refine Adv.trans ?_ ha4 | refine Adv.trans ?_ ha5 | refine Adv.trans ?_ ha6 | refine Adv.trans ?_ ha7 | refine Adv.trans ?_ ha8 | refine Adv.trans ?_ ha9 | refine Adv.trans ?_ ha10 | refine Adv.trans ?_ ha11 | refine Adv.trans ?_ ha12 | apply Adv.up | apply Adv.put | refine Adv.new ?_ (by omega) _ | refine Adv.live ?_ (by omega) _ | refine Adv.owns ?_ (by omega) (by first | exact OwnB.lo ‹_› | exact fun _ _ _ h => by cases h))⟩
  · intro q hq H2 had
    rw [outP_some (show (args l en s).1.f = some q from hq)]
    simp only [go_sem, Nat.reduceBEq, Nat.reduceLeDiff, Nat.reduceEqDiff, Nat.reduceSub, Nat.reduceAdd, Int.reduceEq, Int.reduceLT, Int.reduceLE, Int.reduceAdd, san_trouble]
    exact had
end
end Go.Proofs.YtghhkbigmmjanaaGreatDoor.VA

/-! Pe6 -/
namespace Go.Proofs.YtghhkbigmmjanaaGreatDoor.VA
open Go Go.RowKit
attribute [local go_sem] Nat.add_eq_left Nat.left_eq_add true_and and_true ite_true if_false Int.cast_ofNat_Int eq_self Nat.add_assoc Option.some.injEq decide_true decide_false Bool.not_true Bool.not_false List.size_toArray List.length_cons List.length_nil
set_option linter.unusedSimpArgs false
set_option maxRecDepth 100000

section
variable {l : List GTok} {en : Int} {r : Nat} {s : PS} {H : Heap}
/-! ### a fault stays -/
theorem pfail_bad' (h : s.ok = false) (code : Nat) : pfail l en s code = s := by
  obtain ⟨a, c, f⟩ := s
  cases f with
  | none => cases h
  | some q => rfl
theorem isName_bad (h : s.ok = false) : isName l s = false := by
  cases h2 : isName l s with
  | false => rfl
  | true => obtain ⟨x, h3, _⟩ := isName_some h2; rw [(tk_some h3).2.1] at h; cases h
theorem isNum_bad (h : s.ok = false) : isNum l s = false := by
  cases h2 : isNum l s with
  | false => rfl
  | true => obtain ⟨x, h3, _⟩ := isNum_some h2; rw [(tk_some h3).2.1] at h; cases h
theorem nameP_bad (h : s.ok = false) : (nameP l en s).1 = s := by simp only [nameP, isName_bad h, pfail_bad' h]
theorem operand_bad (h : s.ok = false) : (operand l en s).1 = s := by simp only [operand, isT_bad h, isNum_bad h, nameP_bad h]
theorem args_bad (h : s.ok = false) : (args l en s).1 = s := by simp only [args, need_bad' h, listP_bad _ _ h]
theorem names_bad (h : s.ok = false) : (names l en s).1 = s := by simp only [names, need_bad' h, listP_bad _ _ h]
theorem propsP_bad (h : s.ok = false) : (propsP l en s).1 = s := by simp only [propsP, need_bad' h, listP_bad _ _ h]
theorem protoP_bad (h : s.ok = false) : (protoP l en s).1 = s := by simp only [protoP, need_bad' h, operand_bad h]
theorem object_bad (h : s.ok = false) : (object l en s).1 = s := by
  have h1 := propsP_bad (l := l) (en := en) h
  show (protoP l en (propsP l en s).1).1 = s
  rw [h1]; exact protoP_bad h
theorem signOf_bad (h : s.ok = false) : ∀ ts, signOf l s ts = none
  | [] => rfl
  | t :: ts => by simp only [signOf, isT_bad h, signOf_bad h ts]
theorem rest_bad (h : s.ok = false) (o : Opd) : (rest l en s o).1 = s := by simp only [rest, signOf_bad h, isT_bad h, Bool.and_false]
theorem value_bad (h : s.ok = false) : (value l en s).1 = s := by
  have h1 : (operand l en s).1 = s := operand_bad h
  simp only [value, isT_bad h, h1, rest_bad h]
theorem assign_bad (h : s.ok = false) : (assign l en s).1 = s := by
  have h1 : (nameP l en s).1 = s := nameP_bad h
  simp only [assign, h1, isT_bad h, need_bad' h, value_bad h]

/-! ### properties -/
theorem OwnB.owns {H : Heap} {o o' : Own} {id lo : Nat} {e : TypeId} {sz : Nat} (h : OwnB H o e sz lo) (hne : ∀ k e z, o' = .own k e z → ∀ k' e' z', o = .own k' e' z' → k ≠ k') (hid : ∀ k e z, o = .own k e z → k < id) :
    OwnB (appU H (ownUs o' id)) o e sz lo := by
  cases o with
  | own k e' z =>
    obtain ⟨h1, h2, h3, h4, h5⟩ := h
    have h6 := hid k e' z rfl
    refine ⟨h1, h2, ?_, h4, by rw [ownUs_next]; exact h5⟩
    cases o' with
    | own k2 e2 z2 =>
      have h7 := hne k2 e2 z2 rfl k e' z rfl
      simp only [ownUs, appU, U.app, Heap.isLive_setLive]
      rw [if_neg (by omega), if_neg h7]; exact h3
    | _ =>
      simp only [ownUs, appU, U.app, Heap.isLive_setLive]
      rw [if_neg (by omega)]; exact h3
  | nil => trivial
  | sh => exact h
  | ex => exact h
theorem OwnB.lt {H : Heap} {o : Own} {e : TypeId} {sz lo : Nat} (h : OwnB H o e sz lo) : ∀ s e z, o = .own s e z → s < H.next := by
  rintro s e' z rfl
  exact h.2.2.2.2
def cB (oA oP : Own) (ns : List (List UInt8)) (aa : List Opd) : List AV := [.lit (.int .i64 4), .lit (.string (ba [])), .lit (.string (ba [])), .lit (.string (ba [])), .sl oA (aa.map encOpd), .sl oP (ns.map encStr), .sl .nil [], .sl .nil []]
def IPrp (l : List GTok) (en : Int) (r : Nat) (H0 : Heap) (q b : Nat) (kp : List (Nat × List AV)) (s : PS) (acc : List (List UInt8) × List Opd) (H : Heap) : Prop :=
  Li l en r H0 q b kp s H ∧ acc.1.length ≤ s.at_ ∧ acc.2.length ≤ s.at_ ∧ ∃ oA oP, H.get b = some (cB oA oP acc.1 acc.2) ∧ OwnB H oA 50 3 H0.next ∧ OwnB H oP 9 1 H0.next ∧
    (∀ k e z, oP = .own k e z → ∀ k' e' z', oA = .own k' e' z' → k ≠ k')
set_option maxRecDepth 20000 in
theorem oneProp_ok (hlen : l.length ≤ LM) (H0 : Heap) (q b : Nat) (kp : List (Nat × List AV)) : OneOk l en r H0 (oneProp l en) 140 [.ptr b 0, .ptr q 0] (IPrp l en r H0 q b kp) := by
  refine ⟨fun s x H h => ⟨Nat.lt_of_lt_of_le h.1.rl h.1.ad.1, h.1.gr⟩, fun s x H s' H' h h1 h2 h3 h4 => ?_, oneProp_lt, fun s acc H hf hI => ?_, fun s x H h => h.1.ad, fun s x H h => h.1.le⟩
  · obtain ⟨hL, hb, hb', oA, oP, g, hA, hP, hne⟩ := h
    exact ⟨hL.adv h3 h4 h2, by omega, by omega, oA, oP, by rw [h3.get hL.b1 (by have := hL.rl; have := hL.b0; omega)]; exact g, hA.adv h3 hL.rl, hP.adv h3 hL.rl, hne⟩
  · obtain ⟨ns, aa⟩ := acc
    obtain ⟨hL, hbd, hbd', oA, oP, gb, hA, hP, hne⟩ := hI
    simp only at hbd hbd' gb
    simp only [cB] at gb
    refine LC_of (fn := Tryz.f140) rfl rfl rfl rfl rfl ?_
    have rs : Tryz.f140.results.toList = [] := rfl
    obtain ⟨n1, n2, n3, n4, n5, n6⟩ := hL.ne
    have hr := Nat.lt_of_lt_of_le hL.rl hL.ad.1
    have hg := hL.gr
    have gq := hL.gq
    have hb1 := hL.b1
    have hq1 := hL.q1
    have hb0 := hL.b0
    have hq0 := hL.q0
    have hrl := hL.rl
    have hle := hL.le
    have had := hL.ad.1
    have hlt := oneProp_lt (l := l) (en := en) s (ns, aa)
    simp only [go_sem, Nat.reduceBEq, Nat.reduceLeDiff, Nat.reduceEqDiff, Nat.reduceSub, Nat.reduceAdd, Int.reduceEq, Int.reduceLT, Int.reduceLE, Int.reduceAdd]
    refine W_drawE [(1, 2), (1, 3)] [[1, 5, 6, 7], [5, 6, 7], [3, 4, 5, 6, 7], [4, 5, 6, 7], [5, 6, 7], [6, 7], [7], []] (by kernel_rfl) ?_
    simp only [go_sem, Nat.reduceBEq, Nat.reduceLeDiff, Nat.reduceEqDiff, Nat.reduceSub, Nat.reduceAdd, Int.reduceEq, Int.reduceLT, Int.reduceLE, Int.reduceAdd, gb, gq]
    refine eK_out rfl (c_name (s := s) (l := l) (en := en) hlen hf (by simp only [go_sem, Nat.reduceBEq, Nat.reduceLeDiff, Nat.reduceEqDiff, Nat.reduceSub, Nat.reduceAdd, Int.reduceEq, Int.reduceLT, Int.reduceLE, Int.reduceAdd]; omega) (by simp only [go_sem, Nat.reduceBEq, Nat.reduceLeDiff, Nat.reduceEqDiff, Nat.reduceSub, Nat.reduceAdd, Int.reduceEq, Int.reduceLT, Int.reduceLE, Int.reduceAdd, hg])) ?_ ?_
    case refine_2 =>
      intro q2 hq2 H1 had
      have hbad : (oneProp l en s (ns, aa)).1.f = some q2 := by
        show (operand l en (need l en (nameP l en s).1 [58])).1.f = some q2
        rw [need_bad' (ok_some hq2), operand_bad (ok_some hq2)]; exact hq2
      simp only [go_sem, Nat.reduceBEq, Nat.reduceLeDiff, Nat.reduceEqDiff, Nat.reduceSub, Nat.reduceAdd, Int.reduceEq, Int.reduceLT, Int.reduceLE, Int.reduceAdd, san_trouble]
      exact ⟨q2, hbad, rfl, (hL.ad.up 8).trans had⟩
    intro hf1 H1 hg1 ha1
    have hl1 := ha1.1
    simp only [go_sem, Nat.reduceBEq, Nat.reduceLeDiff, Nat.reduceEqDiff, Nat.reduceSub, Nat.reduceAdd, Int.reduceEq, Int.reduceLT, Int.reduceLE, Int.reduceAdd] at hl1
    have gb1 : H1.get b = some [.lit (.int .i64 4), .lit (.string (ba [])), .lit (.string (ba [])), .lit (.string (ba [])), .sl oA (aa.map encOpd), .sl oP (ns.map encStr), .sl .nil [], .sl .nil []] := (ha1.get (by simp only [go_sem, Nat.reduceBEq, Nat.reduceLeDiff, Nat.reduceEqDiff, Nat.reduceSub, Nat.reduceAdd, Int.reduceEq, Int.reduceLT, Int.reduceLE, Int.reduceAdd]; omega) (by omega)).trans (by simp only [go_sem, Nat.reduceBEq, Nat.reduceLeDiff, Nat.reduceEqDiff, Nat.reduceSub, Nat.reduceAdd, Int.reduceEq, Int.reduceLT, Int.reduceLE, Int.reduceAdd, gb])
    have gq1 : H1.get q = some [.ptr r 0] := (ha1.get (by simp only [go_sem, Nat.reduceBEq, Nat.reduceLeDiff, Nat.reduceEqDiff, Nat.reduceSub, Nat.reduceAdd, Int.reduceEq, Int.reduceLT, Int.reduceLE, Int.reduceAdd]; omega) (by omega)).trans (by simp only [go_sem, Nat.reduceBEq, Nat.reduceLeDiff, Nat.reduceEqDiff, Nat.reduceSub, Nat.reduceAdd, Int.reduceEq, Int.reduceLT, Int.reduceLE, Int.reduceAdd, gq])
    have hk : Keeps (H.up 8) H1 b := ha1.keeps (by simp only [go_sem, Nat.reduceBEq, Nat.reduceLeDiff, Nat.reduceEqDiff, Nat.reduceSub, Nat.reduceAdd, Int.reduceEq, Int.reduceLT, Int.reduceLE, Int.reduceAdd]; omega) (by omega)
    have hP1 := (hP.up 8).adv ha1 hL.rl
    have hA1 := (hA.up 8).adv ha1 hL.rl
    have hoP := hP1.appOk ns.length
    have hap := fun o x H id h => app_str hlen (acc := ns) (by omega) o x H id h
    have hf1' : (nameP l en s).1.ok = true := ok_none hf1
    simp only [go_sem, Nat.reduceBEq, Nat.reduceLeDiff, Nat.reduceEqDiff, Nat.reduceSub, Nat.reduceAdd, Int.reduceEq, Int.reduceLT, Int.reduceLE, Int.reduceAdd, gb1, gq1, n1, n2, n3, n4, n5, n6, hap, hoP, hk, rs]
    have ha1' := Adv.new (Adv.owns (o := oP) (b := H.next + 5) ((hL.ad.up 8).trans ha1) (by omega) hP1.lo) hL.b0 [.lit (.int .i64 4), .lit (.string (ba [])), .lit (.string (ba [])), .lit (.string (ba [])), .sl oA (aa.map encOpd), .sl (.own (H.next + 5) 9 1) ((ns ++ [(nameP l en s).2]).map encStr), .sl .nil [], .sl .nil []]
    have hA2 := (hA1.owns (o' := oP) (id := H.next + 5) hne (fun k e z h => by have := hA.lt k e z h; omega)).put b [.lit (.int .i64 4), .lit (.string (ba [])), .lit (.string (ba [])), .lit (.string (ba [])), .sl oA (aa.map encOpd), .sl (.own (H.next + 5) 9 1) ((ns ++ [(nameP l en s).2]).map encStr), .sl .nil [], .sl .nil []]
    have hP2 := (OwnB.app H1 oP (H.next + 5) 9 1 H0.next (by omega) (by omega)).put b [.lit (.int .i64 4), .lit (.string (ba [])), .lit (.string (ba [])), .lit (.string (ba [])), .sl oA (aa.map encOpd), .sl (.own (H.next + 5) 9 1) ((ns ++ [(nameP l en s).2]).map encStr), .sl .nil [], .sl .nil []]
    have kk2 : ∀ x ∈ kp, x.1 ≠ r ∧ x.1 ≠ b ∧ x.1 < H1.next ∧ H1.get x.1 = some x.2 := fun x hx => by
      obtain ⟨k1, k2, k3, k4⟩ := hL.kk x hx
      exact ⟨k1, k2, by omega, by rw [ha1.get (by simp only [go_sem, Nat.reduceBEq, Nat.reduceLeDiff, Nat.reduceEqDiff, Nat.reduceSub, Nat.reduceAdd, Int.reduceEq, Int.reduceLT, Int.reduceLE, Int.reduceAdd]; omega) k1]; exact k4⟩
    refine goC_out (c_need (s := (nameP l en s).1) (l := l) (en := en) hlen hf1 (by simp only [go_sem, Nat.reduceBEq, Nat.reduceLeDiff, Nat.reduceEqDiff, Nat.reduceSub, Nat.reduceAdd, Int.reduceEq, Int.reduceLT, Int.reduceLE, Int.reduceAdd]; omega) (by simp only [go_sem, Nat.reduceBEq, Nat.reduceLeDiff, Nat.reduceEqDiff, Nat.reduceSub, Nat.reduceAdd, Int.reduceEq, Int.reduceLT, Int.reduceLE, Int.reduceAdd, n1, n2, hg1]) [58] (by decide)) ?_ ?_
    case refine_2 =>
      intro q2 hq2 H2 had
      have hbad : (oneProp l en s (ns, aa)).1.f = some q2 := by
        show (operand l en (need l en (nameP l en s).1 [58])).1.f = some q2
        rw [operand_bad (ok_some hq2)]; exact hq2
      simp only [go_sem, Nat.reduceBEq, Nat.reduceLeDiff, Nat.reduceEqDiff, Nat.reduceSub, Nat.reduceAdd, Int.reduceEq, Int.reduceLT, Int.reduceLE, Int.reduceAdd, san_trouble]
      exact ⟨q2, hbad, rfl, (ha1'.up 2).trans had⟩
    intro hf2 H2 hg2 ha2
    have hl2 := ha2.1
    simp only [go_sem, Nat.reduceBEq, Nat.reduceLeDiff, Nat.reduceEqDiff, Nat.reduceSub, Nat.reduceAdd, Int.reduceEq, Int.reduceLT, Int.reduceLE, Int.reduceAdd] at hl2
    have gb2 : H2.get b = some [.lit (.int .i64 4), .lit (.string (ba [])), .lit (.string (ba [])), .lit (.string (ba [])), .sl oA (aa.map encOpd), .sl (.own (H.next + 5) 9 1) ((ns ++ [(nameP l en s).2]).map encStr), .sl .nil [], .sl .nil []] :=
      (ha2.get (by simp only [go_sem, Nat.reduceBEq, Nat.reduceLeDiff, Nat.reduceEqDiff, Nat.reduceSub, Nat.reduceAdd, Int.reduceEq, Int.reduceLT, Int.reduceLE, Int.reduceAdd]; omega) (by omega)).trans (by simp only [go_sem, Nat.reduceBEq, Nat.reduceLeDiff, Nat.reduceEqDiff, Nat.reduceSub, Nat.reduceAdd, Int.reduceEq, Int.reduceLT, Int.reduceLE, Int.reduceAdd])
    have gq2 : H2.get q = some [.ptr r 0] := (ha2.get (by simp only [go_sem, Nat.reduceBEq, Nat.reduceLeDiff, Nat.reduceEqDiff, Nat.reduceSub, Nat.reduceAdd, Int.reduceEq, Int.reduceLT, Int.reduceLE, Int.reduceAdd]; omega) (by omega)).trans (by simp only [go_sem, Nat.reduceBEq, Nat.reduceLeDiff, Nat.reduceEqDiff, Nat.reduceSub, Nat.reduceAdd, Int.reduceEq, Int.reduceLT, Int.reduceLE, Int.reduceAdd, n5, n6, gq1])
    have hA3 := (hA2.up 2).adv ha2 hL.rl
    have hP3 := (hP2.up 2).adv ha2 hL.rl
    simp only [go_sem, Nat.reduceBEq, Nat.reduceLeDiff, Nat.reduceEqDiff, Nat.reduceSub, Nat.reduceAdd, Int.reduceEq, Int.reduceLT, Int.reduceLE, Int.reduceAdd, rs]
    refine W_drawE [(1, 2), (1, 3)] [[1, 5, 6, 7], [5, 6, 7], [3, 4, 5, 6, 7], [4, 5, 6, 7], [5, 6, 7], [6, 7], [7], []] (by kernel_rfl) ?_
    simp only [go_sem, Nat.reduceBEq, Nat.reduceLeDiff, Nat.reduceEqDiff, Nat.reduceSub, Nat.reduceAdd, Int.reduceEq, Int.reduceLT, Int.reduceLE, Int.reduceAdd, gb2, gq2]
    refine eK_out rfl (c_operand (s := need l en (nameP l en s).1 [58]) (l := l) (en := en) hlen hf2 (by simp only [go_sem, Nat.reduceBEq, Nat.reduceLeDiff, Nat.reduceEqDiff, Nat.reduceSub, Nat.reduceAdd, Int.reduceEq, Int.reduceLT, Int.reduceLE, Int.reduceAdd]; omega) (by simp only [go_sem, Nat.reduceBEq, Nat.reduceLeDiff, Nat.reduceEqDiff, Nat.reduceSub, Nat.reduceAdd, Int.reduceEq, Int.reduceLT, Int.reduceLE, Int.reduceAdd, hg2])) ?_ ?_
    case refine_2 =>
      intro q2 hq2 H3 had
      simp only [go_sem, Nat.reduceBEq, Nat.reduceLeDiff, Nat.reduceEqDiff, Nat.reduceSub, Nat.reduceAdd, Int.reduceEq, Int.reduceLT, Int.reduceLE, Int.reduceAdd, san_trouble]
      exact ⟨q2, hq2, rfl, (((ha1'.up 2).trans ha2).up 8).trans had⟩
    intro hf3 H3 hg3 ha3
    have hl3 := ha3.1
    simp only [go_sem, Nat.reduceBEq, Nat.reduceLeDiff, Nat.reduceEqDiff, Nat.reduceSub, Nat.reduceAdd, Int.reduceEq, Int.reduceLT, Int.reduceLE, Int.reduceAdd] at hl3
    have gb3 : H3.get b = some [.lit (.int .i64 4), .lit (.string (ba [])), .lit (.string (ba [])), .lit (.string (ba [])), .sl oA (aa.map encOpd), .sl (.own (H.next + 5) 9 1) ((ns ++ [(nameP l en s).2]).map encStr), .sl .nil [], .sl .nil []] :=
      (ha3.get (by simp only [go_sem, Nat.reduceBEq, Nat.reduceLeDiff, Nat.reduceEqDiff, Nat.reduceSub, Nat.reduceAdd, Int.reduceEq, Int.reduceLT, Int.reduceLE, Int.reduceAdd]; omega) (by omega)).trans (by simp only [go_sem, Nat.reduceBEq, Nat.reduceLeDiff, Nat.reduceEqDiff, Nat.reduceSub, Nat.reduceAdd, Int.reduceEq, Int.reduceLT, Int.reduceLE, Int.reduceAdd, gb2])
    have gq3 : H3.get q = some [.ptr r 0] := (ha3.get (by simp only [go_sem, Nat.reduceBEq, Nat.reduceLeDiff, Nat.reduceEqDiff, Nat.reduceSub, Nat.reduceAdd, Int.reduceEq, Int.reduceLT, Int.reduceLE, Int.reduceAdd]; omega) (by omega)).trans (by simp only [go_sem, Nat.reduceBEq, Nat.reduceLeDiff, Nat.reduceEqDiff, Nat.reduceSub, Nat.reduceAdd, Int.reduceEq, Int.reduceLT, Int.reduceLE, Int.reduceAdd, gq2])
    have hk3 : Keeps (H2.up 8) H3 b := ha3.keeps (by simp only [go_sem, Nat.reduceBEq, Nat.reduceLeDiff, Nat.reduceEqDiff, Nat.reduceSub, Nat.reduceAdd, Int.reduceEq, Int.reduceLT, Int.reduceLE, Int.reduceAdd]; omega) (by omega)
    have hA4 := (hA3.up 8).adv ha3 hL.rl
    have hP4 := (hP3.up 8).adv ha3 hL.rl
    have hoA := hA4.appOk aa.length
    have hapA := fun o x H id h => app_opd hlen (acc := aa) (by omega) o x H id h
    obtain ⟨_, q2, q3⟩ := hlt (ok_none hf3)
    have e1 : (oneProp l en s (ns, aa)).2.1 = ns ++ [(nameP l en s).2] := rfl
    have e2 : (oneProp l en s (ns, aa)).2.2 = aa ++ [(operand l en (need l en (nameP l en s).1 [58])).2] := rfl
    have e3 : (oneProp l en s (ns, aa)).1 = (operand l en (need l en (nameP l en s).1 [58])).1 := rfl
    simp only [go_sem, Nat.reduceBEq, Nat.reduceLeDiff, Nat.reduceEqDiff, Nat.reduceSub, Nat.reduceAdd, Int.reduceEq, Int.reduceLT, Int.reduceLE, Int.reduceAdd, gb3, hapA, hoA, hk3, rs]
    refine ⟨hf3, ⟨hL.rl, hL.q0, by simp only [go_sem, Nat.reduceBEq, Nat.reduceLeDiff, Nat.reduceEqDiff, Nat.reduceSub, Nat.reduceAdd, Int.reduceEq, Int.reduceLT, Int.reduceLE, Int.reduceAdd]; omega, hL.b0, by simp only [go_sem, Nat.reduceBEq, Nat.reduceLeDiff, Nat.reduceEqDiff, Nat.reduceSub, Nat.reduceAdd, Int.reduceEq, Int.reduceLT, Int.reduceLE, Int.reduceAdd]; omega, hL.qb, by simp only [go_sem, Nat.reduceBEq, Nat.reduceLeDiff, Nat.reduceEqDiff, Nat.reduceSub, Nat.reduceAdd, Int.reduceEq, Int.reduceLT, Int.reduceLE, Int.reduceAdd, n1, n2, hg3, e3], by simp only [go_sem, Nat.reduceBEq, Nat.reduceLeDiff, Nat.reduceEqDiff, Nat.reduceSub, Nat.reduceAdd, Int.reduceEq, Int.reduceLT, Int.reduceLE, Int.reduceAdd, n5, n6, gq3], ?_, q3, fun x hx => ?_⟩, by rw [e1]; simp only [List.length_append, List.length_cons, List.length_nil]; omega,
      by rw [e2]; simp only [List.length_append, List.length_cons, List.length_nil]; omega, _, _, by simp only [go_sem, Nat.reduceBEq, Nat.reduceLeDiff, Nat.reduceEqDiff, Nat.reduceSub, Nat.reduceAdd, Int.reduceEq, Int.reduceLT, Int.reduceLE, Int.reduceAdd, cB, e1, e2] <;> rfl, (OwnB.app H3 oA _ _ _ _ (by omega) (by omega)).put _ _,
      (hP4.owns (o' := oA) (fun k e z hk k' e' z' hk' => by have := hA.lt k e z hk; cases hk'; omega) (fun k e z hk => by cases hk; omega)).put _ _, fun k e z hk k' e' z' hk' => by cases hk; cases hk'; omega⟩
    · exact Adv.new (Adv.owns (((((ha1'.up 2).trans ha2).up 8).trans ha3)) (by omega) hA4.lo) hL.b0 _
    · obtain ⟨k1, k2, k3, k4⟩ := kk2 x hx
      refine ⟨k1, k2, by simp only [go_sem, Nat.reduceBEq, Nat.reduceLeDiff, Nat.reduceEqDiff, Nat.reduceSub, Nat.reduceAdd, Int.reduceEq, Int.reduceLT, Int.reduceLE, Int.reduceAdd]; omega, ?_⟩
      rw [Heap.get_put, if_neg (Ne.symm k2), ownUs_get, ha3.get (by simp only [go_sem, Nat.reduceBEq, Nat.reduceLeDiff, Nat.reduceEqDiff, Nat.reduceSub, Nat.reduceAdd, Int.reduceEq, Int.reduceLT, Int.reduceLE, Int.reduceAdd]; omega) k1, up_get, ha2.get (by simp only [go_sem, Nat.reduceBEq, Nat.reduceLeDiff, Nat.reduceEqDiff, Nat.reduceSub, Nat.reduceAdd, Int.reduceEq, Int.reduceLT, Int.reduceLE, Int.reduceAdd]; omega) k1, up_get, Heap.get_put, if_neg (Ne.symm k2), ownUs_get]
      exact k4
end
end Go.Proofs.YtghhkbigmmjanaaGreatDoor.VA

/-! Pe7 -/
namespace Go.Proofs.YtghhkbigmmjanaaGreatDoor.VA
open Go Go.RowKit
attribute [local go_sem] Nat.add_eq_left Nat.left_eq_add true_and and_true ite_true if_false Int.cast_ofNat_Int eq_self Nat.add_assoc Option.some.injEq decide_true decide_false Bool.not_true Bool.not_false List.size_toArray List.length_cons List.length_nil
set_option linter.unusedSimpArgs false
set_option maxRecDepth 100000

section
variable {l : List GTok} {en : Int} {r : Nat} {s : PS} {H : Heap}
set_option maxRecDepth 20000 in
theorem c_object (hlen : l.length ≤ LM) (hf : s.f = none) (hr : r < H.next) (hg : H.get r = some (cP l en s)) :
    PCall Tryz.prog cfg r 129 [.ptr r 0] H (outP l en (object l en s).1 (.agg (encStmt (object l en s).2))) := by
  refine PCall_of' (fn := Tryz.f129) rfl rfl rfl rfl rfl ?_
  have rs : Tryz.f129.results.toList = [.cell 2 40] := rfl
  have hn := ne_new hr
  have hz := ne_new0 hr
  have hn' := ne_new' hr
  have rQ : (H.next = r) = False := eq_false (by omega)
  have qQ : (r = H.next) = False := eq_false (by omega)
  have pRQ : (H.next + 1 = H.next) = False := eq_false (by omega)
  have pQR : (H.next = H.next + 1) = False := eq_false (by omega)
  have rR : (H.next + 1 = r) = False := eq_false (by omega)
  have qR : (r = H.next + 1) = False := eq_false (by omega)
  have pBQ : (H.next + 3 = H.next) = False := eq_false (by omega)
  have pQB : (H.next = H.next + 3) = False := eq_false (by omega)
  have pBR : (H.next + 3 = H.next + 1) = False := eq_false (by omega)
  have pRB : (H.next + 1 = H.next + 3) = False := eq_false (by omega)
  have rB : (H.next + 3 = r) = False := eq_false (by omega)
  have qB : (r = H.next + 3) = False := eq_false (by omega)
  simp only [go_sem, Nat.reduceBEq, Nat.reduceLeDiff, Nat.reduceEqDiff, Nat.reduceSub, Nat.reduceAdd, Int.reduceEq, Int.reduceLT, Int.reduceLE, Int.reduceAdd, hg, hn, hz, hn', Nat.add_zero, rQ, qQ, pQR, pQB, rR, qR, pRQ, pRB, rB, qB, pBQ, pBR]
  refine goC_out (c_need (s := s) (l := l) (en := en) hlen hf (by first | omega | (simp only [go_sem, Nat.reduceBEq, Nat.reduceLeDiff, Nat.reduceEqDiff, Nat.reduceSub, Nat.reduceAdd, Int.reduceEq, Int.reduceLT, Int.reduceLE, Int.reduceAdd]; omega)) (by first | assumption | simp only [go_sem, Nat.reduceBEq, Nat.reduceLeDiff, Nat.reduceEqDiff, Nat.reduceSub, Nat.reduceAdd, Int.reduceEq, Int.reduceLT, Int.reduceLE, Int.reduceAdd, hg, hn, hz, hn', Nat.add_zero, rQ, qQ, pQR, pQB, rR, qR, pRQ, pRB, rB, qB, pBQ, pBR]) [123] (by decide)) ?_ ?_
  case refine_2 =>
    intro q hq H1 had
    have hb : (object l en s).1.f = some q := by
      show (protoP l en (propsP l en s).1).1.f = some q
      rw [show (propsP l en s).1 = need l en s [123] by simp only [propsP, listP_bad _ _ (ok_some hq)], protoP_bad (ok_some hq)]
      exact hq
    rw [outP_some hb]
    simp only [go_sem, Nat.reduceBEq, Nat.reduceLeDiff, Nat.reduceEqDiff, Nat.reduceSub, Nat.reduceAdd, Int.reduceEq, Int.reduceLT, Int.reduceLE, Int.reduceAdd, san_trouble]
    (repeat first | exact Adv.refl _ _ | assumption | refine Adv.trans ?_ had | refine Adv.trans ?_ ha1 | refine Adv.trans ?_ ha2 | refine Adv.trans ?_ ha3 | refine Adv.trans ?_ ha4 | refine Adv.trans ?_ ha5 | refine Adv.trans ?_ ha6 | refine Adv.trans ?_ ha7 | refine Adv.trans ?_ ha8 | refine Adv.trans ?_ ha9 | refine Adv.trans ?_ ha10 | refine Adv.trans ?_ ha11 | refine Adv.trans ?_ ha12 | apply Adv.up | apply Adv.put | refine Adv.new ?_ (by omega) _ | refine Adv.live ?_ (by omega) _ | refine Adv.owns ?_ (by omega) (by first | exact OwnB.lo ‹_› | exact fun _ _ _ h => by cases h))
  intro hf1 H1 hg1 ha1
  have hl1 := ha1.1
  try simp only [go_sem, Nat.reduceBEq, Nat.reduceLeDiff, Nat.reduceEqDiff, Nat.reduceSub, Nat.reduceAdd, Int.reduceEq, Int.reduceLT, Int.reduceLE, Int.reduceAdd] at hl1
  have hr1 : r < H1.next := by omega
  have hn1 := ne_new hr1
  have hz1 := ne_new0 hr1
  have hx1 := ne_new' hr1
  have bQ1 : H1.get (H.next) = some ([.ptr r 0]) := (ha1.get (by first | omega | (simp only [go_sem, Nat.reduceBEq, Nat.reduceLeDiff, Nat.reduceEqDiff, Nat.reduceSub, Nat.reduceAdd, Int.reduceEq, Int.reduceLT, Int.reduceLE, Int.reduceAdd]; omega)) (by omega)).trans (by simp only [go_sem, Nat.reduceBEq, Nat.reduceLeDiff, Nat.reduceEqDiff, Nat.reduceSub, Nat.reduceAdd, Int.reduceEq, Int.reduceLT, Int.reduceLE, Int.reduceAdd, hg, hn, hz, hn', Nat.add_zero, rQ, qQ, pQR, pQB, rR, qR, pRQ, pRB, rB, qB, pBQ, pBR])
  have cQ1 : ∀ j, (H1.next + j = H.next) = False := fun j => eq_false (by omega)
  have dQ1 : (H1.next = H.next) = False := eq_false (by omega)
  have eQ1 : ∀ j, (H.next = H1.next + j) = False := fun j => eq_false (by omega)
  have bR1 : H1.get (H.next + 1) = some ([.lit (.int .i64 0), .lit (.string (ba [])), .lit (.string (ba [])), .lit (.string (ba [])), .sl .nil [], .sl .nil [], .sl .nil [], .sl .nil []]) := (ha1.get (by first | omega | (simp only [go_sem, Nat.reduceBEq, Nat.reduceLeDiff, Nat.reduceEqDiff, Nat.reduceSub, Nat.reduceAdd, Int.reduceEq, Int.reduceLT, Int.reduceLE, Int.reduceAdd]; omega)) (by omega)).trans (by simp only [go_sem, Nat.reduceBEq, Nat.reduceLeDiff, Nat.reduceEqDiff, Nat.reduceSub, Nat.reduceAdd, Int.reduceEq, Int.reduceLT, Int.reduceLE, Int.reduceAdd, hg, hn, hz, hn', Nat.add_zero, rQ, qQ, pQR, pQB, rR, qR, pRQ, pRB, rB, qB, pBQ, pBR])
  have cR1 : ∀ j, (H1.next + j = H.next + 1) = False := fun j => eq_false (by omega)
  have dR1 : (H1.next = H.next + 1) = False := eq_false (by omega)
  have eR1 : ∀ j, (H.next + 1 = H1.next + j) = False := fun j => eq_false (by omega)
  have bB1 : H1.get (H.next + 3) = some ([.lit (.int .i64 4), .lit (.string (ba [])), .lit (.string (ba [])), .lit (.string (ba [])), .sl .nil [], .sl .nil [], .sl .nil [], .sl .nil []]) := (ha1.get (by first | omega | (simp only [go_sem, Nat.reduceBEq, Nat.reduceLeDiff, Nat.reduceEqDiff, Nat.reduceSub, Nat.reduceAdd, Int.reduceEq, Int.reduceLT, Int.reduceLE, Int.reduceAdd]; omega)) (by omega)).trans (by simp only [go_sem, Nat.reduceBEq, Nat.reduceLeDiff, Nat.reduceEqDiff, Nat.reduceSub, Nat.reduceAdd, Int.reduceEq, Int.reduceLT, Int.reduceLE, Int.reduceAdd, hg, hn, hz, hn', Nat.add_zero, rQ, qQ, pQR, pQB, rR, qR, pRQ, pRB, rB, qB, pBQ, pBR])
  have cB1 : ∀ j, (H1.next + j = H.next + 3) = False := fun j => eq_false (by omega)
  have dB1 : (H1.next = H.next + 3) = False := eq_false (by omega)
  have eB1 : ∀ j, (H.next + 3 = H1.next + j) = False := fun j => eq_false (by omega)
  obtain ⟨_, hat1, hat2⟩ := need_lt (l := l) (en := en) s [123] (ok_none hf1)
  simp only [go_sem, Nat.reduceBEq, Nat.reduceLeDiff, Nat.reduceEqDiff, Nat.reduceSub, Nat.reduceAdd, Int.reduceEq, Int.reduceLT, Int.reduceLE, Int.reduceAdd, hg1, hn, hz, hn', Nat.add_zero, hn1, hz1, hx1, bQ1, cQ1, dQ1, eQ1, rQ, qQ, pQR, pQB, bR1, cR1, dR1, eR1, rR, qR, pRQ, pRB, bB1, cB1, dB1, eB1, rB, qB, pBQ, pBR]
  refine goC_LC (c_list (s := need l en s [123]) (en := en) hlen (oneProp_ok (l := l) (en := en) (r := r) hlen H H.next (H.next + 3) [(H.next + 1, [.lit (.int .i64 0), .lit (.string (ba [])), .lit (.string (ba [])), .lit (.string (ba [])), .sl .nil [], .sl .nil [], .sl .nil [], .sl .nil []])]) [125] (by decide) ([], []) hf1 ⟨⟨hr, by omega, by simp only [go_sem, Nat.reduceBEq, Nat.reduceLeDiff, Nat.reduceEqDiff, Nat.reduceSub, Nat.reduceAdd, Int.reduceEq, Int.reduceLT, Int.reduceLE, Int.reduceAdd]; omega, by omega, by simp only [go_sem, Nat.reduceBEq, Nat.reduceLeDiff, Nat.reduceEqDiff, Nat.reduceSub, Nat.reduceAdd, Int.reduceEq, Int.reduceLT, Int.reduceLE, Int.reduceAdd]; omega, by omega, by simp only [go_sem, Nat.reduceBEq, Nat.reduceLeDiff, Nat.reduceEqDiff, Nat.reduceSub, Nat.reduceAdd, Int.reduceEq, Int.reduceLT, Int.reduceLE, Int.reduceAdd, hg1], by simp only [go_sem, Nat.reduceBEq, Nat.reduceLeDiff, Nat.reduceEqDiff, Nat.reduceSub, Nat.reduceAdd, Int.reduceEq, Int.reduceLT, Int.reduceLE, Int.reduceAdd, bQ1], ?_, hat2, fun x hx => ?_⟩, by simp, by simp, .nil, .nil, by simp only [go_sem, Nat.reduceBEq, Nat.reduceLeDiff, Nat.reduceEqDiff, Nat.reduceSub, Nat.reduceAdd, Int.reduceEq, Int.reduceLT, Int.reduceLE, Int.reduceAdd, cB, bB1, List.map_nil], OwnB.nil _ _ _ _, OwnB.nil _ _ _ _, fun _ _ _ h => by cases h⟩) ?_ ?_
  · (repeat first | exact Adv.refl _ _ | assumption | refine Adv.trans ?_ had | refine Adv.trans ?_ ha1 | refine Adv.trans ?_ ha2 | refine Adv.trans ?_ ha3 | refine Adv.trans ?_ ha4 | refine Adv.trans ?_ ha5 | refine Adv.trans ?_ ha6 | refine Adv.trans ?_ ha7 | refine Adv.trans ?_ ha8 | refine Adv.trans ?_ ha9 | refine Adv.trans ?_ ha10 | refine Adv.trans ?_ ha11 | refine Adv.trans ?_ ha12 | apply Adv.up | apply Adv.put | refine Adv.new ?_ (by omega) _ | refine Adv.live ?_ (by omega) _ | refine Adv.owns ?_ (by omega) (by first | exact OwnB.lo ‹_› | exact fun _ _ _ h => by cases h))
  · simp only [List.mem_cons, List.not_mem_nil, or_false] at hx
    subst hx
    exact ⟨by simp only; omega, by simp only; omega, by simp only [go_sem, Nat.reduceBEq, Nat.reduceLeDiff, Nat.reduceEqDiff, Nat.reduceSub, Nat.reduceAdd, Int.reduceEq, Int.reduceLT, Int.reduceLE, Int.reduceAdd]; omega, by simp only [go_sem, Nat.reduceBEq, Nat.reduceLeDiff, Nat.reduceEqDiff, Nat.reduceSub, Nat.reduceAdd, Int.reduceEq, Int.reduceLT, Int.reduceLE, Int.reduceAdd, bR1]⟩
  case refine_4 =>
    intro q hq H2 had
    have hb : (object l en s).1.f = some q := by
      show (protoP l en (propsP l en s).1).1.f = some q
      have hq2 : (propsP l en s).1.f = some q := hq
      rw [protoP_bad (ok_some hq2)]; exact hq2
    rw [outP_some hb]
    simp only [go_sem, Nat.reduceBEq, Nat.reduceLeDiff, Nat.reduceEqDiff, Nat.reduceSub, Nat.reduceAdd, Int.reduceEq, Int.reduceLT, Int.reduceLE, Int.reduceAdd, san_trouble]
    exact had
  intro hfo H2 hI2
  obtain ⟨hL, hbn, hba, oA, oP, g2, hA2, hP2, hne⟩ := hI2
  simp only [cB] at g2
  have hg2 : H2.get r = some (cP l en (propsP l en s).1) := hL.gr
  have ha2 := hL.ad
  have hl2 := hL.b1
  have hle2 : (propsP l en s).1.at_ ≤ l.length := hL.le
  have hfo' : (propsP l en s).1.f = none := hfo
  have hba' : (propsP l en s).2.2.length ≤ (propsP l en s).1.at_ := hba
  have hr2 : r < H2.next := by omega
  have hn2 := ne_new hr2
  have hz2 := ne_new0 hr2
  have hx2 := ne_new' hr2
  have bQ2 : H2.get (H.next) = some ([.ptr r 0]) := hL.gq
  have cQ2 : ∀ j, (H2.next + j = H.next) = False := fun j => eq_false (by omega)
  have dQ2 : (H2.next = H.next) = False := eq_false (by omega)
  have eQ2 : ∀ j, (H.next = H2.next + j) = False := fun j => eq_false (by omega)
  have bR2 : H2.get (H.next + 1) = some ([.lit (.int .i64 0), .lit (.string (ba [])), .lit (.string (ba [])), .lit (.string (ba [])), .sl .nil [], .sl .nil [], .sl .nil [], .sl .nil []]) := (hL.kk (H.next + 1, [.lit (.int .i64 0), .lit (.string (ba [])), .lit (.string (ba [])), .lit (.string (ba [])), .sl .nil [], .sl .nil [], .sl .nil [], .sl .nil []]) (by simp)).2.2.2
  have cR2 : ∀ j, (H2.next + j = H.next + 1) = False := fun j => eq_false (by omega)
  have dR2 : (H2.next = H.next + 1) = False := eq_false (by omega)
  have eR2 : ∀ j, (H.next + 1 = H2.next + j) = False := fun j => eq_false (by omega)
  have bB2 : H2.get (H.next + 3) = some ([.lit (.int .i64 4), .lit (.string (ba [])), .lit (.string (ba [])), .lit (.string (ba [])), .sl oA ((propsP l en s).2.2.map encOpd), .sl oP ((propsP l en s).2.1.map encStr), .sl .nil [], .sl .nil []]) := g2
  have cB2 : ∀ j, (H2.next + j = H.next + 3) = False := fun j => eq_false (by omega)
  have dB2 : (H2.next = H.next + 3) = False := eq_false (by omega)
  have eB2 : ∀ j, (H.next + 3 = H2.next + j) = False := fun j => eq_false (by omega)
  simp only [go_sem, Nat.reduceBEq, Nat.reduceLeDiff, Nat.reduceEqDiff, Nat.reduceSub, Nat.reduceAdd, Int.reduceEq, Int.reduceLT, Int.reduceLE, Int.reduceAdd, hg2, hn, hz, hn', Nat.add_zero, hn2, hz2, hx2, bQ2, cQ2, dQ2, eQ2, rQ, qQ, pQR, pQB, bR2, cR2, dR2, eR2, rR, qR, pRQ, pRB, bB2, cB2, dB2, eB2, rB, qB, pBQ, pBR]
  refine goC_out (c_need (s := (propsP l en s).1) (l := l) (en := en) hlen hfo' (by first | omega | (simp only [go_sem, Nat.reduceBEq, Nat.reduceLeDiff, Nat.reduceEqDiff, Nat.reduceSub, Nat.reduceAdd, Int.reduceEq, Int.reduceLT, Int.reduceLE, Int.reduceAdd]; omega)) (by first | assumption | simp only [go_sem, Nat.reduceBEq, Nat.reduceLeDiff, Nat.reduceEqDiff, Nat.reduceSub, Nat.reduceAdd, Int.reduceEq, Int.reduceLT, Int.reduceLE, Int.reduceAdd, hg2, hn, hz, hn', Nat.add_zero, hn2, hz2, hx2, bQ2, cQ2, dQ2, eQ2, rQ, qQ, pQR, pQB, bR2, cR2, dR2, eR2, rR, qR, pRQ, pRB, bB2, cB2, dB2, eB2, rB, qB, pBQ, pBR]) [112, 114, 111, 116, 111] (by decide)) ?_ ?_
  case refine_2 =>
    intro q hq H3 had
    have hb : (object l en s).1.f = some q := by
      show (operand l en (need l en (propsP l en s).1 tProto)).1.f = some q
      rw [show need l en (propsP l en s).1 tProto = need l en (propsP l en s).1 [112, 114, 111, 116, 111] from rfl, operand_bad (ok_some hq)]; exact hq
    rw [outP_some hb]
    simp only [go_sem, Nat.reduceBEq, Nat.reduceLeDiff, Nat.reduceEqDiff, Nat.reduceSub, Nat.reduceAdd, Int.reduceEq, Int.reduceLT, Int.reduceLE, Int.reduceAdd, san_trouble]
    (repeat first | exact Adv.refl _ _ | assumption | refine Adv.trans ?_ had | refine Adv.trans ?_ ha1 | refine Adv.trans ?_ ha2 | refine Adv.trans ?_ ha3 | refine Adv.trans ?_ ha4 | refine Adv.trans ?_ ha5 | refine Adv.trans ?_ ha6 | refine Adv.trans ?_ ha7 | refine Adv.trans ?_ ha8 | refine Adv.trans ?_ ha9 | refine Adv.trans ?_ ha10 | refine Adv.trans ?_ ha11 | refine Adv.trans ?_ ha12 | apply Adv.up | apply Adv.put | refine Adv.new ?_ (by omega) _ | refine Adv.live ?_ (by omega) _ | refine Adv.owns ?_ (by omega) (by first | exact OwnB.lo ‹_› | exact fun _ _ _ h => by cases h))
  intro hf3 H3 hg3 ha3
  have hl3 := ha3.1
  try simp only [go_sem, Nat.reduceBEq, Nat.reduceLeDiff, Nat.reduceEqDiff, Nat.reduceSub, Nat.reduceAdd, Int.reduceEq, Int.reduceLT, Int.reduceLE, Int.reduceAdd] at hl3
  have hr3 : r < H3.next := by omega
  have hn3 := ne_new hr3
  have hz3 := ne_new0 hr3
  have hx3 := ne_new' hr3
  have bQ3 : H3.get (H.next) = some ([.ptr r 0]) := (ha3.get (by first | omega | (simp only [go_sem, Nat.reduceBEq, Nat.reduceLeDiff, Nat.reduceEqDiff, Nat.reduceSub, Nat.reduceAdd, Int.reduceEq, Int.reduceLT, Int.reduceLE, Int.reduceAdd]; omega)) (by omega)).trans (by simp only [go_sem, Nat.reduceBEq, Nat.reduceLeDiff, Nat.reduceEqDiff, Nat.reduceSub, Nat.reduceAdd, Int.reduceEq, Int.reduceLT, Int.reduceLE, Int.reduceAdd, hg2, hn, hz, hn', Nat.add_zero, hn2, hz2, hx2, bQ2, cQ2, dQ2, eQ2, rQ, qQ, pQR, pQB, bR2, cR2, dR2, eR2, rR, qR, pRQ, pRB, bB2, cB2, dB2, eB2, rB, qB, pBQ, pBR])
  have cQ3 : ∀ j, (H3.next + j = H.next) = False := fun j => eq_false (by omega)
  have dQ3 : (H3.next = H.next) = False := eq_false (by omega)
  have eQ3 : ∀ j, (H.next = H3.next + j) = False := fun j => eq_false (by omega)
  have bR3 : H3.get (H.next + 1) = some ([.lit (.int .i64 0), .lit (.string (ba [])), .lit (.string (ba [])), .lit (.string (ba [])), .sl .nil [], .sl .nil [], .sl .nil [], .sl .nil []]) := (ha3.get (by first | omega | (simp only [go_sem, Nat.reduceBEq, Nat.reduceLeDiff, Nat.reduceEqDiff, Nat.reduceSub, Nat.reduceAdd, Int.reduceEq, Int.reduceLT, Int.reduceLE, Int.reduceAdd]; omega)) (by omega)).trans (by simp only [go_sem, Nat.reduceBEq, Nat.reduceLeDiff, Nat.reduceEqDiff, Nat.reduceSub, Nat.reduceAdd, Int.reduceEq, Int.reduceLT, Int.reduceLE, Int.reduceAdd, hg2, hn, hz, hn', Nat.add_zero, hn2, hz2, hx2, bQ2, cQ2, dQ2, eQ2, rQ, qQ, pQR, pQB, bR2, cR2, dR2, eR2, rR, qR, pRQ, pRB, bB2, cB2, dB2, eB2, rB, qB, pBQ, pBR])
  have cR3 : ∀ j, (H3.next + j = H.next + 1) = False := fun j => eq_false (by omega)
  have dR3 : (H3.next = H.next + 1) = False := eq_false (by omega)
  have eR3 : ∀ j, (H.next + 1 = H3.next + j) = False := fun j => eq_false (by omega)
  have bB3 : H3.get (H.next + 3) = some ([.lit (.int .i64 4), .lit (.string (ba [])), .lit (.string (ba [])), .lit (.string (ba [])), .sl oA ((propsP l en s).2.2.map encOpd), .sl oP ((propsP l en s).2.1.map encStr), .sl .nil [], .sl .nil []]) := (ha3.get (by first | omega | (simp only [go_sem, Nat.reduceBEq, Nat.reduceLeDiff, Nat.reduceEqDiff, Nat.reduceSub, Nat.reduceAdd, Int.reduceEq, Int.reduceLT, Int.reduceLE, Int.reduceAdd]; omega)) (by omega)).trans (by simp only [go_sem, Nat.reduceBEq, Nat.reduceLeDiff, Nat.reduceEqDiff, Nat.reduceSub, Nat.reduceAdd, Int.reduceEq, Int.reduceLT, Int.reduceLE, Int.reduceAdd, hg2, hn, hz, hn', Nat.add_zero, hn2, hz2, hx2, bQ2, cQ2, dQ2, eQ2, rQ, qQ, pQR, pQB, bR2, cR2, dR2, eR2, rR, qR, pRQ, pRB, bB2, cB2, dB2, eB2, rB, qB, pBQ, pBR])
  have cB3 : ∀ j, (H3.next + j = H.next + 3) = False := fun j => eq_false (by omega)
  have dB3 : (H3.next = H.next + 3) = False := eq_false (by omega)
  have eB3 : ∀ j, (H.next + 3 = H3.next + j) = False := fun j => eq_false (by omega)
  have hA3 := (hA2.up 2).adv ha3 hr
  have hf3' : (need l en (propsP l en s).1 [112, 114, 111, 116, 111]).f = none := hf3
  simp only [go_sem, Nat.reduceBEq, Nat.reduceLeDiff, Nat.reduceEqDiff, Nat.reduceSub, Nat.reduceAdd, Int.reduceEq, Int.reduceLT, Int.reduceLE, Int.reduceAdd, hg3, hn, hz, hn', Nat.add_zero, hn3, hz3, hx3, bQ3, cQ3, dQ3, eQ3, rQ, qQ, pQR, pQB, bR3, cR3, dR3, eR3, rR, qR, pRQ, pRB, bB3, cB3, dB3, eB3, rB, qB, pBQ, pBR]
  refine W_drawE [(1, 2), (1, 3)] [[1, 5, 6, 7], [5, 6, 7], [3, 4, 5, 6, 7], [4, 5, 6, 7], [5, 6, 7], [6, 7], [7], []] (by kernel_rfl) ?_
  simp only [go_sem, Nat.reduceBEq, Nat.reduceLeDiff, Nat.reduceEqDiff, Nat.reduceSub, Nat.reduceAdd, Int.reduceEq, Int.reduceLT, Int.reduceLE, Int.reduceAdd, hg3, hn, hz, hn', Nat.add_zero, hn3, hz3, hx3, bQ3, cQ3, dQ3, eQ3, rQ, qQ, pQR, pQB, bR3, cR3, dR3, eR3, rR, qR, pRQ, pRB, bB3, cB3, dB3, eB3, rB, qB, pBQ, pBR]
  refine eK_out rfl (c_operand (s := need l en (propsP l en s).1 [112, 114, 111, 116, 111]) (l := l) (en := en) hlen hf3 (by first | omega | (simp only [go_sem, Nat.reduceBEq, Nat.reduceLeDiff, Nat.reduceEqDiff, Nat.reduceSub, Nat.reduceAdd, Int.reduceEq, Int.reduceLT, Int.reduceLE, Int.reduceAdd]; omega)) (by first | assumption | simp only [go_sem, Nat.reduceBEq, Nat.reduceLeDiff, Nat.reduceEqDiff, Nat.reduceSub, Nat.reduceAdd, Int.reduceEq, Int.reduceLT, Int.reduceLE, Int.reduceAdd, hg3, hn, hz, hn', Nat.add_zero, hn3, hz3, hx3, bQ3, cQ3, dQ3, eQ3, rQ, qQ, pQR, pQB, bR3, cR3, dR3, eR3, rR, qR, pRQ, pRB, bB3, cB3, dB3, eB3, rB, qB, pBQ, pBR])) ?_ ?_
  case refine_2 =>
    intro q hq H4 had
    have hb : (object l en s).1.f = some q := hq
    rw [outP_some hb]
    simp only [go_sem, Nat.reduceBEq, Nat.reduceLeDiff, Nat.reduceEqDiff, Nat.reduceSub, Nat.reduceAdd, Int.reduceEq, Int.reduceLT, Int.reduceLE, Int.reduceAdd, san_trouble]
    (repeat first | exact Adv.refl _ _ | assumption | refine Adv.trans ?_ had | refine Adv.trans ?_ ha1 | refine Adv.trans ?_ ha2 | refine Adv.trans ?_ ha3 | refine Adv.trans ?_ ha4 | refine Adv.trans ?_ ha5 | refine Adv.trans ?_ ha6 | refine Adv.trans ?_ ha7 | refine Adv.trans ?_ ha8 | refine Adv.trans ?_ ha9 | refine Adv.trans ?_ ha10 | refine Adv.trans ?_ ha11 | refine Adv.trans ?_ ha12 | apply Adv.up | apply Adv.put | refine Adv.new ?_ (by omega) _ | refine Adv.live ?_ (by omega) _ | refine Adv.owns ?_ (by omega) (by first | exact OwnB.lo ‹_› | exact fun _ _ _ h => by cases h))
  intro hf4 H4 hg4 ha4
  have hl4 := ha4.1
  try simp only [go_sem, Nat.reduceBEq, Nat.reduceLeDiff, Nat.reduceEqDiff, Nat.reduceSub, Nat.reduceAdd, Int.reduceEq, Int.reduceLT, Int.reduceLE, Int.reduceAdd] at hl4
  have hr4 : r < H4.next := by omega
  have hn4 := ne_new hr4
  have hz4 := ne_new0 hr4
  have hx4 := ne_new' hr4
  have bQ4 : H4.get (H.next) = some ([.ptr r 0]) := (ha4.get (by first | omega | (simp only [go_sem, Nat.reduceBEq, Nat.reduceLeDiff, Nat.reduceEqDiff, Nat.reduceSub, Nat.reduceAdd, Int.reduceEq, Int.reduceLT, Int.reduceLE, Int.reduceAdd]; omega)) (by omega)).trans (by simp only [go_sem, Nat.reduceBEq, Nat.reduceLeDiff, Nat.reduceEqDiff, Nat.reduceSub, Nat.reduceAdd, Int.reduceEq, Int.reduceLT, Int.reduceLE, Int.reduceAdd, hg3, hn, hz, hn', Nat.add_zero, hn3, hz3, hx3, bQ3, cQ3, dQ3, eQ3, rQ, qQ, pQR, pQB, bR3, cR3, dR3, eR3, rR, qR, pRQ, pRB, bB3, cB3, dB3, eB3, rB, qB, pBQ, pBR])
  have cQ4 : ∀ j, (H4.next + j = H.next) = False := fun j => eq_false (by omega)
  have dQ4 : (H4.next = H.next) = False := eq_false (by omega)
  have eQ4 : ∀ j, (H.next = H4.next + j) = False := fun j => eq_false (by omega)
  have bR4 : H4.get (H.next + 1) = some ([.lit (.int .i64 0), .lit (.string (ba [])), .lit (.string (ba [])), .lit (.string (ba [])), .sl .nil [], .sl .nil [], .sl .nil [], .sl .nil []]) := (ha4.get (by first | omega | (simp only [go_sem, Nat.reduceBEq, Nat.reduceLeDiff, Nat.reduceEqDiff, Nat.reduceSub, Nat.reduceAdd, Int.reduceEq, Int.reduceLT, Int.reduceLE, Int.reduceAdd]; omega)) (by omega)).trans (by simp only [go_sem, Nat.reduceBEq, Nat.reduceLeDiff, Nat.reduceEqDiff, Nat.reduceSub, Nat.reduceAdd, Int.reduceEq, Int.reduceLT, Int.reduceLE, Int.reduceAdd, hg3, hn, hz, hn', Nat.add_zero, hn3, hz3, hx3, bQ3, cQ3, dQ3, eQ3, rQ, qQ, pQR, pQB, bR3, cR3, dR3, eR3, rR, qR, pRQ, pRB, bB3, cB3, dB3, eB3, rB, qB, pBQ, pBR])
  have cR4 : ∀ j, (H4.next + j = H.next + 1) = False := fun j => eq_false (by omega)
  have dR4 : (H4.next = H.next + 1) = False := eq_false (by omega)
  have eR4 : ∀ j, (H.next + 1 = H4.next + j) = False := fun j => eq_false (by omega)
  have bB4 : H4.get (H.next + 3) = some ([.lit (.int .i64 4), .lit (.string (ba [])), .lit (.string (ba [])), .lit (.string (ba [])), .sl oA ((propsP l en s).2.2.map encOpd), .sl oP ((propsP l en s).2.1.map encStr), .sl .nil [], .sl .nil []]) := (ha4.get (by first | omega | (simp only [go_sem, Nat.reduceBEq, Nat.reduceLeDiff, Nat.reduceEqDiff, Nat.reduceSub, Nat.reduceAdd, Int.reduceEq, Int.reduceLT, Int.reduceLE, Int.reduceAdd]; omega)) (by omega)).trans (by simp only [go_sem, Nat.reduceBEq, Nat.reduceLeDiff, Nat.reduceEqDiff, Nat.reduceSub, Nat.reduceAdd, Int.reduceEq, Int.reduceLT, Int.reduceLE, Int.reduceAdd, hg3, hn, hz, hn', Nat.add_zero, hn3, hz3, hx3, bQ3, cQ3, dQ3, eQ3, rQ, qQ, pQR, pQB, bR3, cR3, dR3, eR3, rR, qR, pRQ, pRB, bB3, cB3, dB3, eB3, rB, qB, pBQ, pBR])
  have cB4 : ∀ j, (H4.next + j = H.next + 3) = False := fun j => eq_false (by omega)
  have dB4 : (H4.next = H.next + 3) = False := eq_false (by omega)
  have eB4 : ∀ j, (H.next + 3 = H4.next + j) = False := fun j => eq_false (by omega)
  have hk4 : Keeps (H3.up 8) H4 (H.next + 3) := ha4.keeps (by simp only [go_sem, Nat.reduceBEq, Nat.reduceLeDiff, Nat.reduceEqDiff, Nat.reduceSub, Nat.reduceAdd, Int.reduceEq, Int.reduceLT, Int.reduceLE, Int.reduceAdd]; omega) (by omega)
  have hA4 := (hA3.up 8).adv ha4 hr
  have hoA := hA4.appOk (propsP l en s).2.2.length
  have hap := fun o x H id h => app_opd hlen (acc := (propsP l en s).2.2) (by omega) o x H id h
  have hf4' : (object l en s).1.f = none := hf4
  rw [outP_none hf4']
  have tail : ∀ o, ([.lit (.int .i64 4), .lit (.string (ba [])), .lit (.string (ba [])), .lit (.string (ba [])), .sl .sh (((propsP l en s).2.2 ++ [o]).map encOpd), .sl .sh ((propsP l en s).2.1.map encStr), .sl .sh [], .sl .sh []] : List AV) = encStmt (.mk 4 [] [] [] ((propsP l en s).2.2 ++ [o]) (propsP l en s).2.1 [] []) := fun o => by simp only [encStmt, encStmts] <;> rfl
  have hlo := hA4.lo
  have eO : object l en s = ((operand l en (need l en (propsP l en s).1 [112, 114, 111, 116, 111])).1, .mk 4 [] [] [] ((propsP l en s).2.2 ++ [(operand l en (need l en (propsP l en s).1 [112, 114, 111, 116, 111])).2]) (propsP l en s).2.1 [] []) := rfl
  rw [eO]
  simp only [go_sem, Nat.reduceBEq, Nat.reduceLeDiff, Nat.reduceEqDiff, Nat.reduceSub, Nat.reduceAdd, Int.reduceEq, Int.reduceLT, Int.reduceLE, Int.reduceAdd, hg4, hn, hz, hn', Nat.add_zero, hn4, hz4, hx4, bQ4, cQ4, dQ4, eQ4, rQ, qQ, pQR, pQB, bR4, cR4, dR4, eR4, rR, qR, pRQ, pRB, bB4, cB4, dB4, eB4, rB, qB, pBQ, pBR, rs, hk4, hap, hoA, sanLL_encOpd, sanLL_encStr, tail]
  (repeat first | exact Adv.refl _ _ | assumption | refine Adv.trans ?_ had | refine Adv.trans ?_ ha1 | refine Adv.trans ?_ ha2 | refine Adv.trans ?_ ha3 | refine Adv.trans ?_ ha4 | refine Adv.trans ?_ ha5 | refine Adv.trans ?_ ha6 | refine Adv.trans ?_ ha7 | refine Adv.trans ?_ ha8 | refine Adv.trans ?_ ha9 | refine Adv.trans ?_ ha10 | refine Adv.trans ?_ ha11 | refine Adv.trans ?_ ha12 | apply Adv.up | apply Adv.put | refine Adv.new ?_ (by omega) _ | refine Adv.live ?_ (by omega) _ | refine Adv.owns ?_ (by omega) (by first | exact hlo | exact fun _ _ _ h => by cases h))
end
end Go.Proofs.YtghhkbigmmjanaaGreatDoor.VA
