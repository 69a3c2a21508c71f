/- What is proved: what the parser's object comes to, in the abstract interpreter (VA). Condition: no more tokens than a machine holds.
What is proved: what the parser's object answers, or panics with, in the abstract interpreter (VA). Condition: no more tokens than a machine holds.
What is proved: what the parser's value answers, or panics with, in the abstract interpreter (VA). Condition: no more tokens than a machine holds.
What is proved: what the parser's statements and blocks answer, or panic with, in the abstract interpreter (VA). Condition: no more tokens than a machine holds. -/
import Derived.Test.YtghhkbigmmjanaaGreatDoorM6
/-! Pe6 -/
namespace Go.Proofs.YtghhkbigmmjanaaGreatDoor.VA
open Go Go.RowKit
attribute [local go_sem] Nat.add_eq_left Nat.left_eq_add true_and and_true ite_true if_false Int.cast_ofNat_Int eq_self Nat.add_assoc Option.some.injEq decide_true decide_false Bool.not_true Bool.not_false List.size_toArray List.length_cons List.length_nil
set_option linter.unusedSimpArgs false
set_option maxRecDepth 100000

section
variable {l : List GTok} {en : Int} {r : Nat} {s : PS} {H : Heap}
/-! ### a fault stays -/
theorem pfail_bad' (h : s.ok = false) (code : Nat) : pfail l en s code = s := by
 obtain ⟨a, c, f⟩ := s
 cases f with
 | none => cases h
 | some q => rfl
theorem isName_bad (h : s.ok = false) : isName l s = false := by
 cases h2 : isName l s with
 | false => rfl
 | true => obtain ⟨x, h3, _⟩ := isName_some h2; rw [(tk_some h3).2.1] at h; cases h
theorem isNum_bad (h : s.ok = false) : isNum l s = false := by
 cases h2 : isNum l s with
 | false => rfl
 | true => obtain ⟨x, h3, _⟩ := isNum_some h2; rw [(tk_some h3).2.1] at h; cases h
theorem nameP_bad (h : s.ok = false) : (nameP l en s).1 = s := by simp only [nameP, isName_bad h, pfail_bad' h]
theorem operand_bad (h : s.ok = false) : (operand l en s).1 = s := by simp only [operand, isT_bad h, isNum_bad h, nameP_bad h]
theorem args_bad (h : s.ok = false) : (args l en s).1 = s := by simp only [args, need_bad' h, listP_bad _ _ h]
theorem names_bad (h : s.ok = false) : (names l en s).1 = s := by simp only [names, need_bad' h, listP_bad _ _ h]
theorem propsP_bad (h : s.ok = false) : (propsP l en s).1 = s := by simp only [propsP, need_bad' h, listP_bad _ _ h]
theorem protoP_bad (h : s.ok = false) : (protoP l en s).1 = s := by simp only [protoP, need_bad' h, operand_bad h]
theorem object_bad (h : s.ok = false) : (object l en s).1 = s := by
 have h1 := propsP_bad (l := l) (en := en) h
 show (protoP l en (propsP l en s).1).1 = s
 rw [h1]; exact protoP_bad h
theorem signOf_bad (h : s.ok = false) : ∀ ts, signOf l s ts = none
 | [] => rfl
 | t :: ts => by simp only [signOf, isT_bad h, signOf_bad h ts]
theorem rest_bad (h : s.ok = false) (o : Opd) : (rest l en s o).1 = s := by simp only [rest, signOf_bad h, isT_bad h, Bool.and_false]
theorem value_bad (h : s.ok = false) : (value l en s).1 = s := by
 have h1 : (operand l en s).1 = s := operand_bad h
 simp only [value, isT_bad h, h1, rest_bad h]
theorem assign_bad (h : s.ok = false) : (assign l en s).1 = s := by
 have h1 : (nameP l en s).1 = s := nameP_bad h
 simp only [assign, h1, isT_bad h, need_bad' h, value_bad h]

/-! ### properties -/
theorem OwnB.owns {H : Heap} {o o' : Own} {id lo : Nat} {e : TypeId} {sz : Nat} (h : OwnB H o e sz lo) (hne : ∀ k e z, o' = .own k e z → ∀ k' e' z', o = .own k' e' z' → k ≠ k') (hid : ∀ k e z, o = .own k e z → k < id) :
  OwnB (appU H (ownUs o' id)) o e sz lo := by
 cases o with
 | own k e' z =>
  obtain ⟨h1, h2, h3, h4, h5⟩ := h
  have h6 := hid k e' z rfl
  refine ⟨h1, h2, ?_, h4, by rw [ownUs_next]; exact h5⟩
  cases o' with
  | own k2 e2 z2 =>
   have h7 := hne k2 e2 z2 rfl k e' z rfl
   simp only [ownUs, appU, U.app, Heap.isLive_setLive]
   rw [if_neg (by omega), if_neg h7]; exact h3
  | _ =>
   simp only [ownUs, appU, U.app, Heap.isLive_setLive]
   rw [if_neg (by omega)]; exact h3
 | nil => trivial
 | sh => exact h
 | ex => exact h
theorem OwnB.lt {H : Heap} {o : Own} {e : TypeId} {sz lo : Nat} (h : OwnB H o e sz lo) : ∀ s e z, o = .own s e z → s < H.next := by
 rintro s e' z rfl
 exact h.2.2.2.2
def cB (oA oP : Own) (ns : List (List UInt8)) (aa : List Opd) : List AV := [.lit (.int .i64 4), .lit (.string (ba [])), .lit (.string (ba [])), .lit (.string (ba [])), .sl oA (aa.map encOpd), .sl oP (ns.map encStr), .sl .nil [], .sl .nil []]
def IPrp (l : List GTok) (en : Int) (r : Nat) (H0 : Heap) (q b : Nat) (kp : List (Nat × List AV)) (s : PS) (acc : List (List UInt8) × List Opd) (H : Heap) : Prop :=
 Li l en r H0 q b kp s H ∧ acc.1.length ≤ s.at_ ∧ acc.2.length ≤ s.at_ ∧ ∃ oA oP, H.get b = some (cB oA oP acc.1 acc.2) ∧ OwnB H oA 50 3 H0.next ∧ OwnB H oP 9 1 H0.next ∧
  (∀ k e z, oP = .own k e z → ∀ k' e' z', oA = .own k' e' z' → k ≠ k')
set_option maxRecDepth 20000 in
theorem oneProp_ok (hlen : l.length ≤ LM) (H0 : Heap) (q b : Nat) (kp : List (Nat × List AV)) : OneOk l en r H0 (oneProp l en) 140 [.ptr b 0, .ptr q 0] (IPrp l en r H0 q b kp) := by
 refine ⟨fun s x H h => ⟨Nat.lt_of_lt_of_le h.1.rl h.1.ad.1, h.1.gr⟩, fun s x H s' H' h h1 h2 h3 h4 => ?_, oneProp_lt, fun s acc H hf hI => ?_, fun s x H h => h.1.ad, fun s x H h => h.1.le⟩
 ·obtain ⟨hL, hb, hb', oA, oP, g, hA, hP, hne⟩ := h
  exact ⟨hL.adv h3 h4 h2, by omega, by omega, oA, oP, by rw [h3.get hL.b1 (by have := hL.rl; have := hL.b0; omega)]; exact g, hA.adv h3 hL.rl, hP.adv h3 hL.rl, hne⟩
 ·obtain ⟨ns, aa⟩ := acc
  obtain ⟨hL, hbd, hbd', oA, oP, gb, hA, hP, hne⟩ := hI
  simp only at hbd hbd' gb
  simp only [cB] at gb
  refine LC_of (fn := Tryz.f140) rfl rfl rfl rfl rfl ?_
  have rs : Tryz.f140.results.toList = [] := rfl
  obtain ⟨n1, n2, n3, n4, n5, n6⟩ := hL.ne
  have hr := Nat.lt_of_lt_of_le hL.rl hL.ad.1
  have hg := hL.gr
  have gq := hL.gq
  have hb1 := hL.b1
  have hq1 := hL.q1
  have hb0 := hL.b0
  have hq0 := hL.q0
  have hrl := hL.rl
  have hle := hL.le
  have had := hL.ad.1
  have hlt := oneProp_lt (l := l) (en := en) s (ns, aa)
  simp only [go_sem, simprocAttr]
  refine W_drawE [(1, 2), (1, 3)] [[1, 5, 6, 7], [5, 6, 7], [3, 4, 5, 6, 7], [4, 5, 6, 7], [5, 6, 7], [6, 7], [7], []] (by kernel_rfl) ?_
  simp only [go_sem, simprocAttr, gb, gq]
  refine eK_out rfl (c_name (s := s) (l := l) (en := en) hlen hf (by simp only [go_sem, simprocAttr]; omega) (by simp only [go_sem, simprocAttr, hg])) ?_ ?_
  case refine_2 =>
   intro q2 hq2 H1 had
   have hbad : (oneProp l en s (ns, aa)).1.f = some q2 := by
    show (operand l en (need l en (nameP l en s).1 [58])).1.f = some q2
    rw [need_bad' (ok_some hq2), operand_bad (ok_some hq2)]; exact hq2
   simp only [go_sem, simprocAttr, san_trouble]
   exact ⟨q2, hbad, rfl, (hL.ad.up 8).trans had⟩
  intro hf1 H1 hg1 ha1
  have hl1 := ha1.1
  simp only [go_sem, simprocAttr] at hl1
  have gb1 : H1.get b = some [.lit (.int .i64 4), .lit (.string (ba [])), .lit (.string (ba [])), .lit (.string (ba [])), .sl oA (aa.map encOpd), .sl oP (ns.map encStr), .sl .nil [], .sl .nil []] := (ha1.get (by simp only [go_sem, simprocAttr]; omega) (by omega)).trans (by simp only [go_sem, simprocAttr, gb])
  have gq1 : H1.get q = some [.ptr r 0] := (ha1.get (by simp only [go_sem, simprocAttr]; omega) (by omega)).trans (by simp only [go_sem, simprocAttr, gq])
  have hk : Keeps (H.up 8) H1 b := ha1.keeps (by simp only [go_sem, simprocAttr]; omega) (by omega)
  have hP1 := (hP.up 8).adv ha1 hL.rl
  have hA1 := (hA.up 8).adv ha1 hL.rl
  have hoP := hP1.appOk ns.length
  have hap := fun o x H id h => app_str hlen (acc := ns) (by omega) o x H id h
  have hf1' : (nameP l en s).1.ok = true := ok_none hf1
  simp only [go_sem, simprocAttr, gb1, gq1, n1, n2, n3, n4, n5, n6, hap, hoP, hk, rs]
  have ha1' := Adv.new (Adv.owns (o := oP) (b := H.next + 5) ((hL.ad.up 8).trans ha1) (by omega) hP1.lo) hL.b0 [.lit (.int .i64 4), .lit (.string (ba [])), .lit (.string (ba [])), .lit (.string (ba [])), .sl oA (aa.map encOpd), .sl (.own (H.next + 5) 9 1) ((ns ++ [(nameP l en s).2]).map encStr), .sl .nil [], .sl .nil []]
  have hA2 := (hA1.owns (o' := oP) (id := H.next + 5) hne (fun k e z h => by have := hA.lt k e z h; omega)).put b [.lit (.int .i64 4), .lit (.string (ba [])), .lit (.string (ba [])), .lit (.string (ba [])), .sl oA (aa.map encOpd), .sl (.own (H.next + 5) 9 1) ((ns ++ [(nameP l en s).2]).map encStr), .sl .nil [], .sl .nil []]
  have hP2 := (OwnB.app H1 oP (H.next + 5) 9 1 H0.next (by omega) (by omega)).put b [.lit (.int .i64 4), .lit (.string (ba [])), .lit (.string (ba [])), .lit (.string (ba [])), .sl oA (aa.map encOpd), .sl (.own (H.next + 5) 9 1) ((ns ++ [(nameP l en s).2]).map encStr), .sl .nil [], .sl .nil []]
  have kk2 : ∀ x ∈ kp, x.1 ≠ r ∧ x.1 ≠ b ∧ x.1 < H1.next ∧ H1.get x.1 = some x.2 := fun x hx => by
   obtain ⟨k1, k2, k3, k4⟩ := hL.kk x hx
   exact ⟨k1, k2, by omega, by rw [ha1.get (by simp only [go_sem, simprocAttr]; omega) k1]; exact k4⟩
  refine goC_out (c_need (s := (nameP l en s).1) (l := l) (en := en) hlen hf1 (by simp only [go_sem, simprocAttr]; omega) (by simp only [go_sem, simprocAttr, n1, n2, hg1]) [58] (by decide)) ?_ ?_
  case refine_2 =>
   intro q2 hq2 H2 had
   have hbad : (oneProp l en s (ns, aa)).1.f = some q2 := by
    show (operand l en (need l en (nameP l en s).1 [58])).1.f = some q2
    rw [operand_bad (ok_some hq2)]; exact hq2
   simp only [go_sem, simprocAttr, san_trouble]
   exact ⟨q2, hbad, rfl, (ha1'.up 2).trans had⟩
  intro hf2 H2 hg2 ha2
  have hl2 := ha2.1
  simp only [go_sem, simprocAttr] at hl2
  have gb2 : H2.get b = some [.lit (.int .i64 4), .lit (.string (ba [])), .lit (.string (ba [])), .lit (.string (ba [])), .sl oA (aa.map encOpd), .sl (.own (H.next + 5) 9 1) ((ns ++ [(nameP l en s).2]).map encStr), .sl .nil [], .sl .nil []] :=
   (ha2.get (by simp only [go_sem, simprocAttr]; omega) (by omega)).trans (by simp only [go_sem, simprocAttr])
  have gq2 : H2.get q = some [.ptr r 0] := (ha2.get (by simp only [go_sem, simprocAttr]; omega) (by omega)).trans (by simp only [go_sem, simprocAttr, n5, n6, gq1])
  have hA3 := (hA2.up 2).adv ha2 hL.rl
  have hP3 := (hP2.up 2).adv ha2 hL.rl
  simp only [go_sem, simprocAttr, rs]
  refine W_drawE [(1, 2), (1, 3)] [[1, 5, 6, 7], [5, 6, 7], [3, 4, 5, 6, 7], [4, 5, 6, 7], [5, 6, 7], [6, 7], [7], []] (by kernel_rfl) ?_
  simp only [go_sem, simprocAttr, gb2, gq2]
  refine eK_out rfl (c_operand (s := need l en (nameP l en s).1 [58]) (l := l) (en := en) hlen hf2 (by simp only [go_sem, simprocAttr]; omega) (by simp only [go_sem, simprocAttr, hg2])) ?_ ?_
  case refine_2 =>
   intro q2 hq2 H3 had
   simp only [go_sem, simprocAttr, san_trouble]
   exact ⟨q2, hq2, rfl, (((ha1'.up 2).trans ha2).up 8).trans had⟩
  intro hf3 H3 hg3 ha3
  have hl3 := ha3.1
  simp only [go_sem, simprocAttr] at hl3
  have gb3 : H3.get b = some [.lit (.int .i64 4), .lit (.string (ba [])), .lit (.string (ba [])), .lit (.string (ba [])), .sl oA (aa.map encOpd), .sl (.own (H.next + 5) 9 1) ((ns ++ [(nameP l en s).2]).map encStr), .sl .nil [], .sl .nil []] :=
   (ha3.get (by simp only [go_sem, simprocAttr]; omega) (by omega)).trans (by simp only [go_sem, simprocAttr, gb2])
  have gq3 : H3.get q = some [.ptr r 0] := (ha3.get (by simp only [go_sem, simprocAttr]; omega) (by omega)).trans (by simp only [go_sem, simprocAttr, gq2])
  have hk3 : Keeps (H2.up 8) H3 b := ha3.keeps (by simp only [go_sem, simprocAttr]; omega) (by omega)
  have hA4 := (hA3.up 8).adv ha3 hL.rl
  have hP4 := (hP3.up 8).adv ha3 hL.rl
  have hoA := hA4.appOk aa.length
  have hapA := fun o x H id h => app_opd hlen (acc := aa) (by omega) o x H id h
  obtain ⟨_, q2, q3⟩ := hlt (ok_none hf3)
  have e1 : (oneProp l en s (ns, aa)).2.1 = ns ++ [(nameP l en s).2] := rfl
  have e2 : (oneProp l en s (ns, aa)).2.2 = aa ++ [(operand l en (need l en (nameP l en s).1 [58])).2] := rfl
  have e3 : (oneProp l en s (ns, aa)).1 = (operand l en (need l en (nameP l en s).1 [58])).1 := rfl
  simp only [go_sem, simprocAttr, gb3, hapA, hoA, hk3, rs]
  refine ⟨hf3, ⟨hL.rl, hL.q0, by simp only [go_sem, simprocAttr]; omega, hL.b0, by simp only [go_sem, simprocAttr]; omega, hL.qb, by simp only [go_sem, simprocAttr, n1, n2, hg3, e3], by simp only [go_sem, simprocAttr, n5, n6, gq3], ?_, q3, fun x hx => ?_⟩, by rw [e1]; simp only [List.length_append, List.length_cons, List.length_nil]; omega,
   by rw [e2]; simp only [List.length_append, List.length_cons, List.length_nil]; omega, _, _, by simp only [go_sem, simprocAttr, cB, e1, e2] <;> rfl, (OwnB.app H3 oA _ _ _ _ (by omega) (by omega)).put _ _,
   (hP4.owns (o' := oA) (fun k e z hk k' e' z' hk' => by have := hA.lt k e z hk; cases hk'; omega) (fun k e z hk => by cases hk; omega)).put _ _, fun k e z hk k' e' z' hk' => by cases hk; cases hk'; omega⟩
  ·exact Adv.new (Adv.owns (((((ha1'.up 2).trans ha2).up 8).trans ha3)) (by omega) hA4.lo) hL.b0 _
  ·obtain ⟨k1, k2, k3, k4⟩ := kk2 x hx
   refine ⟨k1, k2, by simp only [go_sem, simprocAttr]; omega, ?_⟩
   rw [Heap.get_put, if_neg (Ne.symm k2), ownUs_get, ha3.get (by simp only [go_sem, simprocAttr]; omega) k1, up_get, ha2.get (by simp only [go_sem, simprocAttr]; omega) k1, up_get, Heap.get_put, if_neg (Ne.symm k2), ownUs_get]
   exact k4
end
end Go.Proofs.YtghhkbigmmjanaaGreatDoor.VA

/-! Pe7 -/
namespace Go.Proofs.YtghhkbigmmjanaaGreatDoor.VA
open Go Go.RowKit
attribute [local go_sem] Nat.add_eq_left Nat.left_eq_add true_and and_true ite_true if_false Int.cast_ofNat_Int eq_self Nat.add_assoc Option.some.injEq decide_true decide_false Bool.not_true Bool.not_false List.size_toArray List.length_cons List.length_nil
set_option linter.unusedSimpArgs false
set_option maxRecDepth 100000

section
variable {l : List GTok} {en : Int} {r : Nat} {s : PS} {H : Heap}
set_option maxRecDepth 20000 in
theorem c_object (hlen : l.length ≤ LM) (hf : s.f = none) (hr : r < H.next) (hg : H.get r = some (cP l en s)) :
  PCall Tryz.prog cfg r 129 [.ptr r 0] H (outP l en (object l en s).1 (.agg (encStmt (object l en s).2))) := by
 refine PCall_of' (fn := Tryz.f129) rfl rfl rfl rfl rfl ?_
 have rs : Tryz.f129.results.toList = [.cell 2 40] := rfl
 have ghn := ne_all hr
 have rQ : (H.next = r) = False := eq_false (by omega)
 have qQ : (r = H.next) = False := eq_false (by omega)
 have pRQ : (H.next + 1 = H.next) = False := eq_false (by omega)
 have pQR : (H.next = H.next + 1) = False := eq_false (by omega)
 have rR : (H.next + 1 = r) = False := eq_false (by omega)
 have qR : (r = H.next + 1) = False := eq_false (by omega)
 have pBQ : (H.next + 3 = H.next) = False := eq_false (by omega)
 have pQB : (H.next = H.next + 3) = False := eq_false (by omega)
 have pBR : (H.next + 3 = H.next + 1) = False := eq_false (by omega)
 have pRB : (H.next + 1 = H.next + 3) = False := eq_false (by omega)
 have rB : (H.next + 3 = r) = False := eq_false (by omega)
 have qB : (r = H.next + 3) = False := eq_false (by omega)
 simp only [go_sem, simprocAttr, hg, ghn, rQ, qQ, pQR, pQB, rR, qR, pRQ, pRB, rB, qB, pBQ, pBR]
 refine goC_out (c_need (s := s) (l := l) (en := en) hlen hf (by first | omega | (simp only [go_sem, simprocAttr]; omega)) (by first | assumption | simp only [go_sem, simprocAttr, hg, ghn, rQ, qQ, pQR, pQB, rR, qR, pRQ, pRB, rB, qB, pBQ, pBR]) [123] (by decide)) ?_ ?_
 case refine_2 =>
  intro q hq H1 had
  have hb : (object l en s).1.f = some q := by
   show (protoP l en (propsP l en s).1).1.f = some q
   rw [show (propsP l en s).1 = need l en s [123] by simp only [propsP, listP_bad _ _ (ok_some hq)], protoP_bad (ok_some hq)]
   exact hq
  rw [outP_some hb]
  simp only [go_sem, simprocAttr, san_trouble]
  (repeat first | exact Adv.refl _ _ | assumption | refine Adv.trans ?_ ‹Adv _ _ _› | apply Adv.up | apply Adv.put | refine Adv.new ?_ (by omega) _ | refine Adv.live ?_ (by omega) _ | refine Adv.owns ?_ (by omega) (by first | exact OwnB.lo ‹_› | exact fun _ _ _ h => by cases h))
 intro hf1 H1 hg1 ha1
 have hl1 := ha1.1
 try simp only [go_sem, simprocAttr] at hl1
 have hr1 : r < H1.next := by omega
 have ghn1 := ne_all hr1
 have bQ1 : H1.get (H.next) = some ([.ptr r 0]) := (ha1.get (by first | omega | (simp only [go_sem, simprocAttr]; omega)) (by omega)).trans (by simp only [go_sem, simprocAttr, hg, ghn, rQ, qQ, pQR, pQB, rR, qR, pRQ, pRB, rB, qB, pBQ, pBR])
 have kQ1 := ne_thr (a := H.next) (b := H1.next) (by omega)
 have bR1 : H1.get (H.next + 1) = some (sZ) := (ha1.get (by first | omega | (simp only [go_sem, simprocAttr]; omega)) (by omega)).trans (by simp only [go_sem, simprocAttr, hg, ghn, rQ, qQ, pQR, pQB, rR, qR, pRQ, pRB, rB, qB, pBQ, pBR])
 have kR1 := ne_thr (a := H.next + 1) (b := H1.next) (by omega)
 have bB1 : H1.get (H.next + 3) = some ([.lit (.int .i64 4), .lit (.string (ba [])), .lit (.string (ba [])), .lit (.string (ba [])), .sl .nil [], .sl .nil [], .sl .nil [], .sl .nil []]) := (ha1.get (by first | omega | (simp only [go_sem, simprocAttr]; omega)) (by omega)).trans (by simp only [go_sem, simprocAttr, hg, ghn, rQ, qQ, pQR, pQB, rR, qR, pRQ, pRB, rB, qB, pBQ, pBR])
 have kB1 := ne_thr (a := H.next + 3) (b := H1.next) (by omega)
 obtain ⟨_, hat1, hat2⟩ := need_lt (l := l) (en := en) s [123] (ok_none hf1)
 simp only [go_sem, simprocAttr, hg1, ghn, ghn1, bQ1, kQ1, rQ, qQ, pQR, pQB, bR1, kR1, rR, qR, pRQ, pRB, bB1, kB1, rB, qB, pBQ, pBR]
 refine goC_LC (c_list (s := need l en s [123]) (en := en) hlen (oneProp_ok (l := l) (en := en) (r := r) hlen H H.next (H.next + 3) [(H.next + 1, sZ)]) [125] (by decide) ([], []) hf1 ⟨⟨hr, by omega, by simp only [go_sem, simprocAttr]; omega, by omega, by simp only [go_sem, simprocAttr]; omega, by omega, by simp only [go_sem, simprocAttr, hg1], by simp only [go_sem, simprocAttr, bQ1], ?_, hat2, fun x hx => ?_⟩, by simp, by simp, .nil, .nil, by simp only [go_sem, simprocAttr, cB, bB1, List.map_nil], OwnB.nil _ _ _ _, OwnB.nil _ _ _ _, fun _ _ _ h => by cases h⟩) ?_ ?_
 ·(repeat first | exact Adv.refl _ _ | assumption | refine Adv.trans ?_ ‹Adv _ _ _› | apply Adv.up | apply Adv.put | refine Adv.new ?_ (by omega) _ | refine Adv.live ?_ (by omega) _ | refine Adv.owns ?_ (by omega) (by first | exact OwnB.lo ‹_› | exact fun _ _ _ h => by cases h))
 ·simp only [List.mem_cons, List.not_mem_nil, or_false] at hx
  subst hx
  exact ⟨by simp only; omega, by simp only; omega, by simp only [go_sem, simprocAttr]; omega, by simp only [go_sem, simprocAttr, bR1]⟩
 case refine_4 =>
  intro q hq H2 had
  have hb : (object l en s).1.f = some q := by
   show (protoP l en (propsP l en s).1).1.f = some q
   have hq2 : (propsP l en s).1.f = some q := hq
   rw [protoP_bad (ok_some hq2)]; exact hq2
  rw [outP_some hb]
  simp only [go_sem, simprocAttr, san_trouble]
  exact had
 intro hfo H2 hI2
 obtain ⟨hL, hbn, hba, oA, oP, g2, hA2, hP2, hne⟩ := hI2
 simp only [cB] at g2
 have hg2 : H2.get r = some (cP l en (propsP l en s).1) := hL.gr
 have ha2 := hL.ad
 have hl2 := hL.b1
 have hle2 : (propsP l en s).1.at_ ≤ l.length := hL.le
 have hfo' : (propsP l en s).1.f = none := hfo
 have hba' : (propsP l en s).2.2.length ≤ (propsP l en s).1.at_ := hba
 have hr2 : r < H2.next := by omega
 have ghn2 := ne_all hr2
 have bQ2 : H2.get (H.next) = some ([.ptr r 0]) := hL.gq
 have kQ2 := ne_thr (a := H.next) (b := H2.next) (by omega)
 have bR2 : H2.get (H.next + 1) = some (sZ) := (hL.kk (H.next + 1, sZ) (by simp)).2.2.2
 have kR2 := ne_thr (a := H.next + 1) (b := H2.next) (by omega)
 have bB2 : H2.get (H.next + 3) = some ([.lit (.int .i64 4), .lit (.string (ba [])), .lit (.string (ba [])), .lit (.string (ba [])), .sl oA ((propsP l en s).2.2.map encOpd), .sl oP ((propsP l en s).2.1.map encStr), .sl .nil [], .sl .nil []]) := g2
 have kB2 := ne_thr (a := H.next + 3) (b := H2.next) (by omega)
 simp only [go_sem, simprocAttr, hg2, ghn, ghn2, bQ2, kQ2, rQ, qQ, pQR, pQB, bR2, kR2, rR, qR, pRQ, pRB, bB2, kB2, rB, qB, pBQ, pBR]
 refine goC_out (c_need (s := (propsP l en s).1) (l := l) (en := en) hlen hfo' (by first | omega | (simp only [go_sem, simprocAttr]; omega)) (by first | assumption | simp only [go_sem, simprocAttr, hg2, ghn, ghn2, bQ2, kQ2, rQ, qQ, pQR, pQB, bR2, kR2, rR, qR, pRQ, pRB, bB2, kB2, rB, qB, pBQ, pBR]) [112, 114, 111, 116, 111] (by decide)) ?_ ?_
 case refine_2 =>
  intro q hq H3 had
  have hb : (object l en s).1.f = some q := by
   show (operand l en (need l en (propsP l en s).1 tProto)).1.f = some q
   rw [show need l en (propsP l en s).1 tProto = need l en (propsP l en s).1 [112, 114, 111, 116, 111] from rfl, operand_bad (ok_some hq)]; exact hq
  rw [outP_some hb]
  simp only [go_sem, simprocAttr, san_trouble]
  (repeat first | exact Adv.refl _ _ | assumption | refine Adv.trans ?_ ‹Adv _ _ _› | apply Adv.up | apply Adv.put | refine Adv.new ?_ (by omega) _ | refine Adv.live ?_ (by omega) _ | refine Adv.owns ?_ (by omega) (by first | exact OwnB.lo ‹_› | exact fun _ _ _ h => by cases h))
 intro hf3 H3 hg3 ha3
 have hl3 := ha3.1
 try simp only [go_sem, simprocAttr] at hl3
 have hr3 : r < H3.next := by omega
 have ghn3 := ne_all hr3
 have bQ3 : H3.get (H.next) = some ([.ptr r 0]) := (ha3.get (by first | omega | (simp only [go_sem, simprocAttr]; omega)) (by omega)).trans (by simp only [go_sem, simprocAttr, hg2, ghn, ghn2, bQ2, kQ2, rQ, qQ, pQR, pQB, bR2, kR2, rR, qR, pRQ, pRB, bB2, kB2, rB, qB, pBQ, pBR])
 have kQ3 := ne_thr (a := H.next) (b := H3.next) (by omega)
 have bR3 : H3.get (H.next + 1) = some (sZ) := (ha3.get (by first | omega | (simp only [go_sem, simprocAttr]; omega)) (by omega)).trans (by simp only [go_sem, simprocAttr, hg2, ghn, ghn2, bQ2, kQ2, rQ, qQ, pQR, pQB, bR2, kR2, rR, qR, pRQ, pRB, bB2, kB2, rB, qB, pBQ, pBR])
 have kR3 := ne_thr (a := H.next + 1) (b := H3.next) (by omega)
 have bB3 : H3.get (H.next + 3) = some ([.lit (.int .i64 4), .lit (.string (ba [])), .lit (.string (ba [])), .lit (.string (ba [])), .sl oA ((propsP l en s).2.2.map encOpd), .sl oP ((propsP l en s).2.1.map encStr), .sl .nil [], .sl .nil []]) := (ha3.get (by first | omega | (simp only [go_sem, simprocAttr]; omega)) (by omega)).trans (by simp only [go_sem, simprocAttr, hg2, ghn, ghn2, bQ2, kQ2, rQ, qQ, pQR, pQB, bR2, kR2, rR, qR, pRQ, pRB, bB2, kB2, rB, qB, pBQ, pBR])
 have kB3 := ne_thr (a := H.next + 3) (b := H3.next) (by omega)
 have hA3 := (hA2.up 2).adv ha3 hr
 have hf3' : (need l en (propsP l en s).1 [112, 114, 111, 116, 111]).f = none := hf3
 simp only [go_sem, simprocAttr, hg3, ghn, ghn3, bQ3, kQ3, rQ, qQ, pQR, pQB, bR3, kR3, rR, qR, pRQ, pRB, bB3, kB3, rB, qB, pBQ, pBR]
 refine W_drawE [(1, 2), (1, 3)] [[1, 5, 6, 7], [5, 6, 7], [3, 4, 5, 6, 7], [4, 5, 6, 7], [5, 6, 7], [6, 7], [7], []] (by kernel_rfl) ?_
 simp only [go_sem, simprocAttr, hg3, ghn, ghn3, bQ3, kQ3, rQ, qQ, pQR, pQB, bR3, kR3, rR, qR, pRQ, pRB, bB3, kB3, rB, qB, pBQ, pBR]
 refine eK_out rfl (c_operand (s := need l en (propsP l en s).1 [112, 114, 111, 116, 111]) (l := l) (en := en) hlen hf3 (by first | omega | (simp only [go_sem, simprocAttr]; omega)) (by first | assumption | simp only [go_sem, simprocAttr, hg3, ghn, ghn3, bQ3, kQ3, rQ, qQ, pQR, pQB, bR3, kR3, rR, qR, pRQ, pRB, bB3, kB3, rB, qB, pBQ, pBR])) ?_ ?_
 case refine_2 =>
  intro q hq H4 had
  have hb : (object l en s).1.f = some q := hq
  rw [outP_some hb]
  simp only [go_sem, simprocAttr, san_trouble]
  (repeat first | exact Adv.refl _ _ | assumption | refine Adv.trans ?_ ‹Adv _ _ _› | apply Adv.up | apply Adv.put | refine Adv.new ?_ (by omega) _ | refine Adv.live ?_ (by omega) _ | refine Adv.owns ?_ (by omega) (by first | exact OwnB.lo ‹_› | exact fun _ _ _ h => by cases h))
 intro hf4 H4 hg4 ha4
 have hl4 := ha4.1
 try simp only [go_sem, simprocAttr] at hl4
 have hr4 : r < H4.next := by omega
 have ghn4 := ne_all hr4
 have bQ4 : H4.get (H.next) = some ([.ptr r 0]) := (ha4.get (by first | omega | (simp only [go_sem, simprocAttr]; omega)) (by omega)).trans (by simp only [go_sem, simprocAttr, hg3, ghn, ghn3, bQ3, kQ3, rQ, qQ, pQR, pQB, bR3, kR3, rR, qR, pRQ, pRB, bB3, kB3, rB, qB, pBQ, pBR])
 have kQ4 := ne_thr (a := H.next) (b := H4.next) (by omega)
 have bR4 : H4.get (H.next + 1) = some (sZ) := (ha4.get (by first | omega | (simp only [go_sem, simprocAttr]; omega)) (by omega)).trans (by simp only [go_sem, simprocAttr, hg3, ghn, ghn3, bQ3, kQ3, rQ, qQ, pQR, pQB, bR3, kR3, rR, qR, pRQ, pRB, bB3, kB3, rB, qB, pBQ, pBR])
 have kR4 := ne_thr (a := H.next + 1) (b := H4.next) (by omega)
 have bB4 : H4.get (H.next + 3) = some ([.lit (.int .i64 4), .lit (.string (ba [])), .lit (.string (ba [])), .lit (.string (ba [])), .sl oA ((propsP l en s).2.2.map encOpd), .sl oP ((propsP l en s).2.1.map encStr), .sl .nil [], .sl .nil []]) := (ha4.get (by first | omega | (simp only [go_sem, simprocAttr]; omega)) (by omega)).trans (by simp only [go_sem, simprocAttr, hg3, ghn, ghn3, bQ3, kQ3, rQ, qQ, pQR, pQB, bR3, kR3, rR, qR, pRQ, pRB, bB3, kB3, rB, qB, pBQ, pBR])
 have kB4 := ne_thr (a := H.next + 3) (b := H4.next) (by omega)
 have hk4 : Keeps (H3.up 8) H4 (H.next + 3) := ha4.keeps (by simp only [go_sem, simprocAttr]; omega) (by omega)
 have hA4 := (hA3.up 8).adv ha4 hr
 have hoA := hA4.appOk (propsP l en s).2.2.length
 have hap := fun o x H id h => app_opd hlen (acc := (propsP l en s).2.2) (by omega) o x H id h
 have hf4' : (object l en s).1.f = none := hf4
 rw [outP_none hf4']
 have tail : ∀ o, ([.lit (.int .i64 4), .lit (.string (ba [])), .lit (.string (ba [])), .lit (.string (ba [])), .sl .sh (((propsP l en s).2.2 ++ [o]).map encOpd), .sl .sh ((propsP l en s).2.1.map encStr), .sl .sh [], .sl .sh []] : List AV) = encStmt (.mk 4 [] [] [] ((propsP l en s).2.2 ++ [o]) (propsP l en s).2.1 [] []) := fun o => by simp only [encStmt, encStmts] <;> rfl
 have hlo := hA4.lo
 have eO : object l en s = ((operand l en (need l en (propsP l en s).1 [112, 114, 111, 116, 111])).1, .mk 4 [] [] [] ((propsP l en s).2.2 ++ [(operand l en (need l en (propsP l en s).1 [112, 114, 111, 116, 111])).2]) (propsP l en s).2.1 [] []) := rfl
 rw [eO]
 simp only [go_sem, simprocAttr, hg4, ghn, ghn4, bQ4, kQ4, rQ, qQ, pQR, pQB, bR4, kR4, rR, qR, pRQ, pRB, bB4, kB4, rB, qB, pBQ, pBR, rs, hk4, hap, hoA, sanLL_encOpd, sanLL_encStr, tail]
 (repeat first | exact Adv.refl _ _ | assumption | refine Adv.trans ?_ ‹Adv _ _ _› | apply Adv.up | apply Adv.put | refine Adv.new ?_ (by omega) _ | refine Adv.live ?_ (by omega) _ | refine Adv.owns ?_ (by omega) (by first | exact hlo | exact fun _ _ _ h => by cases h))
end
end Go.Proofs.YtghhkbigmmjanaaGreatDoor.VA

/-! Pe8 -/
namespace Go.Proofs.YtghhkbigmmjanaaGreatDoor.VA
open Go Go.RowKit
attribute [local go_sem] Nat.add_eq_left Nat.left_eq_add true_and and_true ite_true if_false Int.cast_ofNat_Int eq_self Nat.add_assoc Option.some.injEq decide_true decide_false Bool.not_true Bool.not_false List.size_toArray List.length_cons List.length_nil
set_option linter.unusedSimpArgs false
set_option maxRecDepth 100000

section
variable {l : List GTok} {en : Int} {r : Nat} {s : PS} {H : Heap}
theorem app_ex1 (o p : Opd) (H : Heap) (id : Nat) : aAppend Tryz.prog 36 (.sl .ex [encOpd o]) (.sl .ex [encOpd p]) H id = some (.sl (.own id 50 3) [encOpd o, encOpd p], [.live id true], []) := by
 simp only [aAppend, el_sOpd, encOpd]
 rw [if_pos ⟨rfl, by decide, zo_sOpd, by simp, by simp⟩]
 simp [firstLen, sanLL, sanL, san]
theorem signIx {i : Nat} (h : i < 5) : iad (some (9, 1, 16)) (.sl .ex (arith.map encStr)) (some i) = some (.ep (encStr (arith.getD i []))) := iad_encStr (l := arith) h
theorem sign_ne (i : Nat) (h : i < 5) : arith.getD i [] ≠ [] := by
 match i with
 | 0 => decide
 | 1 => decide
 | 2 => decide
 | 3 => decide
 | 4 => decide
set_option maxRecDepth 20000 in
theorem c_value (hlen : l.length ≤ LM) (hf : s.f = none) (hr : r < H.next) (hg : H.get r = some (cP l en s)) :
  PCall Tryz.prog cfg r 123 [.ptr r 0] H (outP l en (value l en s).1 (.agg (encStmt (value l en s).2))) := by
 obtain ⟨q1, q2, hq⟩ : ∃ q1 q2, value l en s = (q1, q2) := ⟨_, _, rfl⟩
 rw [hq]
 show PCall _ _ _ _ _ _ (outP l en q1 (.agg (encStmt q2)))
 refine PCall_of' (fn := Tryz.f123) rfl rfl rfl rfl rfl ?_
 have rs : Tryz.f123.results.toList = [.cell 2 40] := rfl
 have eM := encStmt_mk
 have ghn := ne_all hr
 unfold value at hq
 simp only [go_sem, simprocAttr]
 have rR : (H.next = r) = False := eq_false (by omega)
 have qR : (r = H.next) = False := eq_false (by omega)
 cases h1 : isT l s [105, 110] with
 | true =>
  rw [show isT l s tIn = true from h1] at hq
  cases hq
  rw [outP_none (show s.adv.f = none from hf)]
  refine goC_ok (c_take_yes (s := s) (l := l) (en := en) hlen hf (by first | omega | (simp only [go_sem, simprocAttr]; omega)) (by first | assumption | simp only [go_sem, simprocAttr, hg, ghn, rR, qR]) (by decide) h1) ?_
  intro H1 hg1 ha1
  have hl1 := ha1.1
  try simp only [go_sem, simprocAttr] at hl1
  have hr1 : r < H1.next := by omega
  have ghn1 := ne_all hr1
  have bR1 : H1.get (H.next) = some (sZ) := (ha1.get (by first | omega | (simp only [go_sem, simprocAttr]; omega)) (by omega)).trans (by simp only [go_sem, simprocAttr, hg, ghn, rR, qR])
  have kR1 := ne_thr (a := H.next) (b := H1.next) (by omega)
  simp only [go_sem, simprocAttr, hg1, ghn, ghn1, bR1, kR1, rR, qR, rs, eM, List.map_nil]
  (repeat first | exact Adv.refl _ _ | assumption | refine Adv.trans ?_ ‹Adv _ _ _› | apply Adv.up | apply Adv.put | refine Adv.new ?_ (by omega) _ | refine Adv.live ?_ (by omega) _ | refine Adv.owns ?_ (by omega) (by first | exact OwnB.lo ‹_› | exact fun _ _ _ h => by cases h))
 | false =>
 rw [show isT l s tIn = false from h1] at hq
 simp only at hq
 refine goC_ok (c_take_no (s := s) (l := l) (en := en) hlen hf (by first | omega | (simp only [go_sem, simprocAttr]; omega)) (by first | assumption | simp only [go_sem, simprocAttr, hg, ghn, rR, qR]) (by decide) h1) ?_
 intro H1 hg1 ha1
 have hl1 := ha1.1
 try simp only [go_sem, simprocAttr] at hl1
 have hr1 : r < H1.next := by omega
 have ghn1 := ne_all hr1
 have bR1 : H1.get (H.next) = some (sZ) := (ha1.get (by first | omega | (simp only [go_sem, simprocAttr]; omega)) (by omega)).trans (by simp only [go_sem, simprocAttr, hg, ghn, rR, qR])
 have kR1 := ne_thr (a := H.next) (b := H1.next) (by omega)
 simp only [go_sem, simprocAttr, hg1, ghn, ghn1, bR1, kR1, rR, qR]
 cases h2 : isT l s [99, 97, 108, 108] with
 | true =>
  rw [show isT l s tCall = true from h2] at hq
  cases hq
  refine goC_ok (c_take_yes (s := s) (l := l) (en := en) hlen hf (by first | omega | (simp only [go_sem, simprocAttr]; omega)) (by first | assumption | simp only [go_sem, simprocAttr, hg1, ghn, ghn1, bR1, kR1, rR, qR]) (by decide) h2) ?_
  intro H2 hg2 ha2
  have hl2 := ha2.1
  try simp only [go_sem, simprocAttr] at hl2
  have hr2 : r < H2.next := by omega
  have ghn2 := ne_all hr2
  have bR2 : H2.get (H.next) = some (sZ) := (ha2.get (by first | omega | (simp only [go_sem, simprocAttr]; omega)) (by omega)).trans (by simp only [go_sem, simprocAttr, hg1, ghn, ghn1, bR1, kR1, rR, qR])
  have kR2 := ne_thr (a := H.next) (b := H2.next) (by omega)
  simp only [go_sem, simprocAttr, hg2, ghn, ghn2, bR2, kR2, rR, qR]
  refine goC_out (c_name (s := s.adv) (l := l) (en := en) hlen hf (by first | omega | (simp only [go_sem, simprocAttr]; omega)) (by first | assumption | simp only [go_sem, simprocAttr, hg2, ghn, ghn2, bR2, kR2, rR, qR])) ?_ ?_
  case refine_2 =>
   intro q hq H9 had
   rw [outP_some (show (args l en (nameP l en s.adv).1).1.f = some q by rw [args_bad (ok_some hq)]; exact hq)]
   simp only [go_sem, simprocAttr, san_trouble]
   (repeat first | exact Adv.refl _ _ | assumption | refine Adv.trans ?_ ‹Adv _ _ _› | apply Adv.up | apply Adv.put | refine Adv.new ?_ (by omega) _ | refine Adv.live ?_ (by omega) _ | refine Adv.owns ?_ (by omega) (by first | exact OwnB.lo ‹_› | exact fun _ _ _ h => by cases h))
  intro hf3 H3 hg3 ha3
  have hl3 := ha3.1
  try simp only [go_sem, simprocAttr] at hl3
  have hr3 : r < H3.next := by omega
  have ghn3 := ne_all hr3
  have bR3 : H3.get (H.next) = some (sZ) := (ha3.get (by first | omega | (simp only [go_sem, simprocAttr]; omega)) (by omega)).trans (by simp only [go_sem, simprocAttr, hg2, ghn, ghn2, bR2, kR2, rR, qR])
  have kR3 := ne_thr (a := H.next) (b := H3.next) (by omega)
  have pSR : (H2.next + 3 = H.next) = False := eq_false (by omega)
  have pRS : (H.next = H2.next + 3) = False := eq_false (by omega)
  have rS : (H2.next + 3 = r) = False := eq_false (by omega)
  have qS : (r = H2.next + 3) = False := eq_false (by omega)
  simp only [go_sem, simprocAttr, hg3, ghn, ghn3, bR3, kR3, rR, qR, pRS, rS, qS, pSR]
  refine goC_out (c_args (s := (nameP l en s.adv).1) (l := l) (en := en) hlen hf3 (by first | omega | (simp only [go_sem, simprocAttr]; omega)) (by first | assumption | simp only [go_sem, simprocAttr, hg3, ghn, ghn3, bR3, kR3, rR, qR, pRS, rS, qS, pSR])) ?_ ?_
  case refine_2 =>
   intro q hq H9 had
   rw [outP_some (show (args l en (nameP l en s.adv).1).1.f = some q by exact hq)]
   simp only [go_sem, simprocAttr, san_trouble]
   (repeat first | exact Adv.refl _ _ | assumption | refine Adv.trans ?_ ‹Adv _ _ _› | apply Adv.up | apply Adv.put | refine Adv.new ?_ (by omega) _ | refine Adv.live ?_ (by omega) _ | refine Adv.owns ?_ (by omega) (by first | exact OwnB.lo ‹_› | exact fun _ _ _ h => by cases h))
  intro hf4 H4 hg4 ha4
  have hl4 := ha4.1
  try simp only [go_sem, simprocAttr] at hl4
  have hr4 : r < H4.next := by omega
  have ghn4 := ne_all hr4
  have bR4 : H4.get (H.next) = some (sZ) := (ha4.get (by first | omega | (simp only [go_sem, simprocAttr]; omega)) (by omega)).trans (by simp only [go_sem, simprocAttr, hg3, ghn, ghn3, bR3, kR3, rR, qR, pRS, rS, qS, pSR])
  have kR4 := ne_thr (a := H.next) (b := H4.next) (by omega)
  have bS4 : H4.get (H2.next + 3) = some ([.lit (.int .i64 5), .lit (.string (ba [])), .lit (.string (ba [])), .lit (.string (ba (nameP l en s.adv).2)), .sl .nil [], .sl .nil [], .sl .nil [], .sl .nil []]) := (ha4.get (by first | omega | (simp only [go_sem, simprocAttr]; omega)) (by omega)).trans (by simp only [go_sem, simprocAttr, hg3, ghn, ghn3, bR3, kR3, rR, qR, pRS, rS, qS, pSR])
  have kS4 := ne_thr (a := H2.next + 3) (b := H4.next) (by omega)
  rw [outP_none hf4]
  simp only [go_sem, simprocAttr, hg4, ghn, ghn4, bR4, kR4, rR, qR, pRS, bS4, kS4, rS, qS, pSR, rs, eM, List.map_nil]
  (repeat first | exact Adv.refl _ _ | assumption | refine Adv.trans ?_ ‹Adv _ _ _› | apply Adv.up | apply Adv.put | refine Adv.new ?_ (by omega) _ | refine Adv.live ?_ (by omega) _ | refine Adv.owns ?_ (by omega) (by first | exact OwnB.lo ‹_› | exact fun _ _ _ h => by cases h))
 | false =>
 rw [show isT l s tCall = false from h2] at hq
 simp only at hq
 refine goC_ok (c_take_no (s := s) (l := l) (en := en) hlen hf (by first | omega | (simp only [go_sem, simprocAttr]; omega)) (by first | assumption | simp only [go_sem, simprocAttr, hg1, ghn, ghn1, bR1, kR1, rR, qR]) (by decide) h2) ?_
 intro H2 hg2 ha2
 have hl2 := ha2.1
 try simp only [go_sem, simprocAttr] at hl2
 have hr2 : r < H2.next := by omega
 have ghn2 := ne_all hr2
 have bR2 : H2.get (H.next) = some (sZ) := (ha2.get (by first | omega | (simp only [go_sem, simprocAttr]; omega)) (by omega)).trans (by simp only [go_sem, simprocAttr, hg1, ghn, ghn1, bR1, kR1, rR, qR])
 have kR2 := ne_thr (a := H.next) (b := H2.next) (by omega)
 simp only [go_sem, simprocAttr, hg2, ghn, ghn2, bR2, kR2, rR, qR]
 cases h3 : isT l s [110, 101, 119] with
 | true =>
  rw [show isT l s tNew = true from h3] at hq
  simp only at hq
  have hq1 : q1 = (object l en s.adv).1 := by rw [hq]
  have hq2 : q2 = (object l en s.adv).2 := by rw [hq]
  subst hq1
  subst hq2
  refine goC_ok (c_take_yes (s := s) (l := l) (en := en) hlen hf (by first | omega | (simp only [go_sem, simprocAttr]; omega)) (by first | assumption | simp only [go_sem, simprocAttr, hg2, ghn, ghn2, bR2, kR2, rR, qR]) (by decide) h3) ?_
  intro H3 hg3 ha3
  have hl3 := ha3.1
  try simp only [go_sem, simprocAttr] at hl3
  have hr3 : r < H3.next := by omega
  have ghn3 := ne_all hr3
  have bR3 : H3.get (H.next) = some (sZ) := (ha3.get (by first | omega | (simp only [go_sem, simprocAttr]; omega)) (by omega)).trans (by simp only [go_sem, simprocAttr, hg2, ghn, ghn2, bR2, kR2, rR, qR])
  have kR3 := ne_thr (a := H.next) (b := H3.next) (by omega)
  simp only [go_sem, simprocAttr, hg3, ghn, ghn3, bR3, kR3, rR, qR]
  refine goC_out (c_object (s := s.adv) (l := l) (en := en) hlen hf (by first | omega | (simp only [go_sem, simprocAttr]; omega)) (by first | assumption | simp only [go_sem, simprocAttr, hg3, ghn, ghn3, bR3, kR3, rR, qR])) ?_ ?_
  case refine_2 =>
   intro q hq H9 had
   rw [outP_some (show (object l en s.adv).1.f = some q by exact hq)]
   simp only [go_sem, simprocAttr, san_trouble]
   (repeat first | exact Adv.refl _ _ | assumption | refine Adv.trans ?_ ‹Adv _ _ _› | apply Adv.up | apply Adv.put | refine Adv.new ?_ (by omega) _ | refine Adv.live ?_ (by omega) _ | refine Adv.owns ?_ (by omega) (by first | exact OwnB.lo ‹_› | exact fun _ _ _ h => by cases h))
  intro hf4 H4 hg4 ha4
  have hl4 := ha4.1
  try simp only [go_sem, simprocAttr] at hl4
  have hr4 : r < H4.next := by omega
  have ghn4 := ne_all hr4
  have bR4 : H4.get (H.next) = some (sZ) := (ha4.get (by first | omega | (simp only [go_sem, simprocAttr]; omega)) (by omega)).trans (by simp only [go_sem, simprocAttr, hg3, ghn, ghn3, bR3, kR3, rR, qR])
  have kR4 := ne_thr (a := H.next) (b := H4.next) (by omega)
  rw [outP_none hf4]
  simp only [go_sem, simprocAttr, hg4, ghn, ghn4, bR4, kR4, rR, qR, rs]
  (repeat first | exact Adv.refl _ _ | assumption | refine Adv.trans ?_ ‹Adv _ _ _› | apply Adv.up | apply Adv.put | refine Adv.new ?_ (by omega) _ | refine Adv.live ?_ (by omega) _ | refine Adv.owns ?_ (by omega) (by first | exact OwnB.lo ‹_› | exact fun _ _ _ h => by cases h))
 | false =>
 rw [show isT l s tNew = false from h3] at hq
 simp only at hq
 refine goC_ok (c_take_no (s := s) (l := l) (en := en) hlen hf (by first | omega | (simp only [go_sem, simprocAttr]; omega)) (by first | assumption | simp only [go_sem, simprocAttr, hg2, ghn, ghn2, bR2, kR2, rR, qR]) (by decide) h3) ?_
 intro H3 hg3 ha3
 have hl3 := ha3.1
 try simp only [go_sem, simprocAttr] at hl3
 have hr3 : r < H3.next := by omega
 have ghn3 := ne_all hr3
 have bR3 : H3.get (H.next) = some (sZ) := (ha3.get (by first | omega | (simp only [go_sem, simprocAttr]; omega)) (by omega)).trans (by simp only [go_sem, simprocAttr, hg2, ghn, ghn2, bR2, kR2, rR, qR])
 have kR3 := ne_thr (a := H.next) (b := H3.next) (by omega)
 simp only [go_sem, simprocAttr, hg3, ghn, ghn3, bR3, kR3, rR, qR]
 refine goC_out (c_operand (s := s) (l := l) (en := en) hlen hf (by first | omega | (simp only [go_sem, simprocAttr]; omega)) (by first | assumption | simp only [go_sem, simprocAttr, hg3, ghn, ghn3, bR3, kR3, rR, qR])) ?_ ?_
 case refine_2 =>
  intro q hq9 H9 had
  rw [outP_some (show q1.f = some q by rw [show q1 = (rest l en (operand l en s).1 (operand l en s).2).1 by rw [hq], rest_bad (ok_some hq9)]; exact hq9)]
  simp only [go_sem, simprocAttr, san_trouble]
  (repeat first | exact Adv.refl _ _ | assumption | refine Adv.trans ?_ ‹Adv _ _ _› | apply Adv.up | apply Adv.put | refine Adv.new ?_ (by omega) _ | refine Adv.live ?_ (by omega) _ | refine Adv.owns ?_ (by omega) (by first | exact OwnB.lo ‹_› | exact fun _ _ _ h => by cases h))
 intro hf4 H4 hg4 ha4
 have hl4 := ha4.1
 try simp only [go_sem, simprocAttr] at hl4
 have hr4 : r < H4.next := by omega
 have ghn4 := ne_all hr4
 have bR4 : H4.get (H.next) = some (sZ) := (ha4.get (by first | omega | (simp only [go_sem, simprocAttr]; omega)) (by omega)).trans (by simp only [go_sem, simprocAttr, hg3, ghn, ghn3, bR3, kR3, rR, qR])
 have kR4 := ne_thr (a := H.next) (b := H4.next) (by omega)
 have hlo := operand_lt (l := l) (en := en) s (ok_none hf4)
 generalize (operand l en s).1 = a at hq hf4 hg4 hlo
 generalize (operand l en s).2 = o at hq
 have pOR : (H3.next + 2 = H.next) = False := eq_false (by omega)
 have pRO : (H.next = H3.next + 2) = False := eq_false (by omega)
 have rO : (H3.next + 2 = r) = False := eq_false (by omega)
 have qO : (r = H3.next + 2) = False := eq_false (by omega)
 have pSR : (H4.next + 3 = H.next) = False := eq_false (by omega)
 have pRS : (H.next = H4.next + 3) = False := eq_false (by omega)
 have pSO : (H4.next + 3 = H3.next + 2) = False := eq_false (by omega)
 have pOS : (H3.next + 2 = H4.next + 3) = False := eq_false (by omega)
 have rS : (H4.next + 3 = r) = False := eq_false (by omega)
 have qS : (r = H4.next + 3) = False := eq_false (by omega)
 simp only [go_sem, simprocAttr, hg4, ghn, ghn4, bR4, kR4, rR, qR, pRO, pRS, rO, qO, pOR, pOS, rS, qS, pSR, pSO, signsB]
 refine W_loop_ind (fun n e H20 => ∃ i : Nat, n = 5 - i ∧ i ≤ 5 ∧ (∀ j, j < i → isT l a (arith.getD j []) = false) ∧ gget .bad e 0 = .ptr r 0 ∧ gget .bad e 2 = .ptr H.next 0 ∧ gget .bad e 4 = .ptr (H3.next + 2) 0 ∧ gget .bad e 5 = .ptr (H4.next + 3) 0 ∧
   gget .bad e 32 = .sl .ex (arith.map encStr) ∧ gget .bad e 33 = .lit (.int .i64 5) ∧ gget .bad e 34 = .lit (.int .i64 (i : Nat)) ∧ H20.get r = some (cP l en a) ∧ H20.get H.next = some sZ ∧ H20.get (H3.next + 2) = some (encOpd o) ∧ H20.get (H4.next + 3) = some [.lit (.int .i64 0), .lit (.string (ba [])), .lit (.string (ba [])), .lit (.string (ba [])), .sl .ex [encOpd o], .sl .nil [], .sl .nil [], .sl .nil []] ∧
   H4.next + 8 ≤ H20.next ∧ Adv r H H20)
  5 ⟨0, rfl, by omega, (fun j hj => by omega), by simp only [go_sem, simprocAttr], by simp only [go_sem, simprocAttr, Nat.add_zero], by simp only [go_sem, simprocAttr], by simp only [go_sem, simprocAttr], by simp only [go_sem, simprocAttr], by simp only [go_sem, simprocAttr, List.length_map] <;> rfl, by simp only [go_sem, simprocAttr] <;> rfl, by simp only [go_sem, simprocAttr, hg4, ghn, ghn4, bR4, kR4, rR, qR, pRO, pRS, rO, qO, pOR, pOS, rS, qS, pSR, pSO], by simp only [go_sem, simprocAttr, hg4, ghn, ghn4, bR4, kR4, rR, qR, pRO, pRS, rO, qO, pOR, pOS, rS, qS, pSR, pSO], by simp only [go_sem, simprocAttr, hg4, ghn, ghn4, bR4, kR4, rR, qR, pRO, pRS, rO, qO, pOR, pOS, rS, qS, pSR, pSO], by simp only [go_sem, simprocAttr, hg4, ghn, ghn4, bR4, kR4, rR, qR, pRO, pRS, rO, qO, pOR, pOS, rS, qS, pSR, pSO], by simp only [go_sem, simprocAttr]; omega, by (repeat first | exact Adv.refl _ _ | assumption | refine Adv.trans ?_ ‹Adv _ _ _› | apply Adv.up | apply Adv.put | refine Adv.new ?_ (by omega) _ | refine Adv.live ?_ (by omega) _ | refine Adv.owns ?_ (by omega) (by first | exact OwnB.lo ‹_› | exact fun _ _ _ h => by cases h))⟩ ?_
 rintro n ih e H20 ⟨i, rfl, hi5, hno, g0, g2, g4, g5, g32, g33, g34, hg20, bR20, bO20, bS20, hl20, ha20⟩
 have hr20 : r < H20.next := by omega
 have ghn20 := ne_all hr20
 have kR20 := ne_thr (a := H.next) (b := H20.next) (by omega)
 have kO20 := ne_thr (a := H3.next + 2) (b := H20.next) (by omega)
 have kS20 := ne_thr (a := H4.next + 3) (b := H20.next) (by omega)
 by_cases hi : i < 5
 ·have hi' : decide ((i : Int) < 5) = true := by simp; omega
  have hix := signIx hi
  have hne := sign_ne i hi
  have hdr := signOf_drop (l := l) (s := a) arith i hno
  rw [drop_cons' [] (show i < arith.length from hi)] at hdr
  generalize ht : arith.getD i [] = t at hix hdr hne
  have hw1 := wrap1 (show i + 1 ≤ 9223372036854775807 by omega)
  simp only [go_sem, simprocAttr, hg20, ghn, ghn20, bR20, kR20, rR, qR, pRO, pRS, bO20, kO20, rO, qO, pOR, pOS, bS20, kS20, rS, qS, pSR, pSO, g0, g2, g4, g5, g32, g33, g34, hi', hix, encStr]
  cases h : isT l a t with
  | true =>
   have hs : signOf l a arith = some t := by rw [← hdr]; simp only [signOf, h]
   simp only [rest, hs] at hq
   cases hq
   refine goC_ok (c_take_yes (s := a) (l := l) (en := en) hlen hf4 (by first | omega | (simp only [go_sem, simprocAttr]; omega)) (by first | assumption | simp only [go_sem, simprocAttr, hg20, ghn, ghn20, bR20, kR20, rR, qR, pRO, pRS, bO20, kO20, rO, qO, pOR, pOS, bS20, kS20, rS, qS, pSR, pSO]) hne h) ?_
   intro H21 hg21 ha21
   have hl21 := ha21.1
   simp only [go_sem, simprocAttr] at hl21
   have hr21 : r < H21.next := by omega
   have ghn21 := ne_all hr21
   have bR21 : H21.get (H.next) = some (sZ) := (ha21.get (by simp only [go_sem, simprocAttr]; omega) (by omega)).trans (by simp only [go_sem, simprocAttr, hg20, ghn, ghn20, bR20, kR20, rR, qR, pRO, pRS, bO20, kO20, rO, qO, pOR, pOS, bS20, kS20, rS, qS, pSR, pSO])
   have kR21 := ne_thr (a := H.next) (b := H21.next) (by omega)
   have bO21 : H21.get (H3.next + 2) = some (encOpd o) := (ha21.get (by simp only [go_sem, simprocAttr]; omega) (by omega)).trans (by simp only [go_sem, simprocAttr, hg20, ghn, ghn20, bR20, kR20, rR, qR, pRO, pRS, bO20, kO20, rO, qO, pOR, pOS, bS20, kS20, rS, qS, pSR, pSO])
   have kO21 := ne_thr (a := H3.next + 2) (b := H21.next) (by omega)
   have bS21 : H21.get (H4.next + 3) = some ([.lit (.int .i64 0), .lit (.string (ba [])), .lit (.string (ba [])), .lit (.string (ba [])), .sl .ex [encOpd o], .sl .nil [], .sl .nil [], .sl .nil []]) := (ha21.get (by simp only [go_sem, simprocAttr]; omega) (by omega)).trans (by simp only [go_sem, simprocAttr, hg20, ghn, ghn20, bR20, kR20, rR, qR, pRO, pRS, bO20, kO20, rO, qO, pOR, pOS, bS20, kS20, rS, qS, pSR, pSO])
   have kS21 := ne_thr (a := H4.next + 3) (b := H21.next) (by omega)
   simp only [go_sem, simprocAttr, hg21, ghn, ghn21, bR21, kR21, rR, qR, pRO, pRS, bO21, kO21, rO, qO, pOR, pOS, bS21, kS21, rS, qS, pSR, pSO, g0, g2, g4, g5, g32, g33, g34]
   refine W_drawE [(1, 3)] [[1, 5, 6, 7], [5, 6, 7], [3, 4, 5, 6, 7], [4, 5, 6, 7], [5, 6, 7], [6, 7], [7], []] (by kernel_rfl) ?_
   simp only [go_sem, simprocAttr, hg21, ghn, ghn21, bR21, kR21, rR, qR, pRO, pRS, bO21, kO21, rO, qO, pOR, pOS, bS21, kS21, rS, qS, pSR, pSO, g0, g2, g4, g5, g32, g33, g34]
   refine eK_out rfl (c_operand (s := a.adv) (l := l) (en := en) hlen hf4 (by first | omega | (simp only [go_sem, simprocAttr]; omega)) (by first | assumption | simp only [go_sem, simprocAttr, hg21, ghn, ghn21, bR21, kR21, rR, qR, pRO, pRS, bO21, kO21, rO, qO, pOR, pOS, bS21, kS21, rS, qS, pSR, pSO])) ?_ ?_
   case refine_2 =>
    intro q hq H9 had
    rw [outP_some hq]
    simp only [go_sem, simprocAttr, san_trouble]
    (repeat first | exact Adv.refl _ _ | assumption | refine Adv.trans ?_ ‹Adv _ _ _› | apply Adv.up | apply Adv.put | refine Adv.new ?_ (by omega) _ | refine Adv.live ?_ (by omega) _ | refine Adv.owns ?_ (by omega) (by first | exact OwnB.lo ‹_› | exact fun _ _ _ h => by cases h))
   intro hf5 H22 hg22 ha22
   have hl22 := ha22.1
   simp only [go_sem, simprocAttr] at hl22
   have hr22 : r < H22.next := by omega
   have ghn22 := ne_all hr22
   have bR22 : H22.get (H.next) = some (sZ) := (ha22.get (by simp only [go_sem, simprocAttr]; omega) (by omega)).trans (by simp only [go_sem, simprocAttr, hg21, ghn, ghn21, bR21, kR21, rR, qR, pRO, pRS, bO21, kO21, rO, qO, pOR, pOS, bS21, kS21, rS, qS, pSR, pSO])
   have kR22 := ne_thr (a := H.next) (b := H22.next) (by omega)
   have bO22 : H22.get (H3.next + 2) = some (encOpd o) := (ha22.get (by simp only [go_sem, simprocAttr]; omega) (by omega)).trans (by simp only [go_sem, simprocAttr, hg21, ghn, ghn21, bR21, kR21, rR, qR, pRO, pRS, bO21, kO21, rO, qO, pOR, pOS, bS21, kS21, rS, qS, pSR, pSO])
   have kO22 := ne_thr (a := H3.next + 2) (b := H22.next) (by omega)
   have bS22 : H22.get (H4.next + 3) = some ([.lit (.int .i64 1), .lit (.string (ba [])), .lit (.string (ba [])), .lit (.string (ba t)), .sl .ex [encOpd o], .sl .nil [], .sl .nil [], .sl .nil []]) := (ha22.get (by simp only [go_sem, simprocAttr]; omega) (by omega)).trans (by simp only [go_sem, simprocAttr, hg21, ghn, ghn21, bR21, kR21, rR, qR, pRO, pRS, bO21, kO21, rO, qO, pOR, pOS, bS21, kS21, rS, qS, pSR, pSO])
   have kS22 := ne_thr (a := H4.next + 3) (b := H22.next) (by omega)
   have hkeep := ha22.keeps (k := H4.next + 3) (by simp only [go_sem, simprocAttr]; omega) (by omega)
   rw [outP_none hf5]
   simp only [go_sem, simprocAttr, hg22, ghn, ghn22, bR22, kR22, rR, qR, pRO, pRS, bO22, kO22, rO, qO, pOR, pOS, bS22, kS22, rS, qS, pSR, pSO, rs, app_ex1, hkeep, g0, g2, g4, g5, g32, g33, g34, eM, List.map_cons, List.map_nil]
   (repeat first | exact Adv.refl _ _ | assumption | refine Adv.trans ?_ ‹Adv _ _ _› | apply Adv.up | apply Adv.put | refine Adv.new ?_ (by omega) _ | refine Adv.live ?_ (by omega) _ | refine Adv.owns ?_ (by omega) (by first | exact OwnB.lo ‹_› | exact fun _ _ _ h => by cases h))
  | false =>
   refine goC_ok (c_take_no (s := a) (l := l) (en := en) hlen hf4 (by first | omega | (simp only [go_sem, simprocAttr]; omega)) (by first | assumption | simp only [go_sem, simprocAttr, hg20, ghn, ghn20, bR20, kR20, rR, qR, pRO, pRS, bO20, kO20, rO, qO, pOR, pOS, bS20, kS20, rS, qS, pSR, pSO]) hne h) ?_
   intro H21 hg21 ha21
   have hl21 := ha21.1
   simp only [go_sem, simprocAttr] at hl21
   have hr21 : r < H21.next := by omega
   have ghn21 := ne_all hr21
   have bR21 : H21.get (H.next) = some (sZ) := (ha21.get (by simp only [go_sem, simprocAttr]; omega) (by omega)).trans (by simp only [go_sem, simprocAttr, hg20, ghn, ghn20, bR20, kR20, rR, qR, pRO, pRS, bO20, kO20, rO, qO, pOR, pOS, bS20, kS20, rS, qS, pSR, pSO])
   have kR21 := ne_thr (a := H.next) (b := H21.next) (by omega)
   have bO21 : H21.get (H3.next + 2) = some (encOpd o) := (ha21.get (by simp only [go_sem, simprocAttr]; omega) (by omega)).trans (by simp only [go_sem, simprocAttr, hg20, ghn, ghn20, bR20, kR20, rR, qR, pRO, pRS, bO20, kO20, rO, qO, pOR, pOS, bS20, kS20, rS, qS, pSR, pSO])
   have kO21 := ne_thr (a := H3.next + 2) (b := H21.next) (by omega)
   have bS21 : H21.get (H4.next + 3) = some ([.lit (.int .i64 0), .lit (.string (ba [])), .lit (.string (ba [])), .lit (.string (ba [])), .sl .ex [encOpd o], .sl .nil [], .sl .nil [], .sl .nil []]) := (ha21.get (by simp only [go_sem, simprocAttr]; omega) (by omega)).trans (by simp only [go_sem, simprocAttr, hg20, ghn, ghn20, bR20, kR20, rR, qR, pRO, pRS, bO20, kO20, rO, qO, pOR, pOS, bS20, kS20, rS, qS, pSR, pSO])
   have kS21 := ne_thr (a := H4.next + 3) (b := H21.next) (by omega)
   simp only [go_sem, simprocAttr, hg21, ghn, ghn21, bR21, kR21, rR, qR, pRO, pRS, bO21, kO21, rO, qO, pOR, pOS, bS21, kS21, rS, qS, pSR, pSO, g0, g2, g4, g5, g32, g33, g34, hw1]
   exact ih (5 - (i + 1)) (by omega) _ _ ⟨i + 1, rfl, by omega, fun j hj => by
     by_cases hji : j = i
     ·subst hji; rw [ht]; exact h
     ·exact hno j (by omega),
    by simp only [go_sem, simprocAttr, g0], by simp only [go_sem, simprocAttr, g2], by simp only [go_sem, simprocAttr, g4], by simp only [go_sem, simprocAttr, g5], by simp only [go_sem, simprocAttr, g32], by simp only [go_sem, simprocAttr, g33], by simp only [go_sem, simprocAttr], by simp only [go_sem, simprocAttr, hg21, ghn, ghn21, bR21, kR21, rR, qR, pRO, pRS, bO21, kO21, rO, qO, pOR, pOS, bS21, kS21, rS, qS, pSR, pSO], by simp only [go_sem, simprocAttr, hg21, ghn, ghn21, bR21, kR21, rR, qR, pRO, pRS, bO21, kO21, rO, qO, pOR, pOS, bS21, kS21, rS, qS, pSR, pSO], by simp only [go_sem, simprocAttr, hg21, ghn, ghn21, bR21, kR21, rR, qR, pRO, pRS, bO21, kO21, rO, qO, pOR, pOS, bS21, kS21, rS, qS, pSR, pSO], by simp only [go_sem, simprocAttr, hg21, ghn, ghn21, bR21, kR21, rR, qR, pRO, pRS, bO21, kO21, rO, qO, pOR, pOS, bS21, kS21, rS, qS, pSR, pSO], by simp only [go_sem, simprocAttr]; omega, by (repeat first | exact Adv.refl _ _ | assumption | refine Adv.trans ?_ ‹Adv _ _ _› | apply Adv.up | apply Adv.put | refine Adv.new ?_ (by omega) _ | refine Adv.live ?_ (by omega) _ | refine Adv.owns ?_ (by omega) (by first | exact OwnB.lo ‹_› | exact fun _ _ _ h => by cases h))⟩
 ·have hi' : decide ((i : Int) < 5) = false := by simp; omega
  have hs : signOf l a arith = none := by
   rw [← signOf_drop (l := l) (s := a) arith i hno, List.drop_of_length_le (show arith.length ≤ i by have : arith.length = 5 := rfl; omega)]; rfl
  simp only [rest, hs] at hq
  by_cases hk : o.kind = 4
  ·have dk : decide (o.kind = 4) = true := by simp [hk]
   have dk' : decide (o.kind = 4) = true := by simp [hk]
   simp only [dk', Bool.true_and] at hq
   simp only [go_sem, simprocAttr, hg20, ghn, ghn20, bR20, kR20, rR, qR, pRO, pRS, bO20, kO20, rO, qO, pOR, pOS, bS20, kS20, rS, qS, pSR, pSO, g0, g2, g4, g5, g32, g33, g34, hi', dk]
   refine goC_ok (c_is (s := a) (l := l) (en := en) hlen hf4 (by first | omega | (simp only [go_sem, simprocAttr]; omega)) (by first | assumption | simp only [go_sem, simprocAttr, hg20, ghn, ghn20, bR20, kR20, rR, qR, pRO, pRS, bO20, kO20, rO, qO, pOR, pOS, bS20, kS20, rS, qS, pSR, pSO]) [40] (by decide)) ?_
   intro H21 hg21 ha21
   have hl21 := ha21.1
   simp only [go_sem, simprocAttr] at hl21
   have hr21 : r < H21.next := by omega
   have ghn21 := ne_all hr21
   have bR21 : H21.get (H.next) = some (sZ) := (ha21.get (by simp only [go_sem, simprocAttr]; omega) (by omega)).trans (by simp only [go_sem, simprocAttr, hg20, ghn, ghn20, bR20, kR20, rR, qR, pRO, pRS, bO20, kO20, rO, qO, pOR, pOS, bS20, kS20, rS, qS, pSR, pSO])
   have kR21 := ne_thr (a := H.next) (b := H21.next) (by omega)
   have bO21 : H21.get (H3.next + 2) = some (encOpd o) := (ha21.get (by simp only [go_sem, simprocAttr]; omega) (by omega)).trans (by simp only [go_sem, simprocAttr, hg20, ghn, ghn20, bR20, kR20, rR, qR, pRO, pRS, bO20, kO20, rO, qO, pOR, pOS, bS20, kS20, rS, qS, pSR, pSO])
   have kO21 := ne_thr (a := H3.next + 2) (b := H21.next) (by omega)
   have bS21 : H21.get (H4.next + 3) = some ([.lit (.int .i64 0), .lit (.string (ba [])), .lit (.string (ba [])), .lit (.string (ba [])), .sl .ex [encOpd o], .sl .nil [], .sl .nil [], .sl .nil []]) := (ha21.get (by simp only [go_sem, simprocAttr]; omega) (by omega)).trans (by simp only [go_sem, simprocAttr, hg20, ghn, ghn20, bR20, kR20, rR, qR, pRO, pRS, bO20, kO20, rO, qO, pOR, pOS, bS20, kS20, rS, qS, pSR, pSO])
   have kS21 := ne_thr (a := H4.next + 3) (b := H21.next) (by omega)
   simp only [go_sem, simprocAttr, hg21, ghn, ghn21, bR21, kR21, rR, qR, pRO, pRS, bO21, kO21, rO, qO, pOR, pOS, bS21, kS21, rS, qS, pSR, pSO, g0, g2, g4, g5, g32, g33, g34]
   cases h4 : isT l a [40] with
   | true =>
    rw [h4] at hq
    cases hq
    simp only [go_sem, simprocAttr, hg21, ghn, ghn21, bR21, kR21, rR, qR, pRO, pRS, bO21, kO21, rO, qO, pOR, pOS, bS21, kS21, rS, qS, pSR, pSO, g0, g2, g4, g5, g32, g33, g34]
    refine W_drawE [(1, 3)] [[1, 4, 5], [4, 5], [3, 4, 5], [4, 5], [5], []] (by kernel_rfl) ?_
    simp only [go_sem, simprocAttr, hg21, ghn, ghn21, bR21, kR21, rR, qR, pRO, pRS, bO21, kO21, rO, qO, pOR, pOS, bS21, kS21, rS, qS, pSR, pSO, g0, g2, g4, g5, g32, g33, g34]
    refine eK_out rfl (c_args (s := a) (l := l) (en := en) hlen hf4 (by first | omega | (simp only [go_sem, simprocAttr]; omega)) (by first | assumption | simp only [go_sem, simprocAttr, hg21, ghn, ghn21, bR21, kR21, rR, qR, pRO, pRS, bO21, kO21, rO, qO, pOR, pOS, bS21, kS21, rS, qS, pSR, pSO])) ?_ ?_
    case refine_2 =>
     intro q hq H9 had
     rw [outP_some hq]
     simp only [go_sem, simprocAttr, san_trouble]
     (repeat first | exact Adv.refl _ _ | assumption | refine Adv.trans ?_ ‹Adv _ _ _› | apply Adv.up | apply Adv.put | refine Adv.new ?_ (by omega) _ | refine Adv.live ?_ (by omega) _ | refine Adv.owns ?_ (by omega) (by first | exact OwnB.lo ‹_› | exact fun _ _ _ h => by cases h))
    intro hf5 H22 hg22 ha22
    have hl22 := ha22.1
    simp only [go_sem, simprocAttr] at hl22
    have hr22 : r < H22.next := by omega
    have ghn22 := ne_all hr22
    have bR22 : H22.get (H.next) = some (sZ) := (ha22.get (by simp only [go_sem, simprocAttr]; omega) (by omega)).trans (by simp only [go_sem, simprocAttr, hg21, ghn, ghn21, bR21, kR21, rR, qR, pRO, pRS, bO21, kO21, rO, qO, pOR, pOS, bS21, kS21, rS, qS, pSR, pSO])
    have kR22 := ne_thr (a := H.next) (b := H22.next) (by omega)
    have bO22 : H22.get (H3.next + 2) = some (encOpd o) := (ha22.get (by simp only [go_sem, simprocAttr]; omega) (by omega)).trans (by simp only [go_sem, simprocAttr, hg21, ghn, ghn21, bR21, kR21, rR, qR, pRO, pRS, bO21, kO21, rO, qO, pOR, pOS, bS21, kS21, rS, qS, pSR, pSO])
    have kO22 := ne_thr (a := H3.next + 2) (b := H22.next) (by omega)
    have bS22 : H22.get (H4.next + 3) = some ([.lit (.int .i64 0), .lit (.string (ba [])), .lit (.string (ba [])), .lit (.string (ba [])), .sl .ex [encOpd o], .sl .nil [], .sl .nil [], .sl .nil []]) := (ha22.get (by simp only [go_sem, simprocAttr]; omega) (by omega)).trans (by simp only [go_sem, simprocAttr, hg21, ghn, ghn21, bR21, kR21, rR, qR, pRO, pRS, bO21, kO21, rO, qO, pOR, pOS, bS21, kS21, rS, qS, pSR, pSO])
    have kS22 := ne_thr (a := H4.next + 3) (b := H22.next) (by omega)
    have hkeep := ha22.keeps (k := H3.next + 2) (by simp only [go_sem, simprocAttr]; omega) (by omega)
    rw [outP_none hf5]
    simp only [go_sem, simprocAttr, hg22, ghn, ghn22, bR22, kR22, rR, qR, pRO, pRS, bO22, kO22, rO, qO, pOR, pOS, bS22, kS22, rS, qS, pSR, pSO, rs, hkeep, g0, g2, g4, g5, g32, g33, g34, eM, List.map_cons, List.map_nil]
    (repeat first | exact Adv.refl _ _ | assumption | refine Adv.trans ?_ ‹Adv _ _ _› | apply Adv.up | apply Adv.put | refine Adv.new ?_ (by omega) _ | refine Adv.live ?_ (by omega) _ | refine Adv.owns ?_ (by omega) (by first | exact OwnB.lo ‹_› | exact fun _ _ _ h => by cases h))
   | false =>
    rw [h4] at hq
    simp only at hq
    simp only [go_sem, simprocAttr, hg21, ghn, ghn21, bR21, kR21, rR, qR, pRO, pRS, bO21, kO21, rO, qO, pOR, pOS, bS21, kS21, rS, qS, pSR, pSO, g0, g2, g4, g5, g32, g33, g34]
    cases h5 : isT l a [46] with
    | true =>
     rw [h5] at hq
     cases hq
     refine goC_ok (c_take_yes (s := a) (l := l) (en := en) hlen hf4 (by first | omega | (simp only [go_sem, simprocAttr]; omega)) (by first | assumption | simp only [go_sem, simprocAttr, hg21, ghn, ghn21, bR21, kR21, rR, qR, pRO, pRS, bO21, kO21, rO, qO, pOR, pOS, bS21, kS21, rS, qS, pSR, pSO]) (by decide) h5) ?_
     intro H22 hg22 ha22
     have hl22 := ha22.1
     simp only [go_sem, simprocAttr] at hl22
     have hr22 : r < H22.next := by omega
     have ghn22 := ne_all hr22
     have bR22 : H22.get (H.next) = some (sZ) := (ha22.get (by simp only [go_sem, simprocAttr]; omega) (by omega)).trans (by simp only [go_sem, simprocAttr, hg21, ghn, ghn21, bR21, kR21, rR, qR, pRO, pRS, bO21, kO21, rO, qO, pOR, pOS, bS21, kS21, rS, qS, pSR, pSO])
     have kR22 := ne_thr (a := H.next) (b := H22.next) (by omega)
     have bO22 : H22.get (H3.next + 2) = some (encOpd o) := (ha22.get (by simp only [go_sem, simprocAttr]; omega) (by omega)).trans (by simp only [go_sem, simprocAttr, hg21, ghn, ghn21, bR21, kR21, rR, qR, pRO, pRS, bO21, kO21, rO, qO, pOR, pOS, bS21, kS21, rS, qS, pSR, pSO])
     have kO22 := ne_thr (a := H3.next + 2) (b := H22.next) (by omega)
     have bS22 : H22.get (H4.next + 3) = some ([.lit (.int .i64 0), .lit (.string (ba [])), .lit (.string (ba [])), .lit (.string (ba [])), .sl .ex [encOpd o], .sl .nil [], .sl .nil [], .sl .nil []]) := (ha22.get (by simp only [go_sem, simprocAttr]; omega) (by omega)).trans (by simp only [go_sem, simprocAttr, hg21, ghn, ghn21, bR21, kR21, rR, qR, pRO, pRS, bO21, kO21, rO, qO, pOR, pOS, bS21, kS21, rS, qS, pSR, pSO])
     have kS22 := ne_thr (a := H4.next + 3) (b := H22.next) (by omega)
     simp only [go_sem, simprocAttr, hg22, ghn, ghn22, bR22, kR22, rR, qR, pRO, pRS, bO22, kO22, rO, qO, pOR, pOS, bS22, kS22, rS, qS, pSR, pSO, g0, g2, g4, g5, g32, g33, g34]
     refine W_drawE [(1, 3)] [[1, 4, 5], [4, 5], [3, 4, 5], [4, 5], [5], []] (by kernel_rfl) ?_
     simp only [go_sem, simprocAttr, hg22, ghn, ghn22, bR22, kR22, rR, qR, pRO, pRS, bO22, kO22, rO, qO, pOR, pOS, bS22, kS22, rS, qS, pSR, pSO, g0, g2, g4, g5, g32, g33, g34]
     refine eK_out rfl (c_name (s := a.adv) (l := l) (en := en) hlen hf4 (by first | omega | (simp only [go_sem, simprocAttr]; omega)) (by first | assumption | simp only [go_sem, simprocAttr, hg22, ghn, ghn22, bR22, kR22, rR, qR, pRO, pRS, bO22, kO22, rO, qO, pOR, pOS, bS22, kS22, rS, qS, pSR, pSO])) ?_ ?_
     case refine_2 =>
      intro q hq H9 had
      rw [outP_some hq]
      simp only [go_sem, simprocAttr, san_trouble]
      (repeat first | exact Adv.refl _ _ | assumption | refine Adv.trans ?_ ‹Adv _ _ _› | apply Adv.up | apply Adv.put | refine Adv.new ?_ (by omega) _ | refine Adv.live ?_ (by omega) _ | refine Adv.owns ?_ (by omega) (by first | exact OwnB.lo ‹_› | exact fun _ _ _ h => by cases h))
     intro hf5 H23 hg23 ha23
     have hl23 := ha23.1
     simp only [go_sem, simprocAttr] at hl23
     have hr23 : r < H23.next := by omega
     have ghn23 := ne_all hr23
     have bR23 : H23.get (H.next) = some (sZ) := (ha23.get (by simp only [go_sem, simprocAttr]; omega) (by omega)).trans (by simp only [go_sem, simprocAttr, hg22, ghn, ghn22, bR22, kR22, rR, qR, pRO, pRS, bO22, kO22, rO, qO, pOR, pOS, bS22, kS22, rS, qS, pSR, pSO])
     have kR23 := ne_thr (a := H.next) (b := H23.next) (by omega)
     have bO23 : H23.get (H3.next + 2) = some (encOpd o) := (ha23.get (by simp only [go_sem, simprocAttr]; omega) (by omega)).trans (by simp only [go_sem, simprocAttr, hg22, ghn, ghn22, bR22, kR22, rR, qR, pRO, pRS, bO22, kO22, rO, qO, pOR, pOS, bS22, kS22, rS, qS, pSR, pSO])
     have kO23 := ne_thr (a := H3.next + 2) (b := H23.next) (by omega)
     have bS23 : H23.get (H4.next + 3) = some ([.lit (.int .i64 0), .lit (.string (ba [])), .lit (.string (ba [])), .lit (.string (ba [])), .sl .ex [encOpd o], .sl .nil [], .sl .nil [], .sl .nil []]) := (ha23.get (by simp only [go_sem, simprocAttr]; omega) (by omega)).trans (by simp only [go_sem, simprocAttr, hg22, ghn, ghn22, bR22, kR22, rR, qR, pRO, pRS, bO22, kO22, rO, qO, pOR, pOS, bS22, kS22, rS, qS, pSR, pSO])
     have kS23 := ne_thr (a := H4.next + 3) (b := H23.next) (by omega)
     have hkeep := ha23.keeps (k := H3.next + 2) (by simp only [go_sem, simprocAttr]; omega) (by omega)
     rw [outP_none hf5]
     simp only [go_sem, simprocAttr, hg23, ghn, ghn23, bR23, kR23, rR, qR, pRO, pRS, bO23, kO23, rO, qO, pOR, pOS, bS23, kS23, rS, qS, pSR, pSO, rs, hkeep, g0, g2, g4, g5, g32, g33, g34, eM, List.map_cons, List.map_nil]
     (repeat first | exact Adv.refl _ _ | assumption | refine Adv.trans ?_ ‹Adv _ _ _› | apply Adv.up | apply Adv.put | refine Adv.new ?_ (by omega) _ | refine Adv.live ?_ (by omega) _ | refine Adv.owns ?_ (by omega) (by first | exact OwnB.lo ‹_› | exact fun _ _ _ h => by cases h))
    | false =>
     rw [h5] at hq
     simp only at hq
     have hq1 : a = q1 := congrArg Prod.fst hq
     have hq2 : GStmt.mk 0 [] [] [] [o] [] [] [] = q2 := congrArg Prod.snd hq
     subst hq2
     subst hq1
     refine goC_ok (c_take_no (s := a) (l := l) (en := en) hlen hf4 (by first | omega | (simp only [go_sem, simprocAttr]; omega)) (by first | assumption | simp only [go_sem, simprocAttr, hg21, ghn, ghn21, bR21, kR21, rR, qR, pRO, pRS, bO21, kO21, rO, qO, pOR, pOS, bS21, kS21, rS, qS, pSR, pSO]) (by decide) h5) ?_
     intro H22 hg22 ha22
     have hl22 := ha22.1
     simp only [go_sem, simprocAttr] at hl22
     have hr22 : r < H22.next := by omega
     have ghn22 := ne_all hr22
     have bR22 : H22.get (H.next) = some (sZ) := (ha22.get (by simp only [go_sem, simprocAttr]; omega) (by omega)).trans (by simp only [go_sem, simprocAttr, hg21, ghn, ghn21, bR21, kR21, rR, qR, pRO, pRS, bO21, kO21, rO, qO, pOR, pOS, bS21, kS21, rS, qS, pSR, pSO])
     have kR22 := ne_thr (a := H.next) (b := H22.next) (by omega)
     have bO22 : H22.get (H3.next + 2) = some (encOpd o) := (ha22.get (by simp only [go_sem, simprocAttr]; omega) (by omega)).trans (by simp only [go_sem, simprocAttr, hg21, ghn, ghn21, bR21, kR21, rR, qR, pRO, pRS, bO21, kO21, rO, qO, pOR, pOS, bS21, kS21, rS, qS, pSR, pSO])
     have kO22 := ne_thr (a := H3.next + 2) (b := H22.next) (by omega)
     have bS22 : H22.get (H4.next + 3) = some ([.lit (.int .i64 0), .lit (.string (ba [])), .lit (.string (ba [])), .lit (.string (ba [])), .sl .ex [encOpd o], .sl .nil [], .sl .nil [], .sl .nil []]) := (ha22.get (by simp only [go_sem, simprocAttr]; omega) (by omega)).trans (by simp only [go_sem, simprocAttr, hg21, ghn, ghn21, bR21, kR21, rR, qR, pRO, pRS, bO21, kO21, rO, qO, pOR, pOS, bS21, kS21, rS, qS, pSR, pSO])
     have kS22 := ne_thr (a := H4.next + 3) (b := H22.next) (by omega)
     rw [outP_none hf4]
     simp only [go_sem, simprocAttr, hg22, ghn, ghn22, bR22, kR22, rR, qR, pRO, pRS, bO22, kO22, rO, qO, pOR, pOS, bS22, kS22, rS, qS, pSR, pSO, rs, g0, g2, g4, g5, g32, g33, g34, eM, List.map_cons, List.map_nil]
     (repeat first | exact Adv.refl _ _ | assumption | refine Adv.trans ?_ ‹Adv _ _ _› | apply Adv.up | apply Adv.put | refine Adv.new ?_ (by omega) _ | refine Adv.live ?_ (by omega) _ | refine Adv.owns ?_ (by omega) (by first | exact OwnB.lo ‹_› | exact fun _ _ _ h => by cases h))
  ·have dk : decide (o.kind = 4) = false := by simp [hk]
   have dk' : decide (o.kind = 4) = false := by simp [hk]
   simp only [dk', Bool.false_and] at hq
   have hq1 : a = q1 := congrArg Prod.fst hq
   have hq2 : GStmt.mk 0 [] [] [] [o] [] [] [] = q2 := congrArg Prod.snd hq
   subst hq2
   subst hq1
   rw [outP_none hf4]
   simp only [go_sem, simprocAttr, hg20, ghn, ghn20, bR20, kR20, rR, qR, pRO, pRS, bO20, kO20, rO, qO, pOR, pOS, bS20, kS20, rS, qS, pSR, pSO, rs, g0, g2, g4, g5, g32, g33, g34, hi', dk, eM, List.map_cons, List.map_nil]
   (repeat first | exact Adv.refl _ _ | assumption | refine Adv.trans ?_ ‹Adv _ _ _› | apply Adv.up | apply Adv.put | refine Adv.new ?_ (by omega) _ | refine Adv.live ?_ (by omega) _ | refine Adv.owns ?_ (by omega) (by first | exact OwnB.lo ‹_› | exact fun _ _ _ h => by cases h))
end
end Go.Proofs.YtghhkbigmmjanaaGreatDoor.VA

/-! Pe9 -/
namespace Go.Proofs.YtghhkbigmmjanaaGreatDoor.VA
open Go Go.RowKit
attribute [local go_sem] Nat.add_eq_left Nat.left_eq_add true_and and_true ite_true if_false Int.cast_ofNat_Int eq_self Nat.add_assoc Option.some.injEq decide_true decide_false Bool.not_true Bool.not_false List.size_toArray List.length_cons List.length_nil
set_option linter.unusedSimpArgs false
set_option maxRecDepth 100000

section
variable {l : List GTok} {en : Int} {r : Nat} {s : PS} {H : Heap}
set_option maxRecDepth 20000 in
theorem c_assign (hlen : l.length ≤ LM) (hf : s.f = none) (hr : r < H.next) (hg : H.get r = some (cP l en s)) :
  PCall Tryz.prog cfg r 116 [.ptr r 0] H (outP l en (assign l en s).1 (.agg (encStmt (assign l en s).2))) := by
 obtain ⟨q1, q2, hq⟩ : ∃ q1 q2, assign l en s = (q1, q2) := ⟨_, _, rfl⟩
 rw [hq]
 show PCall _ _ _ _ _ _ (outP l en q1 (.agg (encStmt q2)))
 refine PCall_of' (fn := Tryz.f116) rfl rfl rfl rfl rfl ?_
 have rs : Tryz.f116.results.toList = [.cell 2 40] := rfl
 have eM := encStmt_mk
 have ghn := ne_all hr
 simp only [go_sem, simprocAttr]
 have rR : (H.next = r) = False := eq_false (by omega)
 have qR : (r = H.next) = False := eq_false (by omega)
 refine goC_out (c_name (s := s) (l := l) (en := en) hlen hf (by first | omega | (simp only [go_sem, simprocAttr]; omega)) (by first | assumption | simp only [go_sem, simprocAttr, hg, ghn, rR, qR])) ?_ ?_
 case refine_2 =>
  intro q9 hq9 H9 had
  rw [outP_some (show q1.f = some q9 by rw [show q1 = (assign l en s).1 by rw [hq]]; simp only [assign, isT_bad (ok_some hq9), need_bad' (ok_some hq9), value_bad (ok_some hq9)]; exact hq9)]
  simp only [go_sem, simprocAttr, san_trouble]
  (repeat first | exact Adv.refl _ _ | assumption | refine Adv.trans ?_ ‹Adv _ _ _› | apply Adv.up | apply Adv.put | refine Adv.new ?_ (by omega) _ | refine Adv.live ?_ (by omega) _ | refine Adv.owns ?_ (by omega) (by first | exact OwnB.lo ‹_› | exact fun _ _ _ h => by cases h))
 unfold assign at hq
 intro hf1 H1 hg1 ha1
 have hl1 := ha1.1
 try simp only [go_sem, simprocAttr] at hl1
 have hr1 : r < H1.next := by omega
 have ghn1 := ne_all hr1
 have bR1 : H1.get (H.next) = some (sZ) := (ha1.get (by first | omega | (simp only [go_sem, simprocAttr]; omega)) (by omega)).trans (by simp only [go_sem, simprocAttr, hg, ghn, rR, qR])
 have kR1 := ne_thr (a := H.next) (b := H1.next) (by omega)
 simp only [go_sem, simprocAttr, hg1, ghn, ghn1, bR1, kR1, rR, qR]
 cases h1 : isT l (nameP l en s).1 [46] with
 | true =>
  rw [h1] at hq
  cases hq
  refine goC_ok (c_take_yes (s := (nameP l en s).1) (l := l) (en := en) hlen hf1 (by first | omega | (simp only [go_sem, simprocAttr]; omega)) (by first | assumption | simp only [go_sem, simprocAttr, hg1, ghn, ghn1, bR1, kR1, rR, qR]) (by decide) h1) ?_
  intro H2 hg2 ha2
  have hl2 := ha2.1
  try simp only [go_sem, simprocAttr] at hl2
  have hr2 : r < H2.next := by omega
  have ghn2 := ne_all hr2
  have bR2 : H2.get (H.next) = some (sZ) := (ha2.get (by first | omega | (simp only [go_sem, simprocAttr]; omega)) (by omega)).trans (by simp only [go_sem, simprocAttr, hg1, ghn, ghn1, bR1, kR1, rR, qR])
  have kR2 := ne_thr (a := H.next) (b := H2.next) (by omega)
  simp only [go_sem, simprocAttr, hg2, ghn, ghn2, bR2, kR2, rR, qR]
  refine goC_out (c_name (s := (nameP l en s).1.adv) (l := l) (en := en) hlen hf1 (by first | omega | (simp only [go_sem, simprocAttr]; omega)) (by first | assumption | simp only [go_sem, simprocAttr, hg2, ghn, ghn2, bR2, kR2, rR, qR])) ?_ ?_
  case refine_2 =>
   intro q9 hq9 H9 had
   rw [outP_some (show (operand l en (need l en (nameP l en (nameP l en s).1.adv).1 [61])).1.f = some q9 by rw [need_bad' (ok_some hq9), operand_bad (ok_some hq9)]; exact hq9)]
   simp only [go_sem, simprocAttr, san_trouble]
   (repeat first | exact Adv.refl _ _ | assumption | refine Adv.trans ?_ ‹Adv _ _ _› | apply Adv.up | apply Adv.put | refine Adv.new ?_ (by omega) _ | refine Adv.live ?_ (by omega) _ | refine Adv.owns ?_ (by omega) (by first | exact OwnB.lo ‹_› | exact fun _ _ _ h => by cases h))
  intro hf3 H3 hg3 ha3
  have hl3 := ha3.1
  try simp only [go_sem, simprocAttr] at hl3
  have hr3 : r < H3.next := by omega
  have ghn3 := ne_all hr3
  have bR3 : H3.get (H.next) = some (sZ) := (ha3.get (by first | omega | (simp only [go_sem, simprocAttr]; omega)) (by omega)).trans (by simp only [go_sem, simprocAttr, hg2, ghn, ghn2, bR2, kR2, rR, qR])
  have kR3 := ne_thr (a := H.next) (b := H3.next) (by omega)
  have pSR : (H2.next + 4 = H.next) = False := eq_false (by omega)
  have pRS : (H.next = H2.next + 4) = False := eq_false (by omega)
  have rS : (H2.next + 4 = r) = False := eq_false (by omega)
  have qS : (r = H2.next + 4) = False := eq_false (by omega)
  simp only [go_sem, simprocAttr, hg3, ghn, ghn3, bR3, kR3, rR, qR, pRS, rS, qS, pSR]
  refine goC_out (c_need (s := (nameP l en (nameP l en s).1.adv).1) (l := l) (en := en) hlen hf3 (by first | omega | (simp only [go_sem, simprocAttr]; omega)) (by first | assumption | simp only [go_sem, simprocAttr, hg3, ghn, ghn3, bR3, kR3, rR, qR, pRS, rS, qS, pSR]) [61] (by decide)) ?_ ?_
  case refine_2 =>
   intro q9 hq9 H9 had
   rw [outP_some (show (operand l en (need l en (nameP l en (nameP l en s).1.adv).1 [61])).1.f = some q9 by rw [operand_bad (ok_some hq9)]; exact hq9)]
   simp only [go_sem, simprocAttr, san_trouble]
   (repeat first | exact Adv.refl _ _ | assumption | refine Adv.trans ?_ ‹Adv _ _ _› | apply Adv.up | apply Adv.put | refine Adv.new ?_ (by omega) _ | refine Adv.live ?_ (by omega) _ | refine Adv.owns ?_ (by omega) (by first | exact OwnB.lo ‹_› | exact fun _ _ _ h => by cases h))
  intro hf4 H4 hg4 ha4
  have hl4 := ha4.1
  try simp only [go_sem, simprocAttr] at hl4
  have hr4 : r < H4.next := by omega
  have ghn4 := ne_all hr4
  have bR4 : H4.get (H.next) = some (sZ) := (ha4.get (by first | omega | (simp only [go_sem, simprocAttr]; omega)) (by omega)).trans (by simp only [go_sem, simprocAttr, hg3, ghn, ghn3, bR3, kR3, rR, qR, pRS, rS, qS, pSR])
  have kR4 := ne_thr (a := H.next) (b := H4.next) (by omega)
  have bS4 : H4.get (H2.next + 4) = some ([.lit (.int .i64 3), .lit (.string (ba (nameP l en s).2)), .lit (.string (ba [])), .lit (.string (ba (nameP l en (nameP l en s).1.adv).2)), .sl .nil [], .sl .nil [], .sl .nil [], .sl .nil []]) := (ha4.get (by first | omega | (simp only [go_sem, simprocAttr]; omega)) (by omega)).trans (by simp only [go_sem, simprocAttr, hg3, ghn, ghn3, bR3, kR3, rR, qR, pRS, rS, qS, pSR])
  have kS4 := ne_thr (a := H2.next + 4) (b := H4.next) (by omega)
  simp only [go_sem, simprocAttr, hg4, ghn, ghn4, bR4, kR4, rR, qR, pRS, bS4, kS4, rS, qS, pSR]
  refine goC_out (c_operand (s := (need l en (nameP l en (nameP l en s).1.adv).1 [61])) (l := l) (en := en) hlen hf4 (by first | omega | (simp only [go_sem, simprocAttr]; omega)) (by first | assumption | simp only [go_sem, simprocAttr, hg4, ghn, ghn4, bR4, kR4, rR, qR, pRS, bS4, kS4, rS, qS, pSR])) ?_ ?_
  case refine_2 =>
   intro q9 hq9 H9 had
   rw [outP_some (show (operand l en (need l en (nameP l en (nameP l en s).1.adv).1 [61])).1.f = some q9 by exact hq9)]
   simp only [go_sem, simprocAttr, san_trouble]
   (repeat first | exact Adv.refl _ _ | assumption | refine Adv.trans ?_ ‹Adv _ _ _› | apply Adv.up | apply Adv.put | refine Adv.new ?_ (by omega) _ | refine Adv.live ?_ (by omega) _ | refine Adv.owns ?_ (by omega) (by first | exact OwnB.lo ‹_› | exact fun _ _ _ h => by cases h))
  intro hf5 H5 hg5 ha5
  have hl5 := ha5.1
  try simp only [go_sem, simprocAttr] at hl5
  have hr5 : r < H5.next := by omega
  have ghn5 := ne_all hr5
  have bR5 : H5.get (H.next) = some (sZ) := (ha5.get (by first | omega | (simp only [go_sem, simprocAttr]; omega)) (by omega)).trans (by simp only [go_sem, simprocAttr, hg4, ghn, ghn4, bR4, kR4, rR, qR, pRS, bS4, kS4, rS, qS, pSR])
  have kR5 := ne_thr (a := H.next) (b := H5.next) (by omega)
  have bS5 : H5.get (H2.next + 4) = some ([.lit (.int .i64 3), .lit (.string (ba (nameP l en s).2)), .lit (.string (ba [])), .lit (.string (ba (nameP l en (nameP l en s).1.adv).2)), .sl .nil [], .sl .nil [], .sl .nil [], .sl .nil []]) := (ha5.get (by first | omega | (simp only [go_sem, simprocAttr]; omega)) (by omega)).trans (by simp only [go_sem, simprocAttr, hg4, ghn, ghn4, bR4, kR4, rR, qR, pRS, bS4, kS4, rS, qS, pSR])
  have kS5 := ne_thr (a := H2.next + 4) (b := H5.next) (by omega)
  rw [outP_none hf5]
  simp only [go_sem, simprocAttr, hg5, ghn, ghn5, bR5, kR5, rR, qR, pRS, bS5, kS5, rS, qS, pSR, rs, eM, List.map_cons, List.map_nil]
  (repeat first | exact Adv.refl _ _ | assumption | refine Adv.trans ?_ ‹Adv _ _ _› | apply Adv.up | apply Adv.put | refine Adv.new ?_ (by omega) _ | refine Adv.live ?_ (by omega) _ | refine Adv.owns ?_ (by omega) (by first | exact OwnB.lo ‹_› | exact fun _ _ _ h => by cases h))
 | false =>
  rw [h1] at hq
  cases hq
  refine goC_ok (c_take_no (s := (nameP l en s).1) (l := l) (en := en) hlen hf1 (by first | omega | (simp only [go_sem, simprocAttr]; omega)) (by first | assumption | simp only [go_sem, simprocAttr, hg1, ghn, ghn1, bR1, kR1, rR, qR]) (by decide) h1) ?_
  intro H2 hg2 ha2
  have hl2 := ha2.1
  try simp only [go_sem, simprocAttr] at hl2
  have hr2 : r < H2.next := by omega
  have ghn2 := ne_all hr2
  have bR2 : H2.get (H.next) = some (sZ) := (ha2.get (by first | omega | (simp only [go_sem, simprocAttr]; omega)) (by omega)).trans (by simp only [go_sem, simprocAttr, hg1, ghn, ghn1, bR1, kR1, rR, qR])
  have kR2 := ne_thr (a := H.next) (b := H2.next) (by omega)
  simp only [go_sem, simprocAttr, hg2, ghn, ghn2, bR2, kR2, rR, qR]
  refine goC_out (c_need (s := (nameP l en s).1) (l := l) (en := en) hlen hf1 (by first | omega | (simp only [go_sem, simprocAttr]; omega)) (by first | assumption | simp only [go_sem, simprocAttr, hg2, ghn, ghn2, bR2, kR2, rR, qR]) [61] (by decide)) ?_ ?_
  case refine_2 =>
   intro q9 hq9 H9 had
   rw [outP_some (show (value l en (need l en (nameP l en s).1 [61])).1.f = some q9 by rw [value_bad (ok_some hq9)]; exact hq9)]
   simp only [go_sem, simprocAttr, san_trouble]
   (repeat first | exact Adv.refl _ _ | assumption | refine Adv.trans ?_ ‹Adv _ _ _› | apply Adv.up | apply Adv.put | refine Adv.new ?_ (by omega) _ | refine Adv.live ?_ (by omega) _ | refine Adv.owns ?_ (by omega) (by first | exact OwnB.lo ‹_› | exact fun _ _ _ h => by cases h))
  intro hf3 H3 hg3 ha3
  have hl3 := ha3.1
  try simp only [go_sem, simprocAttr] at hl3
  have hr3 : r < H3.next := by omega
  have ghn3 := ne_all hr3
  have bR3 : H3.get (H.next) = some (sZ) := (ha3.get (by first | omega | (simp only [go_sem, simprocAttr]; omega)) (by omega)).trans (by simp only [go_sem, simprocAttr, hg2, ghn, ghn2, bR2, kR2, rR, qR])
  have kR3 := ne_thr (a := H.next) (b := H3.next) (by omega)
  simp only [go_sem, simprocAttr, hg3, ghn, ghn3, bR3, kR3, rR, qR]
  refine goC_out (c_value (s := (need l en (nameP l en s).1 [61])) (l := l) (en := en) hlen hf3 (by first | omega | (simp only [go_sem, simprocAttr]; omega)) (by first | assumption | simp only [go_sem, simprocAttr, hg3, ghn, ghn3, bR3, kR3, rR, qR])) ?_ ?_
  case refine_2 =>
   intro q9 hq9 H9 had
   rw [outP_some (show (value l en (need l en (nameP l en s).1 [61])).1.f = some q9 by exact hq9)]
   simp only [go_sem, simprocAttr, san_trouble]
   (repeat first | exact Adv.refl _ _ | assumption | refine Adv.trans ?_ ‹Adv _ _ _› | apply Adv.up | apply Adv.put | refine Adv.new ?_ (by omega) _ | refine Adv.live ?_ (by omega) _ | refine Adv.owns ?_ (by omega) (by first | exact OwnB.lo ‹_› | exact fun _ _ _ h => by cases h))
  intro hf4 H4 hg4 ha4
  have hl4 := ha4.1
  try simp only [go_sem, simprocAttr] at hl4
  have hr4 : r < H4.next := by omega
  have ghn4 := ne_all hr4
  have bR4 : H4.get (H.next) = some (sZ) := (ha4.get (by first | omega | (simp only [go_sem, simprocAttr]; omega)) (by omega)).trans (by simp only [go_sem, simprocAttr, hg3, ghn, ghn3, bR3, kR3, rR, qR])
  have kR4 := ne_thr (a := H.next) (b := H4.next) (by omega)
  have pSR : (H3.next + 2 = H.next) = False := eq_false (by omega)
  have pRS : (H.next = H3.next + 2) = False := eq_false (by omega)
  have rS : (H3.next + 2 = r) = False := eq_false (by omega)
  have qS : (r = H3.next + 2) = False := eq_false (by omega)
  rw [outP_none hf4]
  simp only [go_sem, simprocAttr, hg4, ghn, ghn4, bR4, kR4, rR, qR, pRS, rS, qS, pSR, rs]
  (repeat first | exact Adv.refl _ _ | assumption | refine Adv.trans ?_ ‹Adv _ _ _› | apply Adv.up | apply Adv.put | refine Adv.new ?_ (by omega) _ | refine Adv.live ?_ (by omega) _ | refine Adv.owns ?_ (by omega) (by first | exact OwnB.lo ‹_› | exact fun _ _ _ h => by cases h))
/-- What is said of the parser's statements, with so much fuel. -/
def PStmtOk (l : List GTok) (en : Int) (n : Nat) : Prop := ∀ (r : Nat) (s : PS) (deep : Nat) (H : Heap), 3 * rem l s + 1 ≤ n → deep ≤ 33 → s.f = none → r < H.next → H.get r = some (cP l en s) →
 PCall Tryz.prog cfg r 104 [.ptr r 0, .lit (.int .i64 (deep : Nat))] H (outP l en (stmtF l en n s deep).1 (.agg (encStmt (stmtF l en n s deep).2)))
def PBlockOk (l : List GTok) (en : Int) (n : Nat) : Prop := ∀ (r : Nat) (s : PS) (deep : Nat) (H : Heap), 3 * rem l s + 3 ≤ n → deep ≤ 33 → s.f = none → r < H.next → H.get r = some (cP l en s) →
 PCall Tryz.prog cfg r 85 [.ptr r 0, .lit (.int .i64 (deep : Nat))] H (outP l en (blockF l en n s deep).1 (.sl .sh ((blockF l en n s deep).2.map encStmt)))
theorem bodyF_bad {s : PS} (h : s.ok = false) : ∀ (n : Nat) (deep : Nat) (acc : List GStmt), (bodyF l en n s deep acc).1 = s
 | 0, _, _ => by simp only [bodyF, pfail_bad' h]
 | n + 1, _, _ => by simp only [bodyF, h, Bool.false_and, need_bad' h]
theorem starts_bad {s : PS} (h : s.ok = false) : starts l s = false := by simp only [starts, isName_bad h, isT_bad h, Bool.or_self]
theorem blockF_bad {s : PS} (h : s.ok = false) : ∀ (n : Nat) (deep : Nat), (blockF l en n s deep).1 = s
 | 0, _ => by simp only [blockF, pfail_bad' h]
 | n + 1, _ => by simp only [blockF, isT_bad h, Bool.false_and, need_bad' h, bodyF_bad h]
set_option maxRecDepth 20000 in
theorem c_stmt0 (hlen : l.length ≤ LM) (n : Nat) (ihb : PBlockOk l en n) (deep : Nat) (hn : 3 * rem l s + 1 ≤ n + 1) (hdeep : deep ≤ 33) (h0 : isName l s = true) (h1 : isT l s [111, 117, 116] = false) (h2 : isT l s [114, 101, 116, 117, 114, 110] = false) (h3 : isT l s [105, 102] = false) (h4 : isT l s [119, 104, 105, 108, 101] = false) (hf : s.f = none) (hr : r < H.next) (hg : H.get r = some (cP l en s)) :
  PCall Tryz.prog cfg r 104 [.ptr r 0, .lit (.int .i64 (deep : Nat))] H (outP l en (stmtF l en (n + 1) s deep).1 (.agg (encStmt (stmtF l en (n + 1) s deep).2))) := by
 have _ := ihb
 have _ := hn
 have _ := hdeep
 obtain ⟨q1, q2, hq⟩ : ∃ q1 q2, stmtF l en (n + 1) s deep = (q1, q2) := ⟨_, _, rfl⟩
 rw [hq]
 show PCall _ _ _ _ _ _ (outP l en q1 (.agg (encStmt q2)))
 refine PCall_of' (fn := Tryz.f104) rfl rfl rfl rfl rfl ?_
 have rs : Tryz.f104.results.toList = [.cell 4 40] := rfl
 have eM := encStmt_mk
 have ghn := ne_all hr
 unfold stmtF at hq
 have hst : starts l s = true := by simp only [starts, tOut, tReturn, tIf, tWhile, h0, h1, h2, h3, h4, Bool.or_true, Bool.true_or]
 rw [hst] at hq
 simp only [tIf, tWhile, h3, h4] at hq
 simp only [go_sem, simprocAttr]
 have rR : (H.next = r) = False := eq_false (by omega)
 have qR : (r = H.next) = False := eq_false (by omega)
 refine goC_ok (c_isName (s := s) (l := l) (en := en) hlen hf (by first | omega | (simp only [go_sem, simprocAttr]; omega)) (by first | assumption | simp only [go_sem, simprocAttr, hg, ghn, rR, qR])) ?_
 intro H1 hg1 ha1
 have hl1 := ha1.1
 try simp only [go_sem, simprocAttr] at hl1
 have hr1 : r < H1.next := by omega
 have ghn1 := ne_all hr1
 have bR1 : H1.get (H.next) = some (sZ) := (ha1.get (by first | omega | (simp only [go_sem, simprocAttr]; omega)) (by omega)).trans (by simp only [go_sem, simprocAttr, hg, ghn, rR, qR])
 have kR1 := ne_thr (a := H.next) (b := H1.next) (by omega)
 simp only [go_sem, simprocAttr, hg1, ghn, ghn1, bR1, kR1, rR, qR, h0]
 by_cases hc : 2000 ≤ s.cnt
 ·have d : decide (2000 ≤ ((s.cnt : Nat) : Int)) = true := by simp; omega
  have d' : decide (2000 ≤ s.cnt) = true := by simp [hc]
  rw [d'] at hq
  cases hq
  rw [outP_fail hf]
  simp only [go_sem, simprocAttr, hg1, ghn, ghn1, bR1, kR1, rR, qR, d]
  refine goC_bad (c_fail (s := s) (l := l) (en := en) (by first | omega | (simp only [go_sem, simprocAttr]; omega)) (by first | assumption | simp only [go_sem, simprocAttr, hg1, ghn, ghn1, bR1, kR1, rR, qR]) 2 rfl) ?_
  intro H9 had
  simp only [go_sem, simprocAttr, hg1, ghn, ghn1, bR1, kR1, rR, qR, san_trouble]
  (repeat first | exact Adv.refl _ _ | assumption | refine Adv.trans ?_ ‹Adv _ _ _› | apply Adv.up | apply Adv.put | refine Adv.new ?_ (by omega) _ | refine Adv.live ?_ (by omega) _ | refine Adv.owns ?_ (by omega) (by first | exact OwnB.lo ‹_› | exact fun _ _ _ h => by cases h))
 have d : decide (2000 ≤ ((s.cnt : Nat) : Int)) = false := by simp; omega
 have d' : decide (2000 ≤ s.cnt) = false := by simp; omega
 rw [d'] at hq
 simp only at hq
 have hwc := wrap1 (show s.cnt + 1 ≤ 9223372036854775807 by omega)
 have pSR : (H1.next + 13 = H.next) = False := eq_false (by omega)
 have pRS : (H.next = H1.next + 13) = False := eq_false (by omega)
 have rS : (H1.next + 13 = r) = False := eq_false (by omega)
 have qS : (r = H1.next + 13) = False := eq_false (by omega)
 simp only [go_sem, simprocAttr, hg1, ghn, ghn1, bR1, kR1, rR, qR, pRS, rS, qS, pSR, d, hwc]
 refine goC_ok (c_take_no (s := s.count) (l := l) (en := en) hlen hf (by first | omega | (simp only [go_sem, simprocAttr]; omega)) (by first | assumption | simp only [go_sem, simprocAttr, hg1, ghn, ghn1, bR1, kR1, rR, qR, pRS, rS, qS, pSR]) (by decide) (show isT l s.count [105, 102] = false from h3)) ?_
 intro H2 hg2 ha2
 have hl2 := ha2.1
 try simp only [go_sem, simprocAttr] at hl2
 have hr2 : r < H2.next := by omega
 have ghn2 := ne_all hr2
 have bR2 : H2.get (H.next) = some (sZ) := (ha2.get (by first | omega | (simp only [go_sem, simprocAttr]; omega)) (by omega)).trans (by simp only [go_sem, simprocAttr, hg1, ghn, ghn1, bR1, kR1, rR, qR, pRS, rS, qS, pSR])
 have kR2 := ne_thr (a := H.next) (b := H2.next) (by omega)
 have bS2 : H2.get (H1.next + 13) = some (sZ) := (ha2.get (by first | omega | (simp only [go_sem, simprocAttr]; omega)) (by omega)).trans (by simp only [go_sem, simprocAttr, hg1, ghn, ghn1, bR1, kR1, rR, qR, pRS, rS, qS, pSR])
 have kS2 := ne_thr (a := H1.next + 13) (b := H2.next) (by omega)
 simp only [go_sem, simprocAttr, hg2, ghn, ghn2, bR2, kR2, rR, qR, pRS, bS2, kS2, rS, qS, pSR]
 refine goC_ok (c_take_no (s := s.count) (l := l) (en := en) hlen hf (by first | omega | (simp only [go_sem, simprocAttr]; omega)) (by first | assumption | simp only [go_sem, simprocAttr, hg2, ghn, ghn2, bR2, kR2, rR, qR, pRS, bS2, kS2, rS, qS, pSR]) (by decide) (show isT l s.count [119, 104, 105, 108, 101] = false from h4)) ?_
 intro H3 hg3 ha3
 have hl3 := ha3.1
 try simp only [go_sem, simprocAttr] at hl3
 have hr3 : r < H3.next := by omega
 have ghn3 := ne_all hr3
 have bR3 : H3.get (H.next) = some (sZ) := (ha3.get (by first | omega | (simp only [go_sem, simprocAttr]; omega)) (by omega)).trans (by simp only [go_sem, simprocAttr, hg2, ghn, ghn2, bR2, kR2, rR, qR, pRS, bS2, kS2, rS, qS, pSR])
 have kR3 := ne_thr (a := H.next) (b := H3.next) (by omega)
 have bS3 : H3.get (H1.next + 13) = some (sZ) := (ha3.get (by first | omega | (simp only [go_sem, simprocAttr]; omega)) (by omega)).trans (by simp only [go_sem, simprocAttr, hg2, ghn, ghn2, bR2, kR2, rR, qR, pRS, bS2, kS2, rS, qS, pSR])
 have kS3 := ne_thr (a := H1.next + 13) (b := H3.next) (by omega)
 simp only [go_sem, simprocAttr, hg3, ghn, ghn3, bR3, kR3, rR, qR, pRS, bS3, kS3, rS, qS, pSR]
 refine goC_ok (c_take_no (s := s.count) (l := l) (en := en) hlen hf (by first | omega | (simp only [go_sem, simprocAttr]; omega)) (by first | assumption | simp only [go_sem, simprocAttr, hg3, ghn, ghn3, bR3, kR3, rR, qR, pRS, bS3, kS3, rS, qS, pSR]) (by decide) (show isT l s.count [111, 117, 116] = false from h1)) ?_
 intro H4 hg4 ha4
 have hl4 := ha4.1
 try simp only [go_sem, simprocAttr] at hl4
 have hr4 : r < H4.next := by omega
 have ghn4 := ne_all hr4
 have bR4 : H4.get (H.next) = some (sZ) := (ha4.get (by first | omega | (simp only [go_sem, simprocAttr]; omega)) (by omega)).trans (by simp only [go_sem, simprocAttr, hg3, ghn, ghn3, bR3, kR3, rR, qR, pRS, bS3, kS3, rS, qS, pSR])
 have kR4 := ne_thr (a := H.next) (b := H4.next) (by omega)
 have bS4 : H4.get (H1.next + 13) = some (sZ) := (ha4.get (by first | omega | (simp only [go_sem, simprocAttr]; omega)) (by omega)).trans (by simp only [go_sem, simprocAttr, hg3, ghn, ghn3, bR3, kR3, rR, qR, pRS, bS3, kS3, rS, qS, pSR])
 have kS4 := ne_thr (a := H1.next + 13) (b := H4.next) (by omega)
 simp only [go_sem, simprocAttr, hg4, ghn, ghn4, bR4, kR4, rR, qR, pRS, bS4, kS4, rS, qS, pSR]
 refine goC_ok (c_take_no (s := s.count) (l := l) (en := en) hlen hf (by first | omega | (simp only [go_sem, simprocAttr]; omega)) (by first | assumption | simp only [go_sem, simprocAttr, hg4, ghn, ghn4, bR4, kR4, rR, qR, pRS, bS4, kS4, rS, qS, pSR]) (by decide) (show isT l s.count [114, 101, 116, 117, 114, 110] = false from h2)) ?_
 intro H5 hg5 ha5
 have hl5 := ha5.1
 try simp only [go_sem, simprocAttr] at hl5
 have hr5 : r < H5.next := by omega
 have ghn5 := ne_all hr5
 have bR5 : H5.get (H.next) = some (sZ) := (ha5.get (by first | omega | (simp only [go_sem, simprocAttr]; omega)) (by omega)).trans (by simp only [go_sem, simprocAttr, hg4, ghn, ghn4, bR4, kR4, rR, qR, pRS, bS4, kS4, rS, qS, pSR])
 have kR5 := ne_thr (a := H.next) (b := H5.next) (by omega)
 have bS5 : H5.get (H1.next + 13) = some (sZ) := (ha5.get (by first | omega | (simp only [go_sem, simprocAttr]; omega)) (by omega)).trans (by simp only [go_sem, simprocAttr, hg4, ghn, ghn4, bR4, kR4, rR, qR, pRS, bS4, kS4, rS, qS, pSR])
 have kS5 := ne_thr (a := H1.next + 13) (b := H5.next) (by omega)
 simp only [go_sem, simprocAttr, hg5, ghn, ghn5, bR5, kR5, rR, qR, pRS, bS5, kS5, rS, qS, pSR]
 have hsim : simple l en s.count = assign l en s.count := by simp only [simple, tOut, tReturn, show isT l s.count [111, 117, 116] = false from h1, show isT l s.count [114, 101, 116, 117, 114, 110] = false from h2]
 simp only [semi, hsim] at hq
 cases hq
 refine goC_out (c_assign (s := s.count) (l := l) (en := en) hlen hf (by first | omega | (simp only [go_sem, simprocAttr]; omega)) (by first | assumption | simp only [go_sem, simprocAttr, hg5, ghn, ghn5, bR5, kR5, rR, qR, pRS, bS5, kS5, rS, qS, pSR])) ?_ ?_
 case refine_2 =>
  intro q9 hq9 H9 had
  rw [outP_some (show (need l en (assign l en s.count).1 [59]).f = some q9 by rw [need_bad' (ok_some hq9)]; exact hq9)]
  simp only [go_sem, simprocAttr, san_trouble]
  (repeat first | exact Adv.refl _ _ | assumption | refine Adv.trans ?_ ‹Adv _ _ _› | apply Adv.up | apply Adv.put | refine Adv.new ?_ (by omega) _ | refine Adv.live ?_ (by omega) _ | refine Adv.owns ?_ (by omega) (by first | exact OwnB.lo ‹_› | exact fun _ _ _ h => by cases h))
 intro hf8 H6 hg6 ha6
 have hl6 := ha6.1
 try simp only [go_sem, simprocAttr] at hl6
 have hr6 : r < H6.next := by omega
 have ghn6 := ne_all hr6
 have bR6 : H6.get (H.next) = some (sZ) := (ha6.get (by first | omega | (simp only [go_sem, simprocAttr]; omega)) (by omega)).trans (by simp only [go_sem, simprocAttr, hg5, ghn, ghn5, bR5, kR5, rR, qR, pRS, bS5, kS5, rS, qS, pSR])
 have kR6 := ne_thr (a := H.next) (b := H6.next) (by omega)
 have bS6 : H6.get (H1.next + 13) = some (sZ) := (ha6.get (by first | omega | (simp only [go_sem, simprocAttr]; omega)) (by omega)).trans (by simp only [go_sem, simprocAttr, hg5, ghn, ghn5, bR5, kR5, rR, qR, pRS, bS5, kS5, rS, qS, pSR])
 have kS6 := ne_thr (a := H1.next + 13) (b := H6.next) (by omega)
 simp only [go_sem, simprocAttr, hg6, ghn, ghn6, bR6, kR6, rR, qR, pRS, bS6, kS6, rS, qS, pSR]
 refine goC_out (c_need (s := (assign l en s.count).1) (l := l) (en := en) hlen hf8 (by first | omega | (simp only [go_sem, simprocAttr]; omega)) (by first | assumption | simp only [go_sem, simprocAttr, hg6, ghn, ghn6, bR6, kR6, rR, qR, pRS, bS6, kS6, rS, qS, pSR]) [59] (by decide)) ?_ ?_
 case refine_2 =>
  intro q9 hq9 H9 had
  rw [outP_some (show (need l en (assign l en s.count).1 [59]).f = some q9 by exact hq9)]
  simp only [go_sem, simprocAttr, san_trouble]
  (repeat first | exact Adv.refl _ _ | assumption | refine Adv.trans ?_ ‹Adv _ _ _› | apply Adv.up | apply Adv.put | refine Adv.new ?_ (by omega) _ | refine Adv.live ?_ (by omega) _ | refine Adv.owns ?_ (by omega) (by first | exact OwnB.lo ‹_› | exact fun _ _ _ h => by cases h))
 intro hf9 H7 hg7 ha7
 have hl7 := ha7.1
 try simp only [go_sem, simprocAttr] at hl7
 have hr7 : r < H7.next := by omega
 have ghn7 := ne_all hr7
 have bR7 : H7.get (H.next) = some (sZ) := (ha7.get (by first | omega | (simp only [go_sem, simprocAttr]; omega)) (by omega)).trans (by simp only [go_sem, simprocAttr, hg6, ghn, ghn6, bR6, kR6, rR, qR, pRS, bS6, kS6, rS, qS, pSR])
 have kR7 := ne_thr (a := H.next) (b := H7.next) (by omega)
 have bS7 : H7.get (H1.next + 13) = some (encStmt (assign l en s.count).2) := (ha7.get (by first | omega | (simp only [go_sem, simprocAttr]; omega)) (by omega)).trans (by simp only [go_sem, simprocAttr, hg6, ghn, ghn6, bR6, kR6, rR, qR, pRS, bS6, kS6, rS, qS, pSR])
 have kS7 := ne_thr (a := H1.next + 13) (b := H7.next) (by omega)
 rw [outP_none hf9]
 simp only [go_sem, simprocAttr, hg7, ghn, ghn7, bR7, kR7, rR, qR, pRS, bS7, kS7, rS, qS, pSR, rs]
 (repeat first | exact Adv.refl _ _ | assumption | refine Adv.trans ?_ ‹Adv _ _ _› | apply Adv.up | apply Adv.put | refine Adv.new ?_ (by omega) _ | refine Adv.live ?_ (by omega) _ | refine Adv.owns ?_ (by omega) (by first | exact OwnB.lo ‹_› | exact fun _ _ _ h => by cases h))
set_option maxRecDepth 20000 in
theorem c_stmt1 (hlen : l.length ≤ LM) (n : Nat) (ihb : PBlockOk l en n) (deep : Nat) (hn : 3 * rem l s + 1 ≤ n + 1) (hdeep : deep ≤ 33) (h0 : isName l s = false) (h1 : isT l s [111, 117, 116] = true) (h2 : isT l s [114, 101, 116, 117, 114, 110] = false) (h3 : isT l s [105, 102] = false) (h4 : isT l s [119, 104, 105, 108, 101] = false) (hf : s.f = none) (hr : r < H.next) (hg : H.get r = some (cP l en s)) :
  PCall Tryz.prog cfg r 104 [.ptr r 0, .lit (.int .i64 (deep : Nat))] H (outP l en (stmtF l en (n + 1) s deep).1 (.agg (encStmt (stmtF l en (n + 1) s deep).2))) := by
 have _ := ihb
 have _ := hn
 have _ := hdeep
 obtain ⟨q1, q2, hq⟩ : ∃ q1 q2, stmtF l en (n + 1) s deep = (q1, q2) := ⟨_, _, rfl⟩
 rw [hq]
 show PCall _ _ _ _ _ _ (outP l en q1 (.agg (encStmt q2)))
 refine PCall_of' (fn := Tryz.f104) rfl rfl rfl rfl rfl ?_
 have rs : Tryz.f104.results.toList = [.cell 4 40] := rfl
 have eM := encStmt_mk
 have ghn := ne_all hr
 unfold stmtF at hq
 have hst : starts l s = true := by simp only [starts, tOut, tReturn, tIf, tWhile, h0, h1, h2, h3, h4, Bool.or_true, Bool.true_or]
 rw [hst] at hq
 simp only [tIf, tWhile, h3, h4] at hq
 simp only [go_sem, simprocAttr]
 have rR : (H.next = r) = False := eq_false (by omega)
 have qR : (r = H.next) = False := eq_false (by omega)
 refine goC_ok (c_isName (s := s) (l := l) (en := en) hlen hf (by first | omega | (simp only [go_sem, simprocAttr]; omega)) (by first | assumption | simp only [go_sem, simprocAttr, hg, ghn, rR, qR])) ?_
 intro H1 hg1 ha1
 have hl1 := ha1.1
 try simp only [go_sem, simprocAttr] at hl1
 have hr1 : r < H1.next := by omega
 have ghn1 := ne_all hr1
 have bR1 : H1.get (H.next) = some (sZ) := (ha1.get (by first | omega | (simp only [go_sem, simprocAttr]; omega)) (by omega)).trans (by simp only [go_sem, simprocAttr, hg, ghn, rR, qR])
 have kR1 := ne_thr (a := H.next) (b := H1.next) (by omega)
 simp only [go_sem, simprocAttr, hg1, ghn, ghn1, bR1, kR1, rR, qR, h0]
 refine goC_ok (c_is (s := s) (l := l) (en := en) hlen hf (by first | omega | (simp only [go_sem, simprocAttr]; omega)) (by first | assumption | simp only [go_sem, simprocAttr, hg1, ghn, ghn1, bR1, kR1, rR, qR]) [111, 117, 116] (by decide)) ?_
 intro H2 hg2 ha2
 have hl2 := ha2.1
 try simp only [go_sem, simprocAttr] at hl2
 have hr2 : r < H2.next := by omega
 have ghn2 := ne_all hr2
 have bR2 : H2.get (H.next) = some (sZ) := (ha2.get (by first | omega | (simp only [go_sem, simprocAttr]; omega)) (by omega)).trans (by simp only [go_sem, simprocAttr, hg1, ghn, ghn1, bR1, kR1, rR, qR])
 have kR2 := ne_thr (a := H.next) (b := H2.next) (by omega)
 simp only [go_sem, simprocAttr, hg2, ghn, ghn2, bR2, kR2, rR, qR, h1]
 by_cases hc : 2000 ≤ s.cnt
 ·have d : decide (2000 ≤ ((s.cnt : Nat) : Int)) = true := by simp; omega
  have d' : decide (2000 ≤ s.cnt) = true := by simp [hc]
  rw [d'] at hq
  cases hq
  rw [outP_fail hf]
  simp only [go_sem, simprocAttr, hg2, ghn, ghn2, bR2, kR2, rR, qR, d]
  refine goC_bad (c_fail (s := s) (l := l) (en := en) (by first | omega | (simp only [go_sem, simprocAttr]; omega)) (by first | assumption | simp only [go_sem, simprocAttr, hg2, ghn, ghn2, bR2, kR2, rR, qR]) 2 rfl) ?_
  intro H9 had
  simp only [go_sem, simprocAttr, hg2, ghn, ghn2, bR2, kR2, rR, qR, san_trouble]
  (repeat first | exact Adv.refl _ _ | assumption | refine Adv.trans ?_ ‹Adv _ _ _› | apply Adv.up | apply Adv.put | refine Adv.new ?_ (by omega) _ | refine Adv.live ?_ (by omega) _ | refine Adv.owns ?_ (by omega) (by first | exact OwnB.lo ‹_› | exact fun _ _ _ h => by cases h))
 have d : decide (2000 ≤ ((s.cnt : Nat) : Int)) = false := by simp; omega
 have d' : decide (2000 ≤ s.cnt) = false := by simp; omega
 rw [d'] at hq
 simp only at hq
 have hwc := wrap1 (show s.cnt + 1 ≤ 9223372036854775807 by omega)
 have pSR : (H2.next + 13 = H.next) = False := eq_false (by omega)
 have pRS : (H.next = H2.next + 13) = False := eq_false (by omega)
 have rS : (H2.next + 13 = r) = False := eq_false (by omega)
 have qS : (r = H2.next + 13) = False := eq_false (by omega)
 simp only [go_sem, simprocAttr, hg2, ghn, ghn2, bR2, kR2, rR, qR, pRS, rS, qS, pSR, d, hwc]
 refine goC_ok (c_take_no (s := s.count) (l := l) (en := en) hlen hf (by first | omega | (simp only [go_sem, simprocAttr]; omega)) (by first | assumption | simp only [go_sem, simprocAttr, hg2, ghn, ghn2, bR2, kR2, rR, qR, pRS, rS, qS, pSR]) (by decide) (show isT l s.count [105, 102] = false from h3)) ?_
 intro H3 hg3 ha3
 have hl3 := ha3.1
 try simp only [go_sem, simprocAttr] at hl3
 have hr3 : r < H3.next := by omega
 have ghn3 := ne_all hr3
 have bR3 : H3.get (H.next) = some (sZ) := (ha3.get (by first | omega | (simp only [go_sem, simprocAttr]; omega)) (by omega)).trans (by simp only [go_sem, simprocAttr, hg2, ghn, ghn2, bR2, kR2, rR, qR, pRS, rS, qS, pSR])
 have kR3 := ne_thr (a := H.next) (b := H3.next) (by omega)
 have bS3 : H3.get (H2.next + 13) = some (sZ) := (ha3.get (by first | omega | (simp only [go_sem, simprocAttr]; omega)) (by omega)).trans (by simp only [go_sem, simprocAttr, hg2, ghn, ghn2, bR2, kR2, rR, qR, pRS, rS, qS, pSR])
 have kS3 := ne_thr (a := H2.next + 13) (b := H3.next) (by omega)
 simp only [go_sem, simprocAttr, hg3, ghn, ghn3, bR3, kR3, rR, qR, pRS, bS3, kS3, rS, qS, pSR]
 refine goC_ok (c_take_no (s := s.count) (l := l) (en := en) hlen hf (by first | omega | (simp only [go_sem, simprocAttr]; omega)) (by first | assumption | simp only [go_sem, simprocAttr, hg3, ghn, ghn3, bR3, kR3, rR, qR, pRS, bS3, kS3, rS, qS, pSR]) (by decide) (show isT l s.count [119, 104, 105, 108, 101] = false from h4)) ?_
 intro H4 hg4 ha4
 have hl4 := ha4.1
 try simp only [go_sem, simprocAttr] at hl4
 have hr4 : r < H4.next := by omega
 have ghn4 := ne_all hr4
 have bR4 : H4.get (H.next) = some (sZ) := (ha4.get (by first | omega | (simp only [go_sem, simprocAttr]; omega)) (by omega)).trans (by simp only [go_sem, simprocAttr, hg3, ghn, ghn3, bR3, kR3, rR, qR, pRS, bS3, kS3, rS, qS, pSR])
 have kR4 := ne_thr (a := H.next) (b := H4.next) (by omega)
 have bS4 : H4.get (H2.next + 13) = some (sZ) := (ha4.get (by first | omega | (simp only [go_sem, simprocAttr]; omega)) (by omega)).trans (by simp only [go_sem, simprocAttr, hg3, ghn, ghn3, bR3, kR3, rR, qR, pRS, bS3, kS3, rS, qS, pSR])
 have kS4 := ne_thr (a := H2.next + 13) (b := H4.next) (by omega)
 simp only [go_sem, simprocAttr, hg4, ghn, ghn4, bR4, kR4, rR, qR, pRS, bS4, kS4, rS, qS, pSR]
 refine goC_ok (c_take_yes (s := s.count) (l := l) (en := en) hlen hf (by first | omega | (simp only [go_sem, simprocAttr]; omega)) (by first | assumption | simp only [go_sem, simprocAttr, hg4, ghn, ghn4, bR4, kR4, rR, qR, pRS, bS4, kS4, rS, qS, pSR]) (by decide) (show isT l s.count [111, 117, 116] = true from h1)) ?_
 intro H5 hg5 ha5
 have hl5 := ha5.1
 try simp only [go_sem, simprocAttr] at hl5
 have hr5 : r < H5.next := by omega
 have ghn5 := ne_all hr5
 have bR5 : H5.get (H.next) = some (sZ) := (ha5.get (by first | omega | (simp only [go_sem, simprocAttr]; omega)) (by omega)).trans (by simp only [go_sem, simprocAttr, hg4, ghn, ghn4, bR4, kR4, rR, qR, pRS, bS4, kS4, rS, qS, pSR])
 have kR5 := ne_thr (a := H.next) (b := H5.next) (by omega)
 have bS5 : H5.get (H2.next + 13) = some (sZ) := (ha5.get (by first | omega | (simp only [go_sem, simprocAttr]; omega)) (by omega)).trans (by simp only [go_sem, simprocAttr, hg4, ghn, ghn4, bR4, kR4, rR, qR, pRS, bS4, kS4, rS, qS, pSR])
 have kS5 := ne_thr (a := H2.next + 13) (b := H5.next) (by omega)
 simp only [go_sem, simprocAttr, hg5, ghn, ghn5, bR5, kR5, rR, qR, pRS, bS5, kS5, rS, qS, pSR]
 have hsim : simple l en s.count = ((operand l en s.count.adv).1, .mk 8 [] [] [] [(operand l en s.count.adv).2] [] [] []) := by simp only [simple, tOut, tReturn, show isT l s.count [111, 117, 116] = true from h1]
 simp only [semi, hsim] at hq
 cases hq
 refine goC_out (c_operand (s := s.count.adv) (l := l) (en := en) hlen hf (by first | omega | (simp only [go_sem, simprocAttr]; omega)) (by first | assumption | simp only [go_sem, simprocAttr, hg5, ghn, ghn5, bR5, kR5, rR, qR, pRS, bS5, kS5, rS, qS, pSR])) ?_ ?_
 case refine_2 =>
  intro q9 hq9 H9 had
  rw [outP_some (show (need l en (operand l en s.count.adv).1 [59]).f = some q9 by rw [need_bad' (ok_some hq9)]; exact hq9)]
  simp only [go_sem, simprocAttr, san_trouble]
  (repeat first | exact Adv.refl _ _ | assumption | refine Adv.trans ?_ ‹Adv _ _ _› | apply Adv.up | apply Adv.put | refine Adv.new ?_ (by omega) _ | refine Adv.live ?_ (by omega) _ | refine Adv.owns ?_ (by omega) (by first | exact OwnB.lo ‹_› | exact fun _ _ _ h => by cases h))
 intro hf8 H6 hg6 ha6
 have hl6 := ha6.1
 try simp only [go_sem, simprocAttr] at hl6
 have hr6 : r < H6.next := by omega
 have ghn6 := ne_all hr6
 have bR6 : H6.get (H.next) = some (sZ) := (ha6.get (by first | omega | (simp only [go_sem, simprocAttr]; omega)) (by omega)).trans (by simp only [go_sem, simprocAttr, hg5, ghn, ghn5, bR5, kR5, rR, qR, pRS, bS5, kS5, rS, qS, pSR])
 have kR6 := ne_thr (a := H.next) (b := H6.next) (by omega)
 have bS6 : H6.get (H2.next + 13) = some (sZ) := (ha6.get (by first | omega | (simp only [go_sem, simprocAttr]; omega)) (by omega)).trans (by simp only [go_sem, simprocAttr, hg5, ghn, ghn5, bR5, kR5, rR, qR, pRS, bS5, kS5, rS, qS, pSR])
 have kS6 := ne_thr (a := H2.next + 13) (b := H6.next) (by omega)
 simp only [go_sem, simprocAttr, hg6, ghn, ghn6, bR6, kR6, rR, qR, pRS, bS6, kS6, rS, qS, pSR]
 refine goC_out (c_need (s := (operand l en s.count.adv).1) (l := l) (en := en) hlen hf8 (by first | omega | (simp only [go_sem, simprocAttr]; omega)) (by first | assumption | simp only [go_sem, simprocAttr, hg6, ghn, ghn6, bR6, kR6, rR, qR, pRS, bS6, kS6, rS, qS, pSR]) [59] (by decide)) ?_ ?_
 case refine_2 =>
  intro q9 hq9 H9 had
  rw [outP_some (show (need l en (operand l en s.count.adv).1 [59]).f = some q9 by exact hq9)]
  simp only [go_sem, simprocAttr, san_trouble]
  (repeat first | exact Adv.refl _ _ | assumption | refine Adv.trans ?_ ‹Adv _ _ _› | apply Adv.up | apply Adv.put | refine Adv.new ?_ (by omega) _ | refine Adv.live ?_ (by omega) _ | refine Adv.owns ?_ (by omega) (by first | exact OwnB.lo ‹_› | exact fun _ _ _ h => by cases h))
 intro hf9 H7 hg7 ha7
 have hl7 := ha7.1
 try simp only [go_sem, simprocAttr] at hl7
 have hr7 : r < H7.next := by omega
 have ghn7 := ne_all hr7
 have bR7 : H7.get (H.next) = some (sZ) := (ha7.get (by first | omega | (simp only [go_sem, simprocAttr]; omega)) (by omega)).trans (by simp only [go_sem, simprocAttr, hg6, ghn, ghn6, bR6, kR6, rR, qR, pRS, bS6, kS6, rS, qS, pSR])
 have kR7 := ne_thr (a := H.next) (b := H7.next) (by omega)
 have bS7 : H7.get (H2.next + 13) = some ([.lit (.int .i64 8), .lit (.string (ba [])), .lit (.string (ba [])), .lit (.string (ba [])), .sl .ex [encOpd (operand l en s.count.adv).2], .sl .nil [], .sl .nil [], .sl .nil []]) := (ha7.get (by first | omega | (simp only [go_sem, simprocAttr]; omega)) (by omega)).trans (by simp only [go_sem, simprocAttr, hg6, ghn, ghn6, bR6, kR6, rR, qR, pRS, bS6, kS6, rS, qS, pSR])
 have kS7 := ne_thr (a := H2.next + 13) (b := H7.next) (by omega)
 rw [outP_none hf9]
 simp only [go_sem, simprocAttr, hg7, ghn, ghn7, bR7, kR7, rR, qR, pRS, bS7, kS7, rS, qS, pSR, rs, eM, List.map_cons, List.map_nil]
 (repeat first | exact Adv.refl _ _ | assumption | refine Adv.trans ?_ ‹Adv _ _ _› | apply Adv.up | apply Adv.put | refine Adv.new ?_ (by omega) _ | refine Adv.live ?_ (by omega) _ | refine Adv.owns ?_ (by omega) (by first | exact OwnB.lo ‹_› | exact fun _ _ _ h => by cases h))
set_option maxRecDepth 20000 in
theorem c_stmt2 (hlen : l.length ≤ LM) (n : Nat) (ihb : PBlockOk l en n) (deep : Nat) (hn : 3 * rem l s + 1 ≤ n + 1) (hdeep : deep ≤ 33) (h0 : isName l s = false) (h1 : isT l s [111, 117, 116] = false) (h2 : isT l s [114, 101, 116, 117, 114, 110] = true) (h3 : isT l s [105, 102] = false) (h4 : isT l s [119, 104, 105, 108, 101] = false) (hf : s.f = none) (hr : r < H.next) (hg : H.get r = some (cP l en s)) :
  PCall Tryz.prog cfg r 104 [.ptr r 0, .lit (.int .i64 (deep : Nat))] H (outP l en (stmtF l en (n + 1) s deep).1 (.agg (encStmt (stmtF l en (n + 1) s deep).2))) := by
 have _ := ihb
 have _ := hn
 have _ := hdeep
 obtain ⟨q1, q2, hq⟩ : ∃ q1 q2, stmtF l en (n + 1) s deep = (q1, q2) := ⟨_, _, rfl⟩
 rw [hq]
 show PCall _ _ _ _ _ _ (outP l en q1 (.agg (encStmt q2)))
 refine PCall_of' (fn := Tryz.f104) rfl rfl rfl rfl rfl ?_
 have rs : Tryz.f104.results.toList = [.cell 4 40] := rfl
 have eM := encStmt_mk
 have ghn := ne_all hr
 unfold stmtF at hq
 have hst : starts l s = true := by simp only [starts, tOut, tReturn, tIf, tWhile, h0, h1, h2, h3, h4, Bool.or_true, Bool.true_or]
 rw [hst] at hq
 simp only [tIf, tWhile, h3, h4] at hq
 simp only [go_sem, simprocAttr]
 have rR : (H.next = r) = False := eq_false (by omega)
 have qR : (r = H.next) = False := eq_false (by omega)
 refine goC_ok (c_isName (s := s) (l := l) (en := en) hlen hf (by first | omega | (simp only [go_sem, simprocAttr]; omega)) (by first | assumption | simp only [go_sem, simprocAttr, hg, ghn, rR, qR])) ?_
 intro H1 hg1 ha1
 have hl1 := ha1.1
 try simp only [go_sem, simprocAttr] at hl1
 have hr1 : r < H1.next := by omega
 have ghn1 := ne_all hr1
 have bR1 : H1.get (H.next) = some (sZ) := (ha1.get (by first | omega | (simp only [go_sem, simprocAttr]; omega)) (by omega)).trans (by simp only [go_sem, simprocAttr, hg, ghn, rR, qR])
 have kR1 := ne_thr (a := H.next) (b := H1.next) (by omega)
 simp only [go_sem, simprocAttr, hg1, ghn, ghn1, bR1, kR1, rR, qR, h0]
 refine goC_ok (c_is (s := s) (l := l) (en := en) hlen hf (by first | omega | (simp only [go_sem, simprocAttr]; omega)) (by first | assumption | simp only [go_sem, simprocAttr, hg1, ghn, ghn1, bR1, kR1, rR, qR]) [111, 117, 116] (by decide)) ?_
 intro H2 hg2 ha2
 have hl2 := ha2.1
 try simp only [go_sem, simprocAttr] at hl2
 have hr2 : r < H2.next := by omega
 have ghn2 := ne_all hr2
 have bR2 : H2.get (H.next) = some (sZ) := (ha2.get (by first | omega | (simp only [go_sem, simprocAttr]; omega)) (by omega)).trans (by simp only [go_sem, simprocAttr, hg1, ghn, ghn1, bR1, kR1, rR, qR])
 have kR2 := ne_thr (a := H.next) (b := H2.next) (by omega)
 simp only [go_sem, simprocAttr, hg2, ghn, ghn2, bR2, kR2, rR, qR, h1]
 refine goC_ok (c_is (s := s) (l := l) (en := en) hlen hf (by first | omega | (simp only [go_sem, simprocAttr]; omega)) (by first | assumption | simp only [go_sem, simprocAttr, hg2, ghn, ghn2, bR2, kR2, rR, qR]) [114, 101, 116, 117, 114, 110] (by decide)) ?_
 intro H3 hg3 ha3
 have hl3 := ha3.1
 try simp only [go_sem, simprocAttr] at hl3
 have hr3 : r < H3.next := by omega
 have ghn3 := ne_all hr3
 have bR3 : H3.get (H.next) = some (sZ) := (ha3.get (by first | omega | (simp only [go_sem, simprocAttr]; omega)) (by omega)).trans (by simp only [go_sem, simprocAttr, hg2, ghn, ghn2, bR2, kR2, rR, qR])
 have kR3 := ne_thr (a := H.next) (b := H3.next) (by omega)
 simp only [go_sem, simprocAttr, hg3, ghn, ghn3, bR3, kR3, rR, qR, h2]
 by_cases hc : 2000 ≤ s.cnt
 ·have d : decide (2000 ≤ ((s.cnt : Nat) : Int)) = true := by simp; omega
  have d' : decide (2000 ≤ s.cnt) = true := by simp [hc]
  rw [d'] at hq
  cases hq
  rw [outP_fail hf]
  simp only [go_sem, simprocAttr, hg3, ghn, ghn3, bR3, kR3, rR, qR, d]
  refine goC_bad (c_fail (s := s) (l := l) (en := en) (by first | omega | (simp only [go_sem, simprocAttr]; omega)) (by first | assumption | simp only [go_sem, simprocAttr, hg3, ghn, ghn3, bR3, kR3, rR, qR]) 2 rfl) ?_
  intro H9 had
  simp only [go_sem, simprocAttr, hg3, ghn, ghn3, bR3, kR3, rR, qR, san_trouble]
  (repeat first | exact Adv.refl _ _ | assumption | refine Adv.trans ?_ ‹Adv _ _ _› | apply Adv.up | apply Adv.put | refine Adv.new ?_ (by omega) _ | refine Adv.live ?_ (by omega) _ | refine Adv.owns ?_ (by omega) (by first | exact OwnB.lo ‹_› | exact fun _ _ _ h => by cases h))
 have d : decide (2000 ≤ ((s.cnt : Nat) : Int)) = false := by simp; omega
 have d' : decide (2000 ≤ s.cnt) = false := by simp; omega
 rw [d'] at hq
 simp only at hq
 have hwc := wrap1 (show s.cnt + 1 ≤ 9223372036854775807 by omega)
 have pSR : (H3.next + 13 = H.next) = False := eq_false (by omega)
 have pRS : (H.next = H3.next + 13) = False := eq_false (by omega)
 have rS : (H3.next + 13 = r) = False := eq_false (by omega)
 have qS : (r = H3.next + 13) = False := eq_false (by omega)
 simp only [go_sem, simprocAttr, hg3, ghn, ghn3, bR3, kR3, rR, qR, pRS, rS, qS, pSR, d, hwc]
 refine goC_ok (c_take_no (s := s.count) (l := l) (en := en) hlen hf (by first | omega | (simp only [go_sem, simprocAttr]; omega)) (by first | assumption | simp only [go_sem, simprocAttr, hg3, ghn, ghn3, bR3, kR3, rR, qR, pRS, rS, qS, pSR]) (by decide) (show isT l s.count [105, 102] = false from h3)) ?_
 intro H4 hg4 ha4
 have hl4 := ha4.1
 try simp only [go_sem, simprocAttr] at hl4
 have hr4 : r < H4.next := by omega
 have ghn4 := ne_all hr4
 have bR4 : H4.get (H.next) = some (sZ) := (ha4.get (by first | omega | (simp only [go_sem, simprocAttr]; omega)) (by omega)).trans (by simp only [go_sem, simprocAttr, hg3, ghn, ghn3, bR3, kR3, rR, qR, pRS, rS, qS, pSR])
 have kR4 := ne_thr (a := H.next) (b := H4.next) (by omega)
 have bS4 : H4.get (H3.next + 13) = some (sZ) := (ha4.get (by first | omega | (simp only [go_sem, simprocAttr]; omega)) (by omega)).trans (by simp only [go_sem, simprocAttr, hg3, ghn, ghn3, bR3, kR3, rR, qR, pRS, rS, qS, pSR])
 have kS4 := ne_thr (a := H3.next + 13) (b := H4.next) (by omega)
 simp only [go_sem, simprocAttr, hg4, ghn, ghn4, bR4, kR4, rR, qR, pRS, bS4, kS4, rS, qS, pSR]
 refine goC_ok (c_take_no (s := s.count) (l := l) (en := en) hlen hf (by first | omega | (simp only [go_sem, simprocAttr]; omega)) (by first | assumption | simp only [go_sem, simprocAttr, hg4, ghn, ghn4, bR4, kR4, rR, qR, pRS, bS4, kS4, rS, qS, pSR]) (by decide) (show isT l s.count [119, 104, 105, 108, 101] = false from h4)) ?_
 intro H5 hg5 ha5
 have hl5 := ha5.1
 try simp only [go_sem, simprocAttr] at hl5
 have hr5 : r < H5.next := by omega
 have ghn5 := ne_all hr5
 have bR5 : H5.get (H.next) = some (sZ) := (ha5.get (by first | omega | (simp only [go_sem, simprocAttr]; omega)) (by omega)).trans (by simp only [go_sem, simprocAttr, hg4, ghn, ghn4, bR4, kR4, rR, qR, pRS, bS4, kS4, rS, qS, pSR])
 have kR5 := ne_thr (a := H.next) (b := H5.next) (by omega)
 have bS5 : H5.get (H3.next + 13) = some (sZ) := (ha5.get (by first | omega | (simp only [go_sem, simprocAttr]; omega)) (by omega)).trans (by simp only [go_sem, simprocAttr, hg4, ghn, ghn4, bR4, kR4, rR, qR, pRS, bS4, kS4, rS, qS, pSR])
 have kS5 := ne_thr (a := H3.next + 13) (b := H5.next) (by omega)
 simp only [go_sem, simprocAttr, hg5, ghn, ghn5, bR5, kR5, rR, qR, pRS, bS5, kS5, rS, qS, pSR]
 refine goC_ok (c_take_no (s := s.count) (l := l) (en := en) hlen hf (by first | omega | (simp only [go_sem, simprocAttr]; omega)) (by first | assumption | simp only [go_sem, simprocAttr, hg5, ghn, ghn5, bR5, kR5, rR, qR, pRS, bS5, kS5, rS, qS, pSR]) (by decide) (show isT l s.count [111, 117, 116] = false from h1)) ?_
 intro H6 hg6 ha6
 have hl6 := ha6.1
 try simp only [go_sem, simprocAttr] at hl6
 have hr6 : r < H6.next := by omega
 have ghn6 := ne_all hr6
 have bR6 : H6.get (H.next) = some (sZ) := (ha6.get (by first | omega | (simp only [go_sem, simprocAttr]; omega)) (by omega)).trans (by simp only [go_sem, simprocAttr, hg5, ghn, ghn5, bR5, kR5, rR, qR, pRS, bS5, kS5, rS, qS, pSR])
 have kR6 := ne_thr (a := H.next) (b := H6.next) (by omega)
 have bS6 : H6.get (H3.next + 13) = some (sZ) := (ha6.get (by first | omega | (simp only [go_sem, simprocAttr]; omega)) (by omega)).trans (by simp only [go_sem, simprocAttr, hg5, ghn, ghn5, bR5, kR5, rR, qR, pRS, bS5, kS5, rS, qS, pSR])
 have kS6 := ne_thr (a := H3.next + 13) (b := H6.next) (by omega)
 simp only [go_sem, simprocAttr, hg6, ghn, ghn6, bR6, kR6, rR, qR, pRS, bS6, kS6, rS, qS, pSR]
 refine goC_ok (c_take_yes (s := s.count) (l := l) (en := en) hlen hf (by first | omega | (simp only [go_sem, simprocAttr]; omega)) (by first | assumption | simp only [go_sem, simprocAttr, hg6, ghn, ghn6, bR6, kR6, rR, qR, pRS, bS6, kS6, rS, qS, pSR]) (by decide) (show isT l s.count [114, 101, 116, 117, 114, 110] = true from h2)) ?_
 intro H7 hg7 ha7
 have hl7 := ha7.1
 try simp only [go_sem, simprocAttr] at hl7
 have hr7 : r < H7.next := by omega
 have ghn7 := ne_all hr7
 have bR7 : H7.get (H.next) = some (sZ) := (ha7.get (by first | omega | (simp only [go_sem, simprocAttr]; omega)) (by omega)).trans (by simp only [go_sem, simprocAttr, hg6, ghn, ghn6, bR6, kR6, rR, qR, pRS, bS6, kS6, rS, qS, pSR])
 have kR7 := ne_thr (a := H.next) (b := H7.next) (by omega)
 have bS7 : H7.get (H3.next + 13) = some (sZ) := (ha7.get (by first | omega | (simp only [go_sem, simprocAttr]; omega)) (by omega)).trans (by simp only [go_sem, simprocAttr, hg6, ghn, ghn6, bR6, kR6, rR, qR, pRS, bS6, kS6, rS, qS, pSR])
 have kS7 := ne_thr (a := H3.next + 13) (b := H7.next) (by omega)
 simp only [go_sem, simprocAttr, hg7, ghn, ghn7, bR7, kR7, rR, qR, pRS, bS7, kS7, rS, qS, pSR]
 have hsim : simple l en s.count = ((operand l en s.count.adv).1, .mk 11 [] [] [] [(operand l en s.count.adv).2] [] [] []) := by simp only [simple, tOut, tReturn, show isT l s.count [111, 117, 116] = false from h1, show isT l s.count [114, 101, 116, 117, 114, 110] = true from h2]
 simp only [semi, hsim] at hq
 cases hq
 refine goC_out (c_operand (s := s.count.adv) (l := l) (en := en) hlen hf (by first | omega | (simp only [go_sem, simprocAttr]; omega)) (by first | assumption | simp only [go_sem, simprocAttr, hg7, ghn, ghn7, bR7, kR7, rR, qR, pRS, bS7, kS7, rS, qS, pSR])) ?_ ?_
 case refine_2 =>
  intro q9 hq9 H9 had
  rw [outP_some (show (need l en (operand l en s.count.adv).1 [59]).f = some q9 by rw [need_bad' (ok_some hq9)]; exact hq9)]
  simp only [go_sem, simprocAttr, san_trouble]
  (repeat first | exact Adv.refl _ _ | assumption | refine Adv.trans ?_ ‹Adv _ _ _› | apply Adv.up | apply Adv.put | refine Adv.new ?_ (by omega) _ | refine Adv.live ?_ (by omega) _ | refine Adv.owns ?_ (by omega) (by first | exact OwnB.lo ‹_› | exact fun _ _ _ h => by cases h))
 intro hf8 H8 hg8 ha8
 have hl8 := ha8.1
 try simp only [go_sem, simprocAttr] at hl8
 have hr8 : r < H8.next := by omega
 have ghn8 := ne_all hr8
 have bR8 : H8.get (H.next) = some (sZ) := (ha8.get (by first | omega | (simp only [go_sem, simprocAttr]; omega)) (by omega)).trans (by simp only [go_sem, simprocAttr, hg7, ghn, ghn7, bR7, kR7, rR, qR, pRS, bS7, kS7, rS, qS, pSR])
 have kR8 := ne_thr (a := H.next) (b := H8.next) (by omega)
 have bS8 : H8.get (H3.next + 13) = some (sZ) := (ha8.get (by first | omega | (simp only [go_sem, simprocAttr]; omega)) (by omega)).trans (by simp only [go_sem, simprocAttr, hg7, ghn, ghn7, bR7, kR7, rR, qR, pRS, bS7, kS7, rS, qS, pSR])
 have kS8 := ne_thr (a := H3.next + 13) (b := H8.next) (by omega)
 simp only [go_sem, simprocAttr, hg8, ghn, ghn8, bR8, kR8, rR, qR, pRS, bS8, kS8, rS, qS, pSR]
 refine goC_out (c_need (s := (operand l en s.count.adv).1) (l := l) (en := en) hlen hf8 (by first | omega | (simp only [go_sem, simprocAttr]; omega)) (by first | assumption | simp only [go_sem, simprocAttr, hg8, ghn, ghn8, bR8, kR8, rR, qR, pRS, bS8, kS8, rS, qS, pSR]) [59] (by decide)) ?_ ?_
 case refine_2 =>
  intro q9 hq9 H9 had
  rw [outP_some (show (need l en (operand l en s.count.adv).1 [59]).f = some q9 by exact hq9)]
  simp only [go_sem, simprocAttr, san_trouble]
  (repeat first | exact Adv.refl _ _ | assumption | refine Adv.trans ?_ ‹Adv _ _ _› | apply Adv.up | apply Adv.put | refine Adv.new ?_ (by omega) _ | refine Adv.live ?_ (by omega) _ | refine Adv.owns ?_ (by omega) (by first | exact OwnB.lo ‹_› | exact fun _ _ _ h => by cases h))
 intro hf9 H9 hg9 ha9
 have hl9 := ha9.1
 try simp only [go_sem, simprocAttr] at hl9
 have hr9 : r < H9.next := by omega
 have ghn9 := ne_all hr9
 have bR9 : H9.get (H.next) = some (sZ) := (ha9.get (by first | omega | (simp only [go_sem, simprocAttr]; omega)) (by omega)).trans (by simp only [go_sem, simprocAttr, hg8, ghn, ghn8, bR8, kR8, rR, qR, pRS, bS8, kS8, rS, qS, pSR])
 have kR9 := ne_thr (a := H.next) (b := H9.next) (by omega)
 have bS9 : H9.get (H3.next + 13) = some ([.lit (.int .i64 11), .lit (.string (ba [])), .lit (.string (ba [])), .lit (.string (ba [])), .sl .ex [encOpd (operand l en s.count.adv).2], .sl .nil [], .sl .nil [], .sl .nil []]) := (ha9.get (by first | omega | (simp only [go_sem, simprocAttr]; omega)) (by omega)).trans (by simp only [go_sem, simprocAttr, hg8, ghn, ghn8, bR8, kR8, rR, qR, pRS, bS8, kS8, rS, qS, pSR])
 have kS9 := ne_thr (a := H3.next + 13) (b := H9.next) (by omega)
 rw [outP_none hf9]
 simp only [go_sem, simprocAttr, hg9, ghn, ghn9, bR9, kR9, rR, qR, pRS, bS9, kS9, rS, qS, pSR, rs, eM, List.map_cons, List.map_nil]
 (repeat first | exact Adv.refl _ _ | assumption | refine Adv.trans ?_ ‹Adv _ _ _› | apply Adv.up | apply Adv.put | refine Adv.new ?_ (by omega) _ | refine Adv.live ?_ (by omega) _ | refine Adv.owns ?_ (by omega) (by first | exact OwnB.lo ‹_› | exact fun _ _ _ h => by cases h))
set_option maxRecDepth 20000 in
theorem c_stmt3 (hlen : l.length ≤ LM) (n : Nat) (ihb : PBlockOk l en n) (deep : Nat) (hn : 3 * rem l s + 1 ≤ n + 1) (hdeep : deep ≤ 33) (h0 : isName l s = false) (h1 : isT l s [111, 117, 116] = false) (h2 : isT l s [114, 101, 116, 117, 114, 110] = false) (h3 : isT l s [105, 102] = true) (h4 : isT l s [119, 104, 105, 108, 101] = false) (hf : s.f = none) (hr : r < H.next) (hg : H.get r = some (cP l en s)) :
  PCall Tryz.prog cfg r 104 [.ptr r 0, .lit (.int .i64 (deep : Nat))] H (outP l en (stmtF l en (n + 1) s deep).1 (.agg (encStmt (stmtF l en (n + 1) s deep).2))) := by
 obtain ⟨q1, q2, hq⟩ : ∃ q1 q2, stmtF l en (n + 1) s deep = (q1, q2) := ⟨_, _, rfl⟩
 rw [hq]
 show PCall _ _ _ _ _ _ (outP l en q1 (.agg (encStmt q2)))
 refine PCall_of' (fn := Tryz.f104) rfl rfl rfl rfl rfl ?_
 have rs : Tryz.f104.results.toList = [.cell 4 40] := rfl
 have eM := encStmt_mk
 have ghn := ne_all hr
 unfold stmtF at hq
 have hst : starts l s = true := by simp only [starts, tOut, tReturn, tIf, tWhile, h0, h1, h2, h3, h4, Bool.or_true, Bool.true_or]
 rw [hst] at hq
 simp only [tIf, tWhile, h3, h4] at hq
 simp only [go_sem, simprocAttr]
 have rR : (H.next = r) = False := eq_false (by omega)
 have qR : (r = H.next) = False := eq_false (by omega)
 refine goC_ok (c_isName (s := s) (l := l) (en := en) hlen hf (by first | omega | (simp only [go_sem, simprocAttr]; omega)) (by first | assumption | simp only [go_sem, simprocAttr, hg, ghn, rR, qR])) ?_
 intro H1 hg1 ha1
 have hl1 := ha1.1
 try simp only [go_sem, simprocAttr] at hl1
 have hr1 : r < H1.next := by omega
 have ghn1 := ne_all hr1
 have bR1 : H1.get (H.next) = some (sZ) := (ha1.get (by first | omega | (simp only [go_sem, simprocAttr]; omega)) (by omega)).trans (by simp only [go_sem, simprocAttr, hg, ghn, rR, qR])
 have kR1 := ne_thr (a := H.next) (b := H1.next) (by omega)
 simp only [go_sem, simprocAttr, hg1, ghn, ghn1, bR1, kR1, rR, qR, h0]
 refine goC_ok (c_is (s := s) (l := l) (en := en) hlen hf (by first | omega | (simp only [go_sem, simprocAttr]; omega)) (by first | assumption | simp only [go_sem, simprocAttr, hg1, ghn, ghn1, bR1, kR1, rR, qR]) [111, 117, 116] (by decide)) ?_
 intro H2 hg2 ha2
 have hl2 := ha2.1
 try simp only [go_sem, simprocAttr] at hl2
 have hr2 : r < H2.next := by omega
 have ghn2 := ne_all hr2
 have bR2 : H2.get (H.next) = some (sZ) := (ha2.get (by first | omega | (simp only [go_sem, simprocAttr]; omega)) (by omega)).trans (by simp only [go_sem, simprocAttr, hg1, ghn, ghn1, bR1, kR1, rR, qR])
 have kR2 := ne_thr (a := H.next) (b := H2.next) (by omega)
 simp only [go_sem, simprocAttr, hg2, ghn, ghn2, bR2, kR2, rR, qR, h1]
 refine goC_ok (c_is (s := s) (l := l) (en := en) hlen hf (by first | omega | (simp only [go_sem, simprocAttr]; omega)) (by first | assumption | simp only [go_sem, simprocAttr, hg2, ghn, ghn2, bR2, kR2, rR, qR]) [114, 101, 116, 117, 114, 110] (by decide)) ?_
 intro H3 hg3 ha3
 have hl3 := ha3.1
 try simp only [go_sem, simprocAttr] at hl3
 have hr3 : r < H3.next := by omega
 have ghn3 := ne_all hr3
 have bR3 : H3.get (H.next) = some (sZ) := (ha3.get (by first | omega | (simp only [go_sem, simprocAttr]; omega)) (by omega)).trans (by simp only [go_sem, simprocAttr, hg2, ghn, ghn2, bR2, kR2, rR, qR])
 have kR3 := ne_thr (a := H.next) (b := H3.next) (by omega)
 simp only [go_sem, simprocAttr, hg3, ghn, ghn3, bR3, kR3, rR, qR, h2]
 refine goC_ok (c_is (s := s) (l := l) (en := en) hlen hf (by first | omega | (simp only [go_sem, simprocAttr]; omega)) (by first | assumption | simp only [go_sem, simprocAttr, hg3, ghn, ghn3, bR3, kR3, rR, qR]) [105, 102] (by decide)) ?_
 intro H4 hg4 ha4
 have hl4 := ha4.1
 try simp only [go_sem, simprocAttr] at hl4
 have hr4 : r < H4.next := by omega
 have ghn4 := ne_all hr4
 have bR4 : H4.get (H.next) = some (sZ) := (ha4.get (by first | omega | (simp only [go_sem, simprocAttr]; omega)) (by omega)).trans (by simp only [go_sem, simprocAttr, hg3, ghn, ghn3, bR3, kR3, rR, qR])
 have kR4 := ne_thr (a := H.next) (b := H4.next) (by omega)
 simp only [go_sem, simprocAttr, hg4, ghn, ghn4, bR4, kR4, rR, qR, h3]
 by_cases hc : 2000 ≤ s.cnt
 ·have d : decide (2000 ≤ ((s.cnt : Nat) : Int)) = true := by simp; omega
  have d' : decide (2000 ≤ s.cnt) = true := by simp [hc]
  rw [d'] at hq
  cases hq
  rw [outP_fail hf]
  simp only [go_sem, simprocAttr, hg4, ghn, ghn4, bR4, kR4, rR, qR, d]
  refine goC_bad (c_fail (s := s) (l := l) (en := en) (by first | omega | (simp only [go_sem, simprocAttr]; omega)) (by first | assumption | simp only [go_sem, simprocAttr, hg4, ghn, ghn4, bR4, kR4, rR, qR]) 2 rfl) ?_
  intro H9 had
  simp only [go_sem, simprocAttr, hg4, ghn, ghn4, bR4, kR4, rR, qR, san_trouble]
  (repeat first | exact Adv.refl _ _ | assumption | refine Adv.trans ?_ ‹Adv _ _ _› | apply Adv.up | apply Adv.put | refine Adv.new ?_ (by omega) _ | refine Adv.live ?_ (by omega) _ | refine Adv.owns ?_ (by omega) (by first | exact OwnB.lo ‹_› | exact fun _ _ _ h => by cases h))
 have d : decide (2000 ≤ ((s.cnt : Nat) : Int)) = false := by simp; omega
 have d' : decide (2000 ≤ s.cnt) = false := by simp; omega
 rw [d'] at hq
 simp only at hq
 have hwc := wrap1 (show s.cnt + 1 ≤ 9223372036854775807 by omega)
 have pSR : (H4.next + 13 = H.next) = False := eq_false (by omega)
 have pRS : (H.next = H4.next + 13) = False := eq_false (by omega)
 have rS : (H4.next + 13 = r) = False := eq_false (by omega)
 have qS : (r = H4.next + 13) = False := eq_false (by omega)
 simp only [go_sem, simprocAttr, hg4, ghn, ghn4, bR4, kR4, rR, qR, pRS, rS, qS, pSR, d, hwc]
 refine goC_ok (c_take_yes (s := s.count) (l := l) (en := en) hlen hf (by first | omega | (simp only [go_sem, simprocAttr]; omega)) (by first | assumption | simp only [go_sem, simprocAttr, hg4, ghn, ghn4, bR4, kR4, rR, qR, pRS, rS, qS, pSR]) (by decide) (show isT l s.count [105, 102] = true from h3)) ?_
 intro H5 hg5 ha5
 have hl5 := ha5.1
 try simp only [go_sem, simprocAttr] at hl5
 have hr5 : r < H5.next := by omega
 have ghn5 := ne_all hr5
 have bR5 : H5.get (H.next) = some (sZ) := (ha5.get (by first | omega | (simp only [go_sem, simprocAttr]; omega)) (by omega)).trans (by simp only [go_sem, simprocAttr, hg4, ghn, ghn4, bR4, kR4, rR, qR, pRS, rS, qS, pSR])
 have kR5 := ne_thr (a := H.next) (b := H5.next) (by omega)
 have bS5 : H5.get (H4.next + 13) = some (sZ) := (ha5.get (by first | omega | (simp only [go_sem, simprocAttr]; omega)) (by omega)).trans (by simp only [go_sem, simprocAttr, hg4, ghn, ghn4, bR4, kR4, rR, qR, pRS, rS, qS, pSR])
 have kS5 := ne_thr (a := H4.next + 13) (b := H5.next) (by omega)
 simp only [go_sem, simprocAttr, hg5, ghn, ghn5, bR5, kR5, rR, qR, pRS, bS5, kS5, rS, qS, pSR]
 obtain ⟨x0, hx0, _⟩ := isT_some h3
 have hrem : rem l (operand l en s.count.adv).1 + 1 ≤ rem l s := (rem_lt (l := l) ((count_lt (adv_isT (s := s.count) h3)).trans_le (operand_lt (en := en) _).le)).2 (tk_some hx0).2.1 (tk_some hx0).2.2.1
 refine goC_out (c_operand (s := s.count.adv) (l := l) (en := en) hlen hf (by first | omega | (simp only [go_sem, simprocAttr]; omega)) (by first | assumption | simp only [go_sem, simprocAttr, hg5, ghn, ghn5, bR5, kR5, rR, qR, pRS, bS5, kS5, rS, qS, pSR])) ?_ ?_
 case refine_2 =>
  intro q9 hq9 H9 had
  have hb9 : q1.f = some q9 := by
   have e1 : (blockF l en n (operand l en s.count.adv).1 deep).1 = (operand l en s.count.adv).1 := blockF_bad (ok_some hq9) _ _
   have e2 : isT l (blockF l en n (operand l en s.count.adv).1 deep).1 tElse = false := by rw [e1]; exact isT_bad (ok_some hq9) _
   rw [e2] at hq
   cases hq
   rw [e1]; exact hq9
  rw [outP_some hb9]
  simp only [go_sem, simprocAttr, san_trouble]
  (repeat first | exact Adv.refl _ _ | assumption | refine Adv.trans ?_ ‹Adv _ _ _› | apply Adv.up | apply Adv.put | refine Adv.new ?_ (by omega) _ | refine Adv.live ?_ (by omega) _ | refine Adv.owns ?_ (by omega) (by first | exact OwnB.lo ‹_› | exact fun _ _ _ h => by cases h))
 intro hf7 H6 hg6 ha6
 have hl6 := ha6.1
 try simp only [go_sem, simprocAttr] at hl6
 have hr6 : r < H6.next := by omega
 have ghn6 := ne_all hr6
 have bR6 : H6.get (H.next) = some (sZ) := (ha6.get (by first | omega | (simp only [go_sem, simprocAttr]; omega)) (by omega)).trans (by simp only [go_sem, simprocAttr, hg5, ghn, ghn5, bR5, kR5, rR, qR, pRS, bS5, kS5, rS, qS, pSR])
 have kR6 := ne_thr (a := H.next) (b := H6.next) (by omega)
 have bS6 : H6.get (H4.next + 13) = some (sZ) := (ha6.get (by first | omega | (simp only [go_sem, simprocAttr]; omega)) (by omega)).trans (by simp only [go_sem, simprocAttr, hg5, ghn, ghn5, bR5, kR5, rR, qR, pRS, bS5, kS5, rS, qS, pSR])
 have kS6 := ne_thr (a := H4.next + 13) (b := H6.next) (by omega)
 simp only [go_sem, simprocAttr, hg6, ghn, ghn6, bR6, kR6, rR, qR, pRS, bS6, kS6, rS, qS, pSR]
 refine goC_out (ihb r (operand l en s.count.adv).1 deep _ (by omega) hdeep hf7 (by first | omega | (simp only [go_sem, simprocAttr]; omega)) (by first | assumption | simp only [go_sem, simprocAttr, hg6, ghn, ghn6, bR6, kR6, rR, qR, pRS, bS6, kS6, rS, qS, pSR])) ?_ ?_
 case refine_2 =>
  intro q9 hq9 H9 had
  have hb9 : q1.f = some q9 := by
   have e2 : isT l (blockF l en n (operand l en s.count.adv).1 deep).1 tElse = false := isT_bad (ok_some hq9) _
   rw [e2] at hq
   cases hq
   exact hq9
  rw [outP_some hb9]
  simp only [go_sem, simprocAttr, san_trouble]
  (repeat first | exact Adv.refl _ _ | assumption | refine Adv.trans ?_ ‹Adv _ _ _› | apply Adv.up | apply Adv.put | refine Adv.new ?_ (by omega) _ | refine Adv.live ?_ (by omega) _ | refine Adv.owns ?_ (by omega) (by first | exact OwnB.lo ‹_› | exact fun _ _ _ h => by cases h))
 intro hf8 H7 hg7 ha7
 have hl7 := ha7.1
 try simp only [go_sem, simprocAttr] at hl7
 have hr7 : r < H7.next := by omega
 have ghn7 := ne_all hr7
 have bR7 : H7.get (H.next) = some (sZ) := (ha7.get (by first | omega | (simp only [go_sem, simprocAttr]; omega)) (by omega)).trans (by simp only [go_sem, simprocAttr, hg6, ghn, ghn6, bR6, kR6, rR, qR, pRS, bS6, kS6, rS, qS, pSR])
 have kR7 := ne_thr (a := H.next) (b := H7.next) (by omega)
 have bS7 : H7.get (H4.next + 13) = some ([.lit (.int .i64 9), .lit (.string (ba [])), .lit (.string (ba [])), .lit (.string (ba [])), .sl .ex [encOpd (operand l en s.count.adv).2], .sl .nil [], .sl .nil [], .sl .nil []]) := (ha7.get (by first | omega | (simp only [go_sem, simprocAttr]; omega)) (by omega)).trans (by simp only [go_sem, simprocAttr, hg6, ghn, ghn6, bR6, kR6, rR, qR, pRS, bS6, kS6, rS, qS, pSR])
 have kS7 := ne_thr (a := H4.next + 13) (b := H7.next) (by omega)
 simp only [go_sem, simprocAttr, hg7, ghn, ghn7, bR7, kR7, rR, qR, pRS, bS7, kS7, rS, qS, pSR]
 cases h5 : isT l (blockF l en n (operand l en s.count.adv).1 deep).1 [101, 108, 115, 101] with
 | true =>
  rw [show isT l (blockF l en n (operand l en s.count.adv).1 deep).1 tElse = true from h5] at hq
  cases hq
  have hrem2 : rem l (blockF l en n (operand l en s.count.adv).1 deep).1.adv ≤ rem l (operand l en s.count.adv).1 := (rem_lt (l := l) ((blockF_lt (en := en) n _ deep).trans_le (adv_isT h5).le)).1
  refine goC_ok (c_take_yes (s := (blockF l en n (operand l en s.count.adv).1 deep).1) (l := l) (en := en) hlen hf8 (by first | omega | (simp only [go_sem, simprocAttr]; omega)) (by first | assumption | simp only [go_sem, simprocAttr, hg7, ghn, ghn7, bR7, kR7, rR, qR, pRS, bS7, kS7, rS, qS, pSR]) (by decide) h5) ?_
  intro H8 hg8 ha8
  have hl8 := ha8.1
  try simp only [go_sem, simprocAttr] at hl8
  have hr8 : r < H8.next := by omega
  have ghn8 := ne_all hr8
  have bR8 : H8.get (H.next) = some (sZ) := (ha8.get (by first | omega | (simp only [go_sem, simprocAttr]; omega)) (by omega)).trans (by simp only [go_sem, simprocAttr, hg7, ghn, ghn7, bR7, kR7, rR, qR, pRS, bS7, kS7, rS, qS, pSR])
  have kR8 := ne_thr (a := H.next) (b := H8.next) (by omega)
  have bS8 : H8.get (H4.next + 13) = some ([.lit (.int .i64 9), .lit (.string (ba [])), .lit (.string (ba [])), .lit (.string (ba [])), .sl .ex [encOpd (operand l en s.count.adv).2], .sl .nil [], .sl .sh ((blockF l en n (operand l en s.count.adv).1 deep).2.map encStmt), .sl .nil []]) := (ha8.get (by first | omega | (simp only [go_sem, simprocAttr]; omega)) (by omega)).trans (by simp only [go_sem, simprocAttr, hg7, ghn, ghn7, bR7, kR7, rR, qR, pRS, bS7, kS7, rS, qS, pSR])
  have kS8 := ne_thr (a := H4.next + 13) (b := H8.next) (by omega)
  simp only [go_sem, simprocAttr, hg8, ghn, ghn8, bR8, kR8, rR, qR, pRS, bS8, kS8, rS, qS, pSR]
  refine goC_out (ihb r (blockF l en n (operand l en s.count.adv).1 deep).1.adv deep _ (by omega) hdeep hf8 (by first | omega | (simp only [go_sem, simprocAttr]; omega)) (by first | assumption | simp only [go_sem, simprocAttr, hg8, ghn, ghn8, bR8, kR8, rR, qR, pRS, bS8, kS8, rS, qS, pSR])) ?_ ?_
  case refine_2 =>
   intro q9 hq9 H9 had
   rw [outP_some (show (blockF l en n (blockF l en n (operand l en s.count.adv).1 deep).1.adv deep).1.f = some q9 by exact hq9)]
   simp only [go_sem, simprocAttr, san_trouble]
   (repeat first | exact Adv.refl _ _ | assumption | refine Adv.trans ?_ ‹Adv _ _ _› | apply Adv.up | apply Adv.put | refine Adv.new ?_ (by omega) _ | refine Adv.live ?_ (by omega) _ | refine Adv.owns ?_ (by omega) (by first | exact OwnB.lo ‹_› | exact fun _ _ _ h => by cases h))
  intro hf10 H9 hg9 ha9
  have hl9 := ha9.1
  try simp only [go_sem, simprocAttr] at hl9
  have hr9 : r < H9.next := by omega
  have ghn9 := ne_all hr9
  have bR9 : H9.get (H.next) = some (sZ) := (ha9.get (by first | omega | (simp only [go_sem, simprocAttr]; omega)) (by omega)).trans (by simp only [go_sem, simprocAttr, hg8, ghn, ghn8, bR8, kR8, rR, qR, pRS, bS8, kS8, rS, qS, pSR])
  have kR9 := ne_thr (a := H.next) (b := H9.next) (by omega)
  have bS9 : H9.get (H4.next + 13) = some ([.lit (.int .i64 9), .lit (.string (ba [])), .lit (.string (ba [])), .lit (.string (ba [])), .sl .ex [encOpd (operand l en s.count.adv).2], .sl .nil [], .sl .sh ((blockF l en n (operand l en s.count.adv).1 deep).2.map encStmt), .sl .nil []]) := (ha9.get (by first | omega | (simp only [go_sem, simprocAttr]; omega)) (by omega)).trans (by simp only [go_sem, simprocAttr, hg8, ghn, ghn8, bR8, kR8, rR, qR, pRS, bS8, kS8, rS, qS, pSR])
  have kS9 := ne_thr (a := H4.next + 13) (b := H9.next) (by omega)
  rw [outP_none hf10]
  simp only [go_sem, simprocAttr, hg9, ghn, ghn9, bR9, kR9, rR, qR, pRS, bS9, kS9, rS, qS, pSR, rs, eM, List.map_cons, List.map_nil]
  (repeat first | exact Adv.refl _ _ | assumption | refine Adv.trans ?_ ‹Adv _ _ _› | apply Adv.up | apply Adv.put | refine Adv.new ?_ (by omega) _ | refine Adv.live ?_ (by omega) _ | refine Adv.owns ?_ (by omega) (by first | exact OwnB.lo ‹_› | exact fun _ _ _ h => by cases h))
 | false =>
  rw [show isT l (blockF l en n (operand l en s.count.adv).1 deep).1 tElse = false from h5] at hq
  cases hq
  refine goC_ok (c_take_no (s := (blockF l en n (operand l en s.count.adv).1 deep).1) (l := l) (en := en) hlen hf8 (by first | omega | (simp only [go_sem, simprocAttr]; omega)) (by first | assumption | simp only [go_sem, simprocAttr, hg7, ghn, ghn7, bR7, kR7, rR, qR, pRS, bS7, kS7, rS, qS, pSR]) (by decide) h5) ?_
  intro H8 hg8 ha8
  have hl8 := ha8.1
  try simp only [go_sem, simprocAttr] at hl8
  have hr8 : r < H8.next := by omega
  have ghn8 := ne_all hr8
  have bR8 : H8.get (H.next) = some (sZ) := (ha8.get (by first | omega | (simp only [go_sem, simprocAttr]; omega)) (by omega)).trans (by simp only [go_sem, simprocAttr, hg7, ghn, ghn7, bR7, kR7, rR, qR, pRS, bS7, kS7, rS, qS, pSR])
  have kR8 := ne_thr (a := H.next) (b := H8.next) (by omega)
  have bS8 : H8.get (H4.next + 13) = some ([.lit (.int .i64 9), .lit (.string (ba [])), .lit (.string (ba [])), .lit (.string (ba [])), .sl .ex [encOpd (operand l en s.count.adv).2], .sl .nil [], .sl .sh ((blockF l en n (operand l en s.count.adv).1 deep).2.map encStmt), .sl .nil []]) := (ha8.get (by first | omega | (simp only [go_sem, simprocAttr]; omega)) (by omega)).trans (by simp only [go_sem, simprocAttr, hg7, ghn, ghn7, bR7, kR7, rR, qR, pRS, bS7, kS7, rS, qS, pSR])
  have kS8 := ne_thr (a := H4.next + 13) (b := H8.next) (by omega)
  rw [outP_none hf8]
  simp only [go_sem, simprocAttr, hg8, ghn, ghn8, bR8, kR8, rR, qR, pRS, bS8, kS8, rS, qS, pSR, rs, eM, List.map_cons, List.map_nil]
  (repeat first | exact Adv.refl _ _ | assumption | refine Adv.trans ?_ ‹Adv _ _ _› | apply Adv.up | apply Adv.put | refine Adv.new ?_ (by omega) _ | refine Adv.live ?_ (by omega) _ | refine Adv.owns ?_ (by omega) (by first | exact OwnB.lo ‹_› | exact fun _ _ _ h => by cases h))
set_option maxRecDepth 20000 in
theorem c_stmt4 (hlen : l.length ≤ LM) (n : Nat) (ihb : PBlockOk l en n) (deep : Nat) (hn : 3 * rem l s + 1 ≤ n + 1) (hdeep : deep ≤ 33) (h0 : isName l s = false) (h1 : isT l s [111, 117, 116] = false) (h2 : isT l s [114, 101, 116, 117, 114, 110] = false) (h3 : isT l s [105, 102] = false) (h4 : isT l s [119, 104, 105, 108, 101] = true) (hf : s.f = none) (hr : r < H.next) (hg : H.get r = some (cP l en s)) :
  PCall Tryz.prog cfg r 104 [.ptr r 0, .lit (.int .i64 (deep : Nat))] H (outP l en (stmtF l en (n + 1) s deep).1 (.agg (encStmt (stmtF l en (n + 1) s deep).2))) := by
 obtain ⟨q1, q2, hq⟩ : ∃ q1 q2, stmtF l en (n + 1) s deep = (q1, q2) := ⟨_, _, rfl⟩
 rw [hq]
 show PCall _ _ _ _ _ _ (outP l en q1 (.agg (encStmt q2)))
 refine PCall_of' (fn := Tryz.f104) rfl rfl rfl rfl rfl ?_
 have rs : Tryz.f104.results.toList = [.cell 4 40] := rfl
 have eM := encStmt_mk
 have ghn := ne_all hr
 unfold stmtF at hq
 have hst : starts l s = true := by simp only [starts, tOut, tReturn, tIf, tWhile, h0, h1, h2, h3, h4, Bool.or_true, Bool.true_or]
 rw [hst] at hq
 simp only [tIf, tWhile, h3, h4] at hq
 simp only [go_sem, simprocAttr]
 have rR : (H.next = r) = False := eq_false (by omega)
 have qR : (r = H.next) = False := eq_false (by omega)
 refine goC_ok (c_isName (s := s) (l := l) (en := en) hlen hf (by first | omega | (simp only [go_sem, simprocAttr]; omega)) (by first | assumption | simp only [go_sem, simprocAttr, hg, ghn, rR, qR])) ?_
 intro H1 hg1 ha1
 have hl1 := ha1.1
 try simp only [go_sem, simprocAttr] at hl1
 have hr1 : r < H1.next := by omega
 have ghn1 := ne_all hr1
 have bR1 : H1.get (H.next) = some (sZ) := (ha1.get (by first | omega | (simp only [go_sem, simprocAttr]; omega)) (by omega)).trans (by simp only [go_sem, simprocAttr, hg, ghn, rR, qR])
 have kR1 := ne_thr (a := H.next) (b := H1.next) (by omega)
 simp only [go_sem, simprocAttr, hg1, ghn, ghn1, bR1, kR1, rR, qR, h0]
 refine goC_ok (c_is (s := s) (l := l) (en := en) hlen hf (by first | omega | (simp only [go_sem, simprocAttr]; omega)) (by first | assumption | simp only [go_sem, simprocAttr, hg1, ghn, ghn1, bR1, kR1, rR, qR]) [111, 117, 116] (by decide)) ?_
 intro H2 hg2 ha2
 have hl2 := ha2.1
 try simp only [go_sem, simprocAttr] at hl2
 have hr2 : r < H2.next := by omega
 have ghn2 := ne_all hr2
 have bR2 : H2.get (H.next) = some (sZ) := (ha2.get (by first | omega | (simp only [go_sem, simprocAttr]; omega)) (by omega)).trans (by simp only [go_sem, simprocAttr, hg1, ghn, ghn1, bR1, kR1, rR, qR])
 have kR2 := ne_thr (a := H.next) (b := H2.next) (by omega)
 simp only [go_sem, simprocAttr, hg2, ghn, ghn2, bR2, kR2, rR, qR, h1]
 refine goC_ok (c_is (s := s) (l := l) (en := en) hlen hf (by first | omega | (simp only [go_sem, simprocAttr]; omega)) (by first | assumption | simp only [go_sem, simprocAttr, hg2, ghn, ghn2, bR2, kR2, rR, qR]) [114, 101, 116, 117, 114, 110] (by decide)) ?_
 intro H3 hg3 ha3
 have hl3 := ha3.1
 try simp only [go_sem, simprocAttr] at hl3
 have hr3 : r < H3.next := by omega
 have ghn3 := ne_all hr3
 have bR3 : H3.get (H.next) = some (sZ) := (ha3.get (by first | omega | (simp only [go_sem, simprocAttr]; omega)) (by omega)).trans (by simp only [go_sem, simprocAttr, hg2, ghn, ghn2, bR2, kR2, rR, qR])
 have kR3 := ne_thr (a := H.next) (b := H3.next) (by omega)
 simp only [go_sem, simprocAttr, hg3, ghn, ghn3, bR3, kR3, rR, qR, h2]
 refine goC_ok (c_is (s := s) (l := l) (en := en) hlen hf (by first | omega | (simp only [go_sem, simprocAttr]; omega)) (by first | assumption | simp only [go_sem, simprocAttr, hg3, ghn, ghn3, bR3, kR3, rR, qR]) [105, 102] (by decide)) ?_
 intro H4 hg4 ha4
 have hl4 := ha4.1
 try simp only [go_sem, simprocAttr] at hl4
 have hr4 : r < H4.next := by omega
 have ghn4 := ne_all hr4
 have bR4 : H4.get (H.next) = some (sZ) := (ha4.get (by first | omega | (simp only [go_sem, simprocAttr]; omega)) (by omega)).trans (by simp only [go_sem, simprocAttr, hg3, ghn, ghn3, bR3, kR3, rR, qR])
 have kR4 := ne_thr (a := H.next) (b := H4.next) (by omega)
 simp only [go_sem, simprocAttr, hg4, ghn, ghn4, bR4, kR4, rR, qR, h3]
 refine goC_ok (c_is (s := s) (l := l) (en := en) hlen hf (by first | omega | (simp only [go_sem, simprocAttr]; omega)) (by first | assumption | simp only [go_sem, simprocAttr, hg4, ghn, ghn4, bR4, kR4, rR, qR]) [119, 104, 105, 108, 101] (by decide)) ?_
 intro H5 hg5 ha5
 have hl5 := ha5.1
 try simp only [go_sem, simprocAttr] at hl5
 have hr5 : r < H5.next := by omega
 have ghn5 := ne_all hr5
 have bR5 : H5.get (H.next) = some (sZ) := (ha5.get (by first | omega | (simp only [go_sem, simprocAttr]; omega)) (by omega)).trans (by simp only [go_sem, simprocAttr, hg4, ghn, ghn4, bR4, kR4, rR, qR])
 have kR5 := ne_thr (a := H.next) (b := H5.next) (by omega)
 simp only [go_sem, simprocAttr, hg5, ghn, ghn5, bR5, kR5, rR, qR, h4]
 by_cases hc : 2000 ≤ s.cnt
 ·have d : decide (2000 ≤ ((s.cnt : Nat) : Int)) = true := by simp; omega
  have d' : decide (2000 ≤ s.cnt) = true := by simp [hc]
  rw [d'] at hq
  cases hq
  rw [outP_fail hf]
  simp only [go_sem, simprocAttr, hg5, ghn, ghn5, bR5, kR5, rR, qR, d]
  refine goC_bad (c_fail (s := s) (l := l) (en := en) (by first | omega | (simp only [go_sem, simprocAttr]; omega)) (by first | assumption | simp only [go_sem, simprocAttr, hg5, ghn, ghn5, bR5, kR5, rR, qR]) 2 rfl) ?_
  intro H9 had
  simp only [go_sem, simprocAttr, hg5, ghn, ghn5, bR5, kR5, rR, qR, san_trouble]
  (repeat first | exact Adv.refl _ _ | assumption | refine Adv.trans ?_ ‹Adv _ _ _› | apply Adv.up | apply Adv.put | refine Adv.new ?_ (by omega) _ | refine Adv.live ?_ (by omega) _ | refine Adv.owns ?_ (by omega) (by first | exact OwnB.lo ‹_› | exact fun _ _ _ h => by cases h))
 have d : decide (2000 ≤ ((s.cnt : Nat) : Int)) = false := by simp; omega
 have d' : decide (2000 ≤ s.cnt) = false := by simp; omega
 rw [d'] at hq
 simp only at hq
 have hwc := wrap1 (show s.cnt + 1 ≤ 9223372036854775807 by omega)
 have pSR : (H5.next + 13 = H.next) = False := eq_false (by omega)
 have pRS : (H.next = H5.next + 13) = False := eq_false (by omega)
 have rS : (H5.next + 13 = r) = False := eq_false (by omega)
 have qS : (r = H5.next + 13) = False := eq_false (by omega)
 simp only [go_sem, simprocAttr, hg5, ghn, ghn5, bR5, kR5, rR, qR, pRS, rS, qS, pSR, d, hwc]
 refine goC_ok (c_take_no (s := s.count) (l := l) (en := en) hlen hf (by first | omega | (simp only [go_sem, simprocAttr]; omega)) (by first | assumption | simp only [go_sem, simprocAttr, hg5, ghn, ghn5, bR5, kR5, rR, qR, pRS, rS, qS, pSR]) (by decide) (show isT l s.count [105, 102] = false from h3)) ?_
 intro H6 hg6 ha6
 have hl6 := ha6.1
 try simp only [go_sem, simprocAttr] at hl6
 have hr6 : r < H6.next := by omega
 have ghn6 := ne_all hr6
 have bR6 : H6.get (H.next) = some (sZ) := (ha6.get (by first | omega | (simp only [go_sem, simprocAttr]; omega)) (by omega)).trans (by simp only [go_sem, simprocAttr, hg5, ghn, ghn5, bR5, kR5, rR, qR, pRS, rS, qS, pSR])
 have kR6 := ne_thr (a := H.next) (b := H6.next) (by omega)
 have bS6 : H6.get (H5.next + 13) = some (sZ) := (ha6.get (by first | omega | (simp only [go_sem, simprocAttr]; omega)) (by omega)).trans (by simp only [go_sem, simprocAttr, hg5, ghn, ghn5, bR5, kR5, rR, qR, pRS, rS, qS, pSR])
 have kS6 := ne_thr (a := H5.next + 13) (b := H6.next) (by omega)
 simp only [go_sem, simprocAttr, hg6, ghn, ghn6, bR6, kR6, rR, qR, pRS, bS6, kS6, rS, qS, pSR]
 refine goC_ok (c_take_yes (s := s.count) (l := l) (en := en) hlen hf (by first | omega | (simp only [go_sem, simprocAttr]; omega)) (by first | assumption | simp only [go_sem, simprocAttr, hg6, ghn, ghn6, bR6, kR6, rR, qR, pRS, bS6, kS6, rS, qS, pSR]) (by decide) (show isT l s.count [119, 104, 105, 108, 101] = true from h4)) ?_
 intro H7 hg7 ha7
 have hl7 := ha7.1
 try simp only [go_sem, simprocAttr] at hl7
 have hr7 : r < H7.next := by omega
 have ghn7 := ne_all hr7
 have bR7 : H7.get (H.next) = some (sZ) := (ha7.get (by first | omega | (simp only [go_sem, simprocAttr]; omega)) (by omega)).trans (by simp only [go_sem, simprocAttr, hg6, ghn, ghn6, bR6, kR6, rR, qR, pRS, bS6, kS6, rS, qS, pSR])
 have kR7 := ne_thr (a := H.next) (b := H7.next) (by omega)
 have bS7 : H7.get (H5.next + 13) = some (sZ) := (ha7.get (by first | omega | (simp only [go_sem, simprocAttr]; omega)) (by omega)).trans (by simp only [go_sem, simprocAttr, hg6, ghn, ghn6, bR6, kR6, rR, qR, pRS, bS6, kS6, rS, qS, pSR])
 have kS7 := ne_thr (a := H5.next + 13) (b := H7.next) (by omega)
 simp only [go_sem, simprocAttr, hg7, ghn, ghn7, bR7, kR7, rR, qR, pRS, bS7, kS7, rS, qS, pSR]
 obtain ⟨x0, hx0, _⟩ := isT_some h4
 have hrem : rem l (operand l en s.count.adv).1 + 1 ≤ rem l s := (rem_lt (l := l) ((count_lt (adv_isT (s := s.count) h4)).trans_le (operand_lt (en := en) _).le)).2 (tk_some hx0).2.1 (tk_some hx0).2.2.1
 cases hq
 refine goC_out (c_operand (s := s.count.adv) (l := l) (en := en) hlen hf (by first | omega | (simp only [go_sem, simprocAttr]; omega)) (by first | assumption | simp only [go_sem, simprocAttr, hg7, ghn, ghn7, bR7, kR7, rR, qR, pRS, bS7, kS7, rS, qS, pSR])) ?_ ?_
 case refine_2 =>
  intro q9 hq9 H9 had
  rw [outP_some (show (blockF l en n (operand l en s.count.adv).1 deep).1.f = some q9 by rw [blockF_bad (ok_some hq9), hq9])]
  simp only [go_sem, simprocAttr, san_trouble]
  (repeat first | exact Adv.refl _ _ | assumption | refine Adv.trans ?_ ‹Adv _ _ _› | apply Adv.up | apply Adv.put | refine Adv.new ?_ (by omega) _ | refine Adv.live ?_ (by omega) _ | refine Adv.owns ?_ (by omega) (by first | exact OwnB.lo ‹_› | exact fun _ _ _ h => by cases h))
 intro hf7 H8 hg8 ha8
 have hl8 := ha8.1
 try simp only [go_sem, simprocAttr] at hl8
 have hr8 : r < H8.next := by omega
 have ghn8 := ne_all hr8
 have bR8 : H8.get (H.next) = some (sZ) := (ha8.get (by first | omega | (simp only [go_sem, simprocAttr]; omega)) (by omega)).trans (by simp only [go_sem, simprocAttr, hg7, ghn, ghn7, bR7, kR7, rR, qR, pRS, bS7, kS7, rS, qS, pSR])
 have kR8 := ne_thr (a := H.next) (b := H8.next) (by omega)
 have bS8 : H8.get (H5.next + 13) = some (sZ) := (ha8.get (by first | omega | (simp only [go_sem, simprocAttr]; omega)) (by omega)).trans (by simp only [go_sem, simprocAttr, hg7, ghn, ghn7, bR7, kR7, rR, qR, pRS, bS7, kS7, rS, qS, pSR])
 have kS8 := ne_thr (a := H5.next + 13) (b := H8.next) (by omega)
 simp only [go_sem, simprocAttr, hg8, ghn, ghn8, bR8, kR8, rR, qR, pRS, bS8, kS8, rS, qS, pSR]
 refine goC_out (ihb r (operand l en s.count.adv).1 deep _ (by omega) hdeep hf7 (by first | omega | (simp only [go_sem, simprocAttr]; omega)) (by first | assumption | simp only [go_sem, simprocAttr, hg8, ghn, ghn8, bR8, kR8, rR, qR, pRS, bS8, kS8, rS, qS, pSR])) ?_ ?_
 case refine_2 =>
  intro q9 hq9 H9 had
  rw [outP_some (show (blockF l en n (operand l en s.count.adv).1 deep).1.f = some q9 by exact hq9)]
  simp only [go_sem, simprocAttr, san_trouble]
  (repeat first | exact Adv.refl _ _ | assumption | refine Adv.trans ?_ ‹Adv _ _ _› | apply Adv.up | apply Adv.put | refine Adv.new ?_ (by omega) _ | refine Adv.live ?_ (by omega) _ | refine Adv.owns ?_ (by omega) (by first | exact OwnB.lo ‹_› | exact fun _ _ _ h => by cases h))
 intro hf8 H9 hg9 ha9
 have hl9 := ha9.1
 try simp only [go_sem, simprocAttr] at hl9
 have hr9 : r < H9.next := by omega
 have ghn9 := ne_all hr9
 have bR9 : H9.get (H.next) = some (sZ) := (ha9.get (by first | omega | (simp only [go_sem, simprocAttr]; omega)) (by omega)).trans (by simp only [go_sem, simprocAttr, hg8, ghn, ghn8, bR8, kR8, rR, qR, pRS, bS8, kS8, rS, qS, pSR])
 have kR9 := ne_thr (a := H.next) (b := H9.next) (by omega)
 have bS9 : H9.get (H5.next + 13) = some ([.lit (.int .i64 10), .lit (.string (ba [])), .lit (.string (ba [])), .lit (.string (ba [])), .sl .ex [encOpd (operand l en s.count.adv).2], .sl .nil [], .sl .nil [], .sl .nil []]) := (ha9.get (by first | omega | (simp only [go_sem, simprocAttr]; omega)) (by omega)).trans (by simp only [go_sem, simprocAttr, hg8, ghn, ghn8, bR8, kR8, rR, qR, pRS, bS8, kS8, rS, qS, pSR])
 have kS9 := ne_thr (a := H5.next + 13) (b := H9.next) (by omega)
 rw [outP_none hf8]
 simp only [go_sem, simprocAttr, hg9, ghn, ghn9, bR9, kR9, rR, qR, pRS, bS9, kS9, rS, qS, pSR, rs, eM, List.map_cons, List.map_nil]
 (repeat first | exact Adv.refl _ _ | assumption | refine Adv.trans ?_ ‹Adv _ _ _› | apply Adv.up | apply Adv.put | refine Adv.new ?_ (by omega) _ | refine Adv.live ?_ (by omega) _ | refine Adv.owns ?_ (by omega) (by first | exact OwnB.lo ‹_› | exact fun _ _ _ h => by cases h))
set_option maxRecDepth 20000 in
theorem c_stmt5 (hlen : l.length ≤ LM) (n : Nat) (ihb : PBlockOk l en n) (deep : Nat) (hn : 3 * rem l s + 1 ≤ n + 1) (hdeep : deep ≤ 33) (h0 : isName l s = false) (h1 : isT l s [111, 117, 116] = false) (h2 : isT l s [114, 101, 116, 117, 114, 110] = false) (h3 : isT l s [105, 102] = false) (h4 : isT l s [119, 104, 105, 108, 101] = false) (hf : s.f = none) (hr : r < H.next) (hg : H.get r = some (cP l en s)) :
  PCall Tryz.prog cfg r 104 [.ptr r 0, .lit (.int .i64 (deep : Nat))] H (outP l en (stmtF l en (n + 1) s deep).1 (.agg (encStmt (stmtF l en (n + 1) s deep).2))) := by
 have _ := ihb
 have _ := hn
 have _ := hdeep
 obtain ⟨q1, q2, hq⟩ : ∃ q1 q2, stmtF l en (n + 1) s deep = (q1, q2) := ⟨_, _, rfl⟩
 rw [hq]
 show PCall _ _ _ _ _ _ (outP l en q1 (.agg (encStmt q2)))
 refine PCall_of' (fn := Tryz.f104) rfl rfl rfl rfl rfl ?_
 have rs : Tryz.f104.results.toList = [.cell 4 40] := rfl
 have eM := encStmt_mk
 have ghn := ne_all hr
 unfold stmtF at hq
 have hst : starts l s = false := by simp only [starts, tOut, tReturn, tIf, tWhile, h0, h1, h2, h3, h4, Bool.or_self]
 rw [hst] at hq
 cases hq
 rw [outP_fail hf]
 simp only [go_sem, simprocAttr]
 have rR : (H.next = r) = False := eq_false (by omega)
 have qR : (r = H.next) = False := eq_false (by omega)
 refine goC_ok (c_isName (s := s) (l := l) (en := en) hlen hf (by first | omega | (simp only [go_sem, simprocAttr]; omega)) (by first | assumption | simp only [go_sem, simprocAttr, hg, ghn, rR, qR])) ?_
 intro H1 hg1 ha1
 have hl1 := ha1.1
 try simp only [go_sem, simprocAttr] at hl1
 have hr1 : r < H1.next := by omega
 have ghn1 := ne_all hr1
 have bR1 : H1.get (H.next) = some (sZ) := (ha1.get (by first | omega | (simp only [go_sem, simprocAttr]; omega)) (by omega)).trans (by simp only [go_sem, simprocAttr, hg, ghn, rR, qR])
 have kR1 := ne_thr (a := H.next) (b := H1.next) (by omega)
 simp only [go_sem, simprocAttr, hg1, ghn, ghn1, bR1, kR1, rR, qR, h0]
 refine goC_ok (c_is (s := s) (l := l) (en := en) hlen hf (by first | omega | (simp only [go_sem, simprocAttr]; omega)) (by first | assumption | simp only [go_sem, simprocAttr, hg1, ghn, ghn1, bR1, kR1, rR, qR]) [111, 117, 116] (by decide)) ?_
 intro H2 hg2 ha2
 have hl2 := ha2.1
 try simp only [go_sem, simprocAttr] at hl2
 have hr2 : r < H2.next := by omega
 have ghn2 := ne_all hr2
 have bR2 : H2.get (H.next) = some (sZ) := (ha2.get (by first | omega | (simp only [go_sem, simprocAttr]; omega)) (by omega)).trans (by simp only [go_sem, simprocAttr, hg1, ghn, ghn1, bR1, kR1, rR, qR])
 have kR2 := ne_thr (a := H.next) (b := H2.next) (by omega)
 simp only [go_sem, simprocAttr, hg2, ghn, ghn2, bR2, kR2, rR, qR, h1]
 refine goC_ok (c_is (s := s) (l := l) (en := en) hlen hf (by first | omega | (simp only [go_sem, simprocAttr]; omega)) (by first | assumption | simp only [go_sem, simprocAttr, hg2, ghn, ghn2, bR2, kR2, rR, qR]) [114, 101, 116, 117, 114, 110] (by decide)) ?_
 intro H3 hg3 ha3
 have hl3 := ha3.1
 try simp only [go_sem, simprocAttr] at hl3
 have hr3 : r < H3.next := by omega
 have ghn3 := ne_all hr3
 have bR3 : H3.get (H.next) = some (sZ) := (ha3.get (by first | omega | (simp only [go_sem, simprocAttr]; omega)) (by omega)).trans (by simp only [go_sem, simprocAttr, hg2, ghn, ghn2, bR2, kR2, rR, qR])
 have kR3 := ne_thr (a := H.next) (b := H3.next) (by omega)
 simp only [go_sem, simprocAttr, hg3, ghn, ghn3, bR3, kR3, rR, qR, h2]
 refine goC_ok (c_is (s := s) (l := l) (en := en) hlen hf (by first | omega | (simp only [go_sem, simprocAttr]; omega)) (by first | assumption | simp only [go_sem, simprocAttr, hg3, ghn, ghn3, bR3, kR3, rR, qR]) [105, 102] (by decide)) ?_
 intro H4 hg4 ha4
 have hl4 := ha4.1
 try simp only [go_sem, simprocAttr] at hl4
 have hr4 : r < H4.next := by omega
 have ghn4 := ne_all hr4
 have bR4 : H4.get (H.next) = some (sZ) := (ha4.get (by first | omega | (simp only [go_sem, simprocAttr]; omega)) (by omega)).trans (by simp only [go_sem, simprocAttr, hg3, ghn, ghn3, bR3, kR3, rR, qR])
 have kR4 := ne_thr (a := H.next) (b := H4.next) (by omega)
 simp only [go_sem, simprocAttr, hg4, ghn, ghn4, bR4, kR4, rR, qR, h3]
 refine goC_ok (c_is (s := s) (l := l) (en := en) hlen hf (by first | omega | (simp only [go_sem, simprocAttr]; omega)) (by first | assumption | simp only [go_sem, simprocAttr, hg4, ghn, ghn4, bR4, kR4, rR, qR]) [119, 104, 105, 108, 101] (by decide)) ?_
 intro H5 hg5 ha5
 have hl5 := ha5.1
 try simp only [go_sem, simprocAttr] at hl5
 have hr5 : r < H5.next := by omega
 have ghn5 := ne_all hr5
 have bR5 : H5.get (H.next) = some (sZ) := (ha5.get (by first | omega | (simp only [go_sem, simprocAttr]; omega)) (by omega)).trans (by simp only [go_sem, simprocAttr, hg4, ghn, ghn4, bR4, kR4, rR, qR])
 have kR5 := ne_thr (a := H.next) (b := H5.next) (by omega)
 simp only [go_sem, simprocAttr, hg5, ghn, ghn5, bR5, kR5, rR, qR, h4]
 refine goC_bad (c_fail (s := s) (l := l) (en := en) (by first | omega | (simp only [go_sem, simprocAttr]; omega)) (by first | assumption | simp only [go_sem, simprocAttr, hg5, ghn, ghn5, bR5, kR5, rR, qR]) 0 rfl) ?_
 intro H9 had
 simp only [go_sem, simprocAttr, hg5, ghn, ghn5, bR5, kR5, rR, qR, san_trouble]
 (repeat first | exact Adv.refl _ _ | assumption | refine Adv.trans ?_ ‹Adv _ _ _› | apply Adv.up | apply Adv.put | refine Adv.new ?_ (by omega) _ | refine Adv.live ?_ (by omega) _ | refine Adv.owns ?_ (by omega) (by first | exact OwnB.lo ‹_› | exact fun _ _ _ h => by cases h))
theorem c_stmt (hlen : l.length ≤ LM) (n : Nat) (ihb : PBlockOk l en n) : PStmtOk l en (n + 1) := by
 intro r s deep H hn hdeep hf hr hg
 rcases begins (l := l) s with ⟨h0, h1, h2, h3, h4⟩ | ⟨h0, h1, h2, h3, h4⟩ | ⟨h0, h1, h2, h3, h4⟩ | ⟨h0, h1, h2, h3, h4⟩ | ⟨h0, h1, h2, h3, h4⟩ | ⟨h0, h1, h2, h3, h4⟩
 ·exact c_stmt0 hlen n ihb deep hn hdeep h0 h1 h2 h3 h4 hf hr hg
 ·exact c_stmt1 hlen n ihb deep hn hdeep h0 h1 h2 h3 h4 hf hr hg
 ·exact c_stmt2 hlen n ihb deep hn hdeep h0 h1 h2 h3 h4 hf hr hg
 ·exact c_stmt3 hlen n ihb deep hn hdeep h0 h1 h2 h3 h4 hf hr hg
 ·exact c_stmt4 hlen n ihb deep hn hdeep h0 h1 h2 h3 h4 hf hr hg
 ·exact c_stmt5 hlen n ihb deep hn hdeep h0 h1 h2 h3 h4 hf hr hg
end
end Go.Proofs.YtghhkbigmmjanaaGreatDoor.VA
