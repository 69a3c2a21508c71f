/- What is proved: a region that draws its order, in the abstract interpreter (VA), against the model's own rules, for every order. No condition. -/
import Derived.Test.YtiiaajajhkdemaaVb5
namespace Go.Proofs.Ytiiaajajhkdemaa.VA
open Go Go.RowKit
set_option linter.unusedSimpArgs false

theorem astep_quiet {P : Program} {ρ : Operand → AV} {H : Heap} {id : Nat} {o : Oper} {r : Sr} (ht : touchy o = false) (h : astep P ρ H id o.op = some r) : ∃ v, r = .val v [] [] := by
  obtain ⟨dst, op, type, pos, after, guard⟩ := o
  have pure : ∀ {x : Option AV}, x.map (fun v => Sr.val v [] []) = some r → ∃ v, r = .val v [] [] := by
    intro x hx
    cases x with
    | none => cases hx
    | some v => simp at hx; exact ⟨v, hx.symm⟩
  cases op <;> simp only [touchy, Bool.true_eq_false] at ht <;> simp only [astep] at h <;> try exact pure h
  case call c =>
    obtain ⟨callee, args, argTypes⟩ := c
    cases callee <;> (try simp only [touchy, Bool.true_eq_false] at ht) <;> (try exact pure h)
    rename_i b
    cases b <;> (try simp only [touchy, Bool.true_eq_false] at ht) <;> exact pure h
theorem mem_unord {ops : Array Oper} {i j : Nat} (hij : i < j) (hj : j < ops.size) (hi : touchy (ops.getD i default) = true) (hjt : touchy (ops.getD j default) = true) (ha : anc ops i j = false) : (i, j) ∈ unord ops := by
  unfold unord
  simp only [List.mem_flatMap, List.mem_filter, List.mem_range, List.mem_map, Bool.and_eq_true, decide_eq_true_eq, Bool.not_eq_true']
  exact ⟨j, ⟨hj, hjt⟩, i, ⟨⟨by omega, hi⟩, hij, ha⟩, rfl⟩
def isVal : Tr → Bool
  | .val _ _ _ | .call _ _ _ => true
  | _ => false
theorem drawOk_spec {ops : Array Oper} (h : drawOk ops = true) : (∀ j, j < ops.size → ∀ e, e ∈ (ops.getD j default).after → Region.binds .any e = true → e.on < j) ∧
    (∀ i j, i < j → j < ops.size → anc ops i j = true ∨ (ops.getD i default).apart ops (ops.getD j default) = true) := by
  simp only [drawOk, List.all_eq_true, List.mem_range, Bool.and_eq_true, Bool.or_eq_true] at h
  constructor
  · intro j hj e he hb
    have := (h j hj).1
    rw [Array.all_eq_true_iff_forall_mem] at this
    have := this e he
    simp [hb] at this
    exact this
  · intro i j hij hj
    exact (h j hj).2 i hij
theorem getD_of {ops : Array Oper} {i : Nat} {o : Oper} (h : ops[i]? = some o) : ops.getD i default = o := by simp [h]
theorem of_lt {ops : Array Oper} {i : Nat} (h : i < ops.size) : ops[i]? = some (ops.getD i default) := by simp [h]
set_option maxHeartbeats 2000000 in
theorem draw_sound {P : Program} {K : Calling} {imp : FuncId → Bool} (hK : KOk P K imp) (hm : P.follows .mixedOrders = true) {ops : Array Oper} {n rid : Nat} (hd : drawOk ops = true) (hds : ∀ o, o ∈ ops.toList → dstOk n o = true)
    {e e' : List AV} {H H2 : Heap} {tr : List Tr} {pk : Option (Nat × AV × Heap)} (hrun : runTr P K imp ops H.next ops.toList 0 none e { H with next := H.next + ops.size } = some (tr, pk, e', H2)) (hok : TrOk ops tr)
    {g : Gh} {a : Act} {w : World} (hi : Inv g H w) (he : EnvRel g w e a.tmps) (hn : a.tmps.size = n) (htop : Top g H.next) (Q : Exit → Act → World → Prop)
    (hQn : pk = none → ∀ g' a' w', Past H.next g w g' H2 w' → a'.defers = a.defers → a'.tmps.size = n → EnvRel g' w' e' a'.tmps → Q .normal a' w')
    (hQp : ∀ k v Hp, pk = some (k, v, Hp) → ∀ g' a' w' u, Past H.next g w g' Hp w' → a'.defers = a.defers → a'.tmps.size = n → Rel g' w' v u → Q (.panic (oneEntry u)) a' w') :
    (Code.region rid ops true).wp P Q a w := by
  obtain ⟨hback, hslot⟩ := drawOk_spec hd
  generalize hbase : H.next = base at *
  generalize hH0 : ({ H with next := base + ops.size } : Heap) = H0 at *
  let op : Nat → Oper := fun j => ops.getD j default
  let t : Nat → Tr := fun j => tr.getD j .dead
  have hop : ∀ j o, ops[j]? = some o → op j = o := fun j o h => getD_of h
  obtain ⟨hspec, hE, hHH, _, hpk⟩ := runTr_spec (P := P) (K := K) (imp := imp) (ops := ops) (base := base) (op := op) (t := t) (e0 := e) (H0 := H0) hop ops.toList 0 none e H0 tr pk e' H2 hrun (by simp) (fun j _ => by rw [Nat.zero_add]) rfl rfl (fun k x h => by cases h)
  simp only [Nat.zero_le, true_implies, Nat.zero_add, Array.length_toList] at hspec hE hHH hpk
  -- whoever waits for nobody lets alone
  have hquiet : ∀ i, i < ops.size → touchy (op i) = false → (∃ v, t i = .val v [] []) ∨ t i = .dead := by
    intro i hil ht
    have hs := (hspec i hil).1
    generalize t i = ti at hs
    cases ti with
    | dead => exact .inr rfl
    | pan =>
      obtain ⟨v, Hp, _, _, h | ⟨f, args, h, _⟩⟩ := hs
      · obtain ⟨v', hv⟩ := astep_quiet ht h.1; cases hv
      · obtain ⟨v', hv⟩ := astep_quiet ht h; cases hv
    | val v us rs =>
      left
      rcases hs with ⟨_, _, rfl, rfl⟩ | ⟨_, h | ⟨f, args, H', _, _, _, rfl, rfl⟩⟩
      · exact ⟨v, rfl⟩
      · obtain ⟨v', hv⟩ := astep_quiet ht h
        simp only [Sr.val.injEq] at hv
        obtain ⟨rfl, rfl, rfl⟩ := hv
        exact ⟨v, rfl⟩
      · exact ⟨v, rfl⟩
    | call v Hb Ha =>
      obtain ⟨_, _, f, args, h, _⟩ := hs
      obtain ⟨v', hv⟩ := astep_quiet ht h; cases hv
  have hNC : ∀ i j, i < j → j < ops.size → anc ops i j = false → NoConf (t i) (t j) := by
    intro i j hij hj ha
    have q1 : ∀ (x : Tr) (v : AV), NoConf (.val v [] []) x := by intro x v; cases x <;> simp [NoConf]
    have q2 : ∀ (x : Tr) (v : AV), NoConf x (.val v [] []) := by intro x v; cases x <;> simp [NoConf]
    have q3 : ∀ (x : Tr), NoConf .dead x := by intro x; cases x <;> simp [NoConf]
    have q4 : ∀ (x : Tr), NoConf x .dead := by intro x; cases x <;> simp [NoConf]
    cases h1 : touchy (op i) with
    | false =>
      rcases hquiet i (by omega) h1 with ⟨v, h⟩ | h
      · rw [h]; exact q1 _ _
      · rw [h]; exact q3 _
    | true =>
      cases h2 : touchy (op j) with
      | false =>
        rcases hquiet j hj h2 with ⟨v, h⟩ | h
        · rw [h]; exact q2 _ _
        · rw [h]; exact q4 _
      | true => exact hok (i, j) (mem_unord hij hj h1 h2 ha)
  have hHb : ∀ i v Hb Ha, i < ops.size → t i = .call v Hb Ha → Hb = hAt t full H0 i := by
    intro i v Hb Ha hil hti
    have hs := (hspec i hil).1
    rw [hti] at hs
    exact hs.2.1
  have hpan : ∀ k x, pk = some (k, x) → k < ops.size ∧ t k = .pan := by
    intro k x hx
    rcases hpk k x hx with h | ⟨_, h2, h3⟩
    · cases h
    · exact ⟨h2, h3⟩
  refine wp_region_any hm ?_
  have main : ∀ (fuel : Nat) (listed : Array Bool) (a1 : Act) (w1 : World) (S : Nat → Bool), listed.size = ops.size → (∀ j, S j = listed.getD j false) → Shut ops S → (∀ j, S j = true → isVal (t j) = true) →
      ((List.range ops.size).filter fun j => !S j).length ≤ fuel →
      (∃ g1, Past base g w g1 (hAt t S H0 ops.size) w1 ∧ EnvRel g1 w1 (eAt op t S e ops.size) a1.tmps ∧ (∀ j, j < ops.size → S j = false → Fresh g1 (hAt t S H0 ops.size) (base + j)) ∧ base + ops.size ≤ (hAt t S H0 ops.size).next) →
      a1.tmps.size = n → a1.defers = a.defers → wpAny P .any ops Q fuel listed a1 w1 := by
    intro fuel
    induction fuel with
    | zero =>
      intro listed a1 w1 S hsz hS hshut hval hcnt hst hn1 hd1
      have hall : ∀ j, j < ops.size → S j = true := by
        intro j hj
        cases hSj : S j with
        | true => rfl
        | false =>
          exfalso
          have : j ∈ (List.range ops.size).filter fun j => !S j := by simp [hj, hSj]
          have := List.length_pos_of_mem this
          omega
      have hnone : pk = none := by
        cases hp : pk with
        | none => rfl
        | some kx =>
          exfalso
          obtain ⟨h1, h2⟩ := hpan kx.1 kx.2 hp
          have := hval kx.1 (hall kx.1 h1)
          rw [h2] at this; cases this
      have hr : Region.ready .any ops listed = [] := by
        rw [List.eq_nil_iff_forall_not_mem]
        intro j hj
        obtain ⟨h0, o, ho, _⟩ := mem_ready.1 hj
        have hlt := (Array.getElem?_eq_some_iff.1 ho).1
        have := hall j hlt
        rw [hS] at this
        simp only [Array.getD_eq_getD_getElem?] at this h0
        rw [Array.getElem?_eq_getElem (by omega)] at this h0
        simp at this h0
        rw [this] at h0; cases h0
      refine wpAny_done hr ?_ 0
      obtain ⟨g1, hp, hen, _, _⟩ := hst
      rw [eAt_all ops.size hall, ← hE] at hen
      rw [hAt_eq (S' := full) ops.size (fun j hj _ => by rw [hall j hj]; rfl), ← hHH] at hp
      exact hQn hnone g1 a1 w1 hp hd1 hn1 hen
    | succ fuel ih =>
      intro listed a1 w1 S hsz hS hshut hval hcnt hst hn1 hd1
      by_cases hr : Region.ready .any ops listed = []
      · -- nothing is left
        have hall : ∀ j, j < ops.size → S j = true := by
          intro j
          induction j using Nat.strongRecOn with
          | _ j ihj =>
            intro hj
            cases hSj : S j with
            | true => rfl
            | false =>
              exfalso
              have : j ∈ Region.ready .any ops listed := by
                refine mem_ready.2 ⟨?_, op j, of_lt hj, fun ed hed hb => ?_⟩
                · rw [hS] at hSj
                  simp only [Array.getD_eq_getD_getElem?] at hSj ⊢
                  rw [Array.getElem?_eq_getElem (by omega)] at hSj ⊢
                  simpa using hSj
                · have hlt := hback j hj ed hed hb
                  rw [← hS]
                  exact ihj ed.on hlt (by omega)
              rw [hr] at this; cases this
        have hnone : pk = none := by
          cases hp : pk with
          | none => rfl
          | some kx =>
            exfalso
            obtain ⟨h1, h2⟩ := hpan kx.1 kx.2 hp
            have := hval kx.1 (hall kx.1 h1)
            rw [h2] at this; cases this
        refine wpAny_done hr ?_ (fuel + 1)
        obtain ⟨g1, hp, hen, _, _⟩ := hst
        rw [eAt_all ops.size hall, ← hE] at hen
        rw [hAt_eq (S' := full) ops.size (fun j hj _ => by rw [hall j hj]; rfl), ← hHH] at hp
        exact hQn hnone g1 a1 w1 hp hd1 hn1 hen
      · refine ⟨fun h => absurd h hr, fun i hir => ?_⟩
        obtain ⟨g1, hp, hen, hfr, hnx⟩ := hst
        obtain ⟨hun, o, ho, hpre⟩ := mem_ready.1 hir
        have hil := (Array.getElem?_eq_some_iff.1 ho).1
        have hoi : op i = o := hop i o ho
        have hSi : S i = false := by
          rw [hS]
          simp only [Array.getD_eq_getD_getElem?] at hun ⊢
          rw [Array.getElem?_eq_getElem (by omega)] at hun ⊢
          simpa using hun
        have hpre' : ∀ ed, ed ∈ o.after → Region.binds .any ed = true → S ed.on = true := fun ed h1 h2 => by rw [hS]; exact hpre ed h1 h2
        have before : ∀ j, anc ops j i = true → S j = true := fun j h => anc_shut hshut ho hpre' h
        have later : ∀ j, j < ops.size → anc ops i j = true → S j = false := by
          intro j hj h
          cases hSj : S j with
          | false => rfl
          | true =>
            have := anc_shut hshut (of_lt hj) (hshut j _ (of_lt hj) hSj) h
            rw [hSi] at this; cases this
        have hcl : ∀ (S1 : Nat → Bool), Shut ops S1 → CL t S1 ops.size := by
          intro S1 hsh k v Hb Ha hk htk hSk j hj hld
          cases ha : anc ops j k with
          | true => exact anc_shut hsh (of_lt hk) (hsh k _ (of_lt hk) hSk) ha
          | false =>
            exfalso
            have := hNC j k hj hk ha
            rw [htk] at this
            cases htj : t j with
            | val v us rs =>
              rw [htj] at this hld
              obtain ⟨h, _⟩ := this
              subst h
              cases hld
            | call v Hb Ha => rw [htj] at this; exact this
            | pan => rw [htj] at hld; cases hld
            | dead => rw [htj] at hld; cases hld
        have hup : ∀ m, m ≤ ops.size → Shut ops (upTo m) := by
          intro m hm k o' ho' hk ed hed hb
          have hkl := (Array.getElem?_eq_some_iff.1 ho').1
          have hkm : k < m := by simpa [upTo] using hk
          have : op k = o' := hop k o' ho'
          exact upTo_lt (by have := hback k hkl ed (by rw [getD_of ho']; exact hed) hb; omega)
        have hlook : ∀ d, d ∈ o.looksAt ops → gget .bad (eAt op t S e ops.size) d = gget .bad (eAt op t full e i) d := by
          intro d hdl
          rw [← eAt_upTo (op := op) (t := t) (e := e) (i := i) ops.size (by omega)]
          refine eAt_congr ops.size (fun j hj hdj => ?_)
          rcases Nat.lt_trichotomy j i with h | h | h
          · rw [upTo_lt h]
            rcases hslot j i h hil with h1 | h1
            · exact before j h1
            · exact absurd (by rw [getD_of ho]; exact hdl) ((Oper.apart_spec h1).1 d hdj)
          · subst h; rw [hSi]; exact (Bool.not_eq_true _ ▸ upTo_ge (Nat.le_refl j) : upTo j j = false).symm
          · rw [show upTo i j = false by simpa using upTo_ge (i := i) (n := j) (by omega)]
            rcases hslot i j h hj with h1 | h1
            · exact later j hj h1
            · exact absurd (by rw [getD_of ho]; exact hdl) ((Oper.apart_spec h1).2.2 d hdj)
        have hwant : aWanted ops (eAt op t S e ops.size) o = aWanted ops (eAt op t full e i) o := aWanted_congr hlook
        have hdo : ∀ d, o.dst = some d → d < a1.tmps.size := by
          rw [hn1]; exact dstOk_spec (hds o (by rw [← Array.mem_def]; exact Array.mem_of_getElem? ho))
        -- the next state
        generalize hS' : (fun j => if j = i then true else S j) = S'
        have hS'i : S' i = true := by rw [← hS']; simp
        have hS'o : ∀ j, j ≠ i → S' j = S j := fun j hj => by rw [← hS']; simp [hj]
        have hlist' : ∀ j, S' j = (listed.setIfInBounds i true).getD j false := by
          intro j
          by_cases hji : j = i
          · subst hji; rw [hS'i]; simp [show j < listed.size by omega]
          · rw [hS'o j hji, hS, getD_set_ne false (Ne.symm hji)]
        have hshut' : Shut ops S' := by
          intro k o' ho' hk ed hed hb
          by_cases hki : k = i
          · subst hki
            rw [ho] at ho'
            simp only [Option.some.injEq] at ho'
            subst ho'
            have h1 := hback k hil ed (by rw [getD_of ho]; exact hed) hb
            rw [hS'o _ (by omega)]
            exact hpre' ed hed hb
          · rw [hS'o k hki] at hk
            have := hshut k o' ho' hk ed hed hb
            by_cases hei : ed.on = i
            · rw [hei]; exact hS'i
            · rw [hS'o _ hei]; exact this
        have hcnt' : ((List.range ops.size).filter fun j => !S' j).length ≤ fuel := by
          have hsub : ((List.range ops.size).filter fun j => !S' j) = ((List.range ops.size).filter fun j => !S j).filter fun j => decide (j ≠ i) := by
            rw [List.filter_filter]
            refine List.filter_congr fun j _ => ?_
            by_cases hji : j = i
            · subst hji; simp [hS'i]
            · simp [hS'o j hji, hji]
          rw [hsub]
          have hmem : i ∈ (List.range ops.size).filter fun j => !S j := by simp [hil, hSi]
          have := List.length_filter_lt_length_iff_exists (p := fun j => decide (j ≠ i)) (l := (List.range ops.size).filter fun j => !S j) |>.2 ⟨i, hmem, by simp⟩
          omega
        have hsz' : (listed.setIfInBounds i true).size = ops.size := by simpa using hsz
        have henv : ∀ v, isVal (t i) = true → (∀ e'', putT o (t i) e'' = aput e'' o.dst v) → ∀ s, gget .bad (eAt op t S' e ops.size) s = gget .bad (aput (eAt op t S e ops.size) o.dst v) s := by
          intro v _ hput s
          rw [gget_aput]
          by_cases hds' : o.dst = some s
          · rw [if_pos hds']
            refine eAt_last (i := i) hS'i (by rw [hoi]; exact hds') (fun e'' => by rw [hoi, hput, gget_aput, if_pos hds']) ops.size hil (fun j h1 h2 h3 h4 => ?_)
            rcases hslot i j h1 h2 with h5 | h5
            · have := later j h2 h5
              rw [hS'o j (by omega)] at h3
              rw [this] at h3; cases h3
            · exact (Oper.apart_spec h5).2.1 s (by rw [getD_of ho]; exact hds') h4
          · rw [if_neg hds']
            refine eAt_congr ops.size (fun j hj hdj => hS'o j (fun h => hds' (by rw [h, hoi] at hdj; exact hdj)))
        have hs := (hspec i hil).1
        rw [hoi] at hs
        -- all that is loud agrees with the text's order, at a call or a panic
        have hloudEq : (t i = .pan ∨ ∃ v Hb Ha, t i = .call v Hb Ha) → ∀ j, j < ops.size → j ≠ i → loud (t j) = true → S j = upTo i j := by
          intro hti j hj hji hld
          have noConf : ∀ x y, (x = .pan ∨ ∃ v Hb Ha, x = .call v Hb Ha) → loud y = true → ¬ NoConf x y ∧ ¬ NoConf y x := by
            intro x y hx hy
            rcases hx with rfl | ⟨v, Hb, Ha, rfl⟩
            · cases y with
              | val v us rs => cases us <;> simp [loud] at hy <;> simp [NoConf]
              | call v Hb Ha => simp [NoConf]
              | pan => simp [loud] at hy
              | dead => simp [loud] at hy
            · cases y with
              | val v us rs => cases us <;> simp [loud] at hy <;> simp [NoConf]
              | call v Hb Ha => simp [NoConf]
              | pan => simp [loud] at hy
              | dead => simp [loud] at hy
          rcases Nat.lt_trichotomy j i with h | h | h
          · rw [upTo_lt h]
            cases ha : anc ops j i with
            | true => exact before j ha
            | false => exact absurd (hNC j i h hil ha) (noConf _ _ hti hld).2
          · exact absurd h hji
          · rw [show upTo i j = false by simpa using upTo_ge (i := i) (n := j) (by omega)]
            cases ha : anc ops i j with
            | true => exact later j hj ha
            | false => exact absurd (hNC i j h hj ha) (noConf _ _ hti hld).1
        have hmemEq : (t i = .pan ∨ ∃ v Hb Ha, t i = .call v Hb Ha) → hAt t S H0 ops.size = hAt t full H0 i := by
          intro hti
          rw [← hAt_upTo (t := t) (H := H0) (i := i) ops.size (by omega)]
          refine hAt_eq ops.size (fun j hj hld => ?_)
          by_cases hji : j = i
          · subst hji; rw [hSi]; exact (show upTo j j = false by simpa using upTo_ge (Nat.le_refl j)).symm
          · exact hloudEq hti j hj hji hld
        unfold wpOp
        rw [ho]
        simp only
        have hstepE : ∀ r, astep P (aeval (eAt op t full e i)) (hAt t full H0 i) (base + i) o.op = some r → astep P (aeval (eAt op t S e ops.size)) (hAt t full H0 i) (base + i) o.op = some r := by
          intro r hr'
          rw [← hr']
          exact astep_congr (fun x hx => aeval_congr hlook x hx)
        have hfri := hfr i hil hSi
        cases hti : t i with
        | dead =>
          rw [hti] at hs
          obtain ⟨k, x, hkx, hak⟩ := hs
          exfalso
          have h1 := before k hak
          have h2 := hval k h1
          rw [(hpan k x hkx).2] at h2; cases h2
        | pan =>
          rw [hti] at hs
          obtain ⟨v, Hp, hkx, hwt, hcase⟩ := hs
          rw [aWanted_sound (hwant.trans hwt) hen, if_pos rfl]
          left
          have hm' := hmemEq (.inl hti)
          rcases hcase with ⟨hst, rfl⟩ | ⟨f, args, hst, himp, hc⟩
          · have hst' := hstepE _ hst
            rw [← hm'] at hst'
            refine oper_sound hK (N := base) hst' hp.inv hen hp.top hfri (by omega) (by omega) (by omega) hdo (fun v us rs h => by cases h) (fun f args h => by cases h) ?_
            intro v' hv' u hrel
            simp only [Sr.pan.injEq] at hv'
            subst hv'
            refine hQp i v _ hkx g1 a1 w1 u ?_ hd1 hn1 hrel
            rw [← hm']; exact hp
          · have hst' := hstepE _ hst
            rw [← hm'] at hst' hc
            refine oper_sound hK (N := base) hst' hp.inv hen hp.top hfri (by omega) (by omega) (by omega) hdo (fun v us rs h => by cases h) ?_ (fun v h => by cases h)
            intro f' args' hfa
            simp only [Sr.call.injEq] at hfa
            obtain ⟨rfl, rfl⟩ := hfa
            refine ⟨_, hc, (fun v H' h => by cases h), ?_⟩
            intro v' H' hv' g2 u w2 hp2 hrel
            simp only [CR.pan.injEq] at hv'
            obtain ⟨rfl, rfl⟩ := hv'
            exact hQp i v _ hkx g2 a1 w2 u (hp.trans hp2 (by omega)) hd1 hn1 hrel
        | call v Hb Ha =>
          rw [hti] at hs
          obtain ⟨hwt, _, f, args, hst, himp, hc⟩ := hs
          rw [aWanted_sound (hwant.trans hwt) hen, if_pos rfl]
          left
          have hm' := hmemEq (.inr ⟨v, Hb, Ha, hti⟩)
          have hst' := hstepE _ hst
          rw [← hm'] at hst' hc
          refine oper_sound hK (N := base) hst' hp.inv hen hp.top hfri (by omega) (by omega) (by omega) hdo (fun v us rs h => by cases h) ?_ (fun v h => by cases h)
          intro f' args' hfa
          simp only [Sr.call.injEq] at hfa
          obtain ⟨rfl, rfl⟩ := hfa
          refine ⟨_, hc, ?_, (fun v H' h => by cases h)⟩
          intro v' H' hv' g2 u w2 hp2 hrel
          simp only [CR.ret.injEq] at hv'
          obtain ⟨rfl, rfl⟩ := hv'
          have hmem' : hAt t S' H0 ops.size = Ha := by
            have h1 : hAt t S' H0 ops.size = hAt t (upTo (i + 1)) H0 ops.size := by
              refine hAt_eq ops.size (fun j hj hld => ?_)
              by_cases hji : j = i
              · subst hji; rw [hS'i, upTo_lt (by omega)]
              · rw [hS'o j hji, hloudEq (.inr ⟨v, Hb, Ha, hti⟩) j hj hji hld]
                simp only [upTo]
                exact decide_eq_decide.2 (by omega)
            rw [h1, hAt_upTo ops.size (by omega)]
            simp only [hAt]
            rw [if_pos (full_eq i), hti]
            rfl
          refine ih _ (a1.put o.dst u) w2 S' hsz' hlist' hshut' ?_ hcnt' ⟨g2, ?_, ?_, ?_, ?_⟩ (by rw [size_put]; exact hn1) (by rw [defers_put]; exact hd1)
          · intro j hj
            by_cases hji : j = i
            · subst hji; rw [hti]; rfl
            · exact hval j (by rw [← hS'o j hji]; exact hj)
          · rw [hmem']; exact hp.trans hp2 (by omega)
          · intro s
            rw [henv v (by rw [hti]; rfl) (fun e'' => by rw [hti]; rfl) s]
            exact hrel s
          · intro j hj hSj
            have hji : j ≠ i := fun h => by subst h; rw [hS'i] at hSj; cases hSj
            rw [hmem']
            obtain ⟨q1, q2, _, _⟩ := hfr j hj (by rw [← hS'o j hji]; exact hSj)
            have := hp2.new (base + j) (by omega)
            exact hp2.inv.fresh_of (by rw [this.1]; exact q1) (by rw [this.2]; exact q2)
          · rw [hmem']; have := hp2.next; omega
        | val v us rs =>
          rw [hti] at hs
          have hval' : ∀ j, S' j = true → isVal (t j) = true := by
            intro j hj
            by_cases hji : j = i
            · subst hji; rw [hti]; rfl
            · exact hval j (by rw [← hS'o j hji]; exact hj)
          have hnotcall : ∀ j v' Hb Ha, j < ops.size → t j = .call v' Hb Ha → S' j = S j := fun j v' Hb Ha _ hj => hS'o j (fun h => by subst h; rw [hti] at hj; cases hj)
          have hnext' : (hAt t S' H0 ops.size).next = (hAt t S H0 ops.size).next := hAt_next ops.size hnotcall
          -- who touches what operation i touches
          have htouch : ∀ k, (k ∈ rs ∨ ∃ u, u ∈ us ∧ u.key = k) → ∀ j, j < ops.size → j ≠ i →
              (∀ v' us' rs', t j = .val v' us' rs' → (∃ u, u ∈ us' ∧ u.key = k) → S j = upTo i j) ∧ (∀ v' Hb Ha, t j = .call v' Hb Ha → S j = upTo i j ∨ obs Hb k = obs Ha k) := by
            intro k hk j hj hji
            rcases Nat.lt_or_gt_of_ne hji with h | h
            · rw [upTo_lt h]
              cases ha : anc ops j i with
              | true => exact ⟨fun _ _ _ _ _ => before j ha, fun _ _ _ _ => .inl (before j ha)⟩
              | false =>
                have hnc := hNC j i h hil ha
                rw [hti] at hnc
                refine ⟨fun v' us' rs' htj hu => ?_, fun v' Hb Ha htj => ?_⟩
                · exfalso
                  rw [htj] at hnc
                  obtain ⟨u, hu1, hu2⟩ := hu
                  rcases hk with hk | ⟨u', hu1', hu2'⟩
                  · exact (hnc.1 u hu1).2 (by rw [hu2]; exact hk)
                  · exact (hnc.1 u hu1).1 u' hu1' (by rw [hu2, hu2'])
                · rw [htj] at hnc
                  obtain ⟨rfl, hkp⟩ := hnc
                  rcases hk with hk | ⟨u', hu1', _⟩
                  · have := hkp k hk
                    exact .inr (by simp only [obs, this.1, this.2])
                  · cases hu1'
            · rw [show upTo i j = false by simpa using upTo_ge (i := i) (n := j) (by omega)]
              cases ha : anc ops i j with
              | true => exact ⟨fun _ _ _ _ _ => later j hj ha, fun _ _ _ _ => .inl (later j hj ha)⟩
              | false =>
                have hnc := hNC i j h hj ha
                rw [hti] at hnc
                refine ⟨fun v' us' rs' htj hu => ?_, fun v' Hb Ha htj => ?_⟩
                · exfalso
                  rw [htj] at hnc
                  obtain ⟨u, hu1, hu2⟩ := hu
                  rcases hk with hk | ⟨u', hu1', hu2'⟩
                  · exact hnc.2 u hu1 (by rw [hu2]; exact hk)
                  · exact (hnc.1 u' hu1').1 u hu1 (by rw [hu2, hu2'])
                · rw [htj] at hnc
                  obtain ⟨rfl, hkp⟩ := hnc
                  rcases hk with hk | ⟨u', hu1', _⟩
                  · have := hkp k hk
                    exact .inr (by simp only [obs, this.1, this.2])
                  · cases hu1'
          have hupi : upTo i i = false := by simpa using upTo_ge (Nat.le_refl i)
          have hobs : ∀ k, (k ∈ rs ∨ ∃ u, u ∈ us ∧ u.key = k) → obs (hAt t S H0 ops.size) k = obs (hAt t full H0 i) k := by
            intro k hk
            rw [← hAt_upTo (t := t) (H := H0) (i := i) ops.size (by omega)]
            refine hAt_congr ops.size S (upTo i) (hcl S hshut) (hcl _ (hup i (by omega))) hHb ?_ ?_
            · intro j v' us' rs' hj htj hu
              by_cases hji : j = i
              · subst hji; rw [hSi, hupi]
              · exact (htouch k hk j hj hji).1 v' us' rs' htj hu
            · intro j v' Hb Ha hj htj
              by_cases hji : j = i
              · subst hji; rw [hti] at htj; cases htj
              · exact (htouch k hk j hj hji).2 v' Hb Ha htj
          have hobs' : ∀ k, obs (hAt t S' H0 ops.size) k = obs (appU (hAt t S H0 ops.size) us) k := by
            intro k
            by_cases hk : ∃ u, u ∈ us ∧ u.key = k
            · have h1 : obs (hAt t S' H0 ops.size) k = obs (hAt t full H0 (i + 1)) k := by
                rw [← hAt_upTo (t := t) (H := H0) (i := i + 1) ops.size (by omega)]
                refine hAt_congr ops.size S' (upTo (i + 1)) (hcl S' hshut') (hcl _ (hup (i + 1) (by omega))) hHb ?_ ?_
                · intro j v' us' rs' hj htj hu
                  by_cases hji : j = i
                  · subst hji; rw [hS'i, upTo_lt (by omega)]
                  · rw [hS'o j hji, (htouch k (.inr hk) j hj hji).1 v' us' rs' htj hu]
                    simp only [upTo]
                    exact decide_eq_decide.2 (by omega)
                · intro j v' Hb Ha hj htj
                  by_cases hji : j = i
                  · subst hji; rw [hti] at htj; cases htj
                  · rcases (htouch k (.inr hk) j hj hji).2 v' Hb Ha htj with h | h
                    · left
                      rw [hS'o j hji, h]
                      simp only [upTo]
                      exact decide_eq_decide.2 (by omega)
                    · exact .inr h
              rw [h1]
              simp only [hAt]
              rw [if_pos (full_eq i), hti]
              exact obs_appU_congr us _ _ _ (hobs k (.inr hk)).symm
            · rw [obs_appU_other us _ _ (fun u hu h => hk ⟨u, hu, h⟩)]
              refine hAt_congr ops.size S' S (hcl S' hshut') (hcl S hshut) hHb ?_ ?_
              · intro j v' us' rs' hj htj hu
                by_cases hji : j = i
                · subst hji
                  rw [hti] at htj
                  simp only [Tr.val.injEq] at htj
                  obtain ⟨_, rfl, _⟩ := htj
                  exact absurd hu hk
                · exact hS'o j hji
              · intro j v' Hb Ha hj htj
                exact .inl (hnotcall j v' Hb Ha hj htj)
          -- the state behind it
          have next : ∀ g2 u w2, Past base g1 w1 g2 (appU (hAt t S H0 ops.size) us) w2 → (∀ j, j < ops.size → j ≠ i → S j = false → g2.box (base + j) = g1.box (base + j) ∧ g2.own (base + j) = g1.own (base + j)) →
              EnvRel g2 w2 (aput (eAt op t S e ops.size) o.dst v) (a1.put o.dst u).tmps → wpAny P .any ops Q fuel (listed.setIfInBounds i true) (a1.put o.dst u) w2 := by
            intro g2 u w2 hp2 hk hrel
            have hg : ∀ r, (hAt t S' H0 ops.size).get r = (appU (hAt t S H0 ops.size) us).get r := fun r => by have := hobs' r; simp only [obs, Prod.mk.injEq] at this; exact this.1
            have hl : ∀ r, (hAt t S' H0 ops.size).isLive r = (appU (hAt t S H0 ops.size) us).isLive r := fun r => by have := hobs' r; simp only [obs, Prod.mk.injEq] at this; exact this.2
            have hinv := hp2.inv.next hg hl
            have hp3 := hp.trans hp2 (Nat.le_refl _)
            refine ih _ (a1.put o.dst u) w2 S' hsz' hlist' hshut' hval' hcnt' ⟨g2, ⟨hp3.ext, hinv, ?_, hp3.new, ?_⟩, ?_, ?_, ?_⟩ (by rw [size_put]; exact hn1) (by rw [defers_put]; exact hd1)
            · have := hp2.top
              rw [appU_next] at this
              rw [hnext']; exact this
            · rw [hnext']; omega
            · intro s
              rw [henv v (by rw [hti]; rfl) (fun e'' => by rw [hti]; rfl) s]
              exact hrel s
            · intro j hj hSj
              have hji : j ≠ i := fun h => by subst h; rw [hS'i] at hSj; cases hSj
              have hSj' : S j = false := by rw [← hS'o j hji]; exact hSj
              obtain ⟨q1, q2, _, _⟩ := hfr j hj hSj'
              have := hk j hj hji hSj'
              exact hinv.fresh_of (by rw [this.1]; exact q1) (by rw [this.2]; exact q2)
            · rw [hnext']; exact hnx
          rcases hs with ⟨hwt, rfl, rfl, rfl⟩ | ⟨hwt, hst | ⟨f, args, H', hst, himp, hc, rfl, rfl⟩⟩
          · rw [aWanted_sound (hwant.trans hwt) hen, if_neg (by simp)]
            exact next g1 undef w1 ⟨Ext.refl _ _, hp.inv, hp.top, New.refl _ _, hp.next⟩ (fun _ _ _ _ => ⟨rfl, rfl⟩) (hen.put hdo (.tup [] #[] rfl (by simp)))
          · rw [aWanted_sound (hwant.trans hwt) hen, if_pos rfl]
            left
            have hst' := astep_heap (H' := hAt t S H0 ops.size) (hstepE _ hst) (fun k hk => hobs k (by
              simp only [Sr.keys, List.mem_append, List.mem_map] at hk
              exact hk))
            refine oper_sound hK (N := base) hst' hp.inv hen hp.top hfri (by omega) (by omega) (by omega) hdo ?_ (fun f args h => by cases h) (fun v h => by cases h)
            intro v' us' rs' hv' g2 u w2 hp2 hk hrel
            simp only [Sr.val.injEq] at hv'
            obtain ⟨rfl, rfl, rfl⟩ := hv'
            exact next g2 u w2 hp2 (fun j hj hji _ => hk (base + j) (by omega)) hrel
          · rw [aWanted_sound (hwant.trans hwt) hen, if_pos rfl]
            left
            have hst' := astep_heap (H' := hAt t S H0 ops.size) (hstepE _ hst) (fun k hk => by simp [Sr.keys] at hk)
            obtain ⟨v1, hv1, hall⟩ := hK.pure f args _ _ himp hc
            simp only [CR.ret.injEq] at hv1
            obtain ⟨rfl, _⟩ := hv1
            refine oper_sound hK (N := base) hst' hp.inv hen hp.top hfri (by omega) (by omega) (by omega) hdo (fun v us rs h => by cases h) ?_ (fun v h => by cases h)
            intro f' args' hfa
            simp only [Sr.call.injEq] at hfa
            obtain ⟨rfl, rfl⟩ := hfa
            refine ⟨_, hall _, ?_, fun v H' h => by cases h⟩
            intro v' H'' hv' g2 u w2 hp2 hrel
            simp only [CR.ret.injEq] at hv'
            obtain ⟨rfl, rfl⟩ := hv'
            exact next g2 u w2 ⟨hp2.ext, hp2.inv, hp2.top, hp2.new.mono (by omega), by have := hp2.next; simp only [appU] at this ⊢; omega⟩
              (fun j hj _ _ => hp2.new (base + j) (by omega)) hrel
  obtain ⟨hdx, hdi⟩ := hi.drew
  have hno : ∀ j, (Array.replicate ops.size false).getD j false = false := fun j => by
    by_cases h : j < ops.size <;> simp [h]
  have hE0 : ∀ m, eAt op t (fun _ => false) e m = e := by intro m; induction m with | zero => rfl | succ m ih => simp [eAt, ih]
  have hH0' : ∀ m, hAt t (fun _ => false) H0 m = H0 := by intro m; induction m with | zero => rfl | succ m ih => simp [hAt, ih]
  refine main ops.size (Array.replicate ops.size false) a _ (fun _ => false) (by simp) (fun j => (hno j).symm) (fun _ _ _ h => by cases h) (fun _ h => by cases h) (Nat.le_trans (List.length_filter_le _ _) (by simp)) ⟨g, ?_, ?_, ?_, ?_⟩ hn rfl
  · rw [hH0', ← hH0]
    exact ⟨hdx, hdi.next (fun _ => rfl) (fun _ => rfl), htop.mono (by simp), New.refl _ _, by simp⟩
  · rw [hE0]; exact he.ext hdx
  · intro j hj _
    rw [hH0', ← hH0]
    have := htop (base + j) (by omega)
    exact (hdi.next (H' := { H with next := base + ops.size }) (fun _ => rfl) (fun _ => rfl)).fresh_of this.1 this.2
  · rw [hH0', ← hH0]; simp
end Go.Proofs.Ytiiaajajhkdemaa.VA
