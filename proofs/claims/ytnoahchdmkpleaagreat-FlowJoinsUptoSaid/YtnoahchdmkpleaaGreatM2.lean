/- What is proved: appending in the abstract interpreter (VA) against the model's own append; and so one step of it. No condition.
What is proved: maps in the abstract interpreter (VA), against the model's own. No condition.
What is proved: one step of the abstract interpreter (VA), whatever the operation, against the model's own. No condition.
What is said: the abstract interpreter (VA) itself: regions, code, calls.
What is said: the abstract interpreter (VA): code and calls.
What is proved: a region whose order is the text's, in the abstract interpreter (VA), against the model's own rules. No condition.
What is proved: what a region that draws its order comes to in the abstract interpreter (VA) hangs on no order: the plain part, over lists of operations and what they have done. No condition.
What is proved: what a region that draws its order has done, operation by operation, in the abstract interpreter (VA). No condition.
What is proved: a region that draws its order, in the abstract interpreter (VA), against the model's own rules, for every order. No condition. -/
import Derived.Test.YtnoahchdmkpleaaGreatM1
import Derived.MapKept
/-! Va8 -/
namespace Go.Proofs.YtnoahchdmkpleaaGreat.VA
open Go Go.RowKit

/-- What an append leaves: the old elements' cells, and behind them the new ones'. -/
theorem rel_own {g' : Gh} {w' : World} {id b cap sz : Nat} {e : TypeId} {es xs : List (List AV)} {F : Nat → Value} (ho : g'.own id = some (b, es.length + xs.length, cap, e, sz))
  (hv : g'.vis b = (es.length + xs.length) * sz) (hcap : es.length + xs.length ≤ cap) (hes : ∀ x, x ∈ es → x.length = sz) (hxs : ∀ x, x ∈ xs → x.length = sz)
  (hc : ∀ k, k < (es.length + xs.length) * sz → w'.cell? ⟨b, k, none⟩ = some (F k)) (h1 : ∀ k, k < (es.length + xs.length) * sz → (F k).oneCell' = true)
  (hre : ∀ (i : Nat) (el : List AV) (j : Nat) (x : AV), es[i]? = some el → el[j]? = some x → Rel g' w' x (F (i * sz + j)))
  (hrx : ∀ (i : Nat) (el : List AV) (j : Nat) (x : AV), xs[i]? = some el → el[j]? = some x → Rel g' w' (san x) (F ((es.length + i) * sz + j))) :
  Rel g' w' (.sl (.own id e sz) (es ++ sanLL xs)) (.slice (some ⟨b, 0, none⟩) (es.length + xs.length) cap) := by
 refine .sl _ _ _ _ _ sz F (by simp) (by simp [length_sanLL]) hcap (by simp) ?_ ?_ h1 ?_ ?_
 ·intro s t z hs
  simp only [Own.own.injEq] at hs
  obtain ⟨rfl, rfl, rfl⟩ := hs
  exact ⟨rfl, b, rfl, ho⟩
 ·intro x hx
  rcases List.mem_append.1 hx with hx | hx
  ·exact hes x hx
  ·rw [sanLL_map] at hx
   obtain ⟨y, hy, rfl⟩ := List.mem_map.1 hx
   rw [length_sanL]
   exact hxs y hy
 ·intro _
  exact ⟨b, 0, rfl, by rw [hv]; omega, fun k hk => by rw [Nat.zero_add]; exact hc k hk⟩
 ·intro i el j x hel hx
  by_cases hi : i < es.length
  ·rw [List.getElem?_append_left hi] at hel
   exact hre i el j x hel hx
  ·rw [List.getElem?_append_right (by omega)] at hel
   obtain ⟨el', hel', rfl⟩ := getElem?_sanLL hel
   obtain ⟨x', hx', rfl⟩ := getElem?_sanL hx
   have := hrx _ el' j x' hel' hx'
   rwa [show es.length + (i - es.length) = i by omega] at this

theorem aAppend_sound {P : Program} {g : Gh} {H : Heap} {w : World} {t : TypeId} (ty : TypeId) {s x z : AV} {u v : Value} {us : List U} {rs : List Nat} {id : Nat} (h : aAppend P t s x H id = some (z, us, rs))
  (hi : Inv g H w) (hf : Fresh g H id) (hs : Rel g w s u) (hx : Rel g w x v) :
  ∃ g' w' r, (Builtin.append_ #[t, t] ty #[u, v]).run P w = .ok r w' ∧ Ext g w g' w' ∧ Inv g' (appU H us) w' ∧ Rel g' w' z r ∧ (∀ r, r ≠ id → g'.box r = g.box r ∧ g'.own r = g.own r) := by
 unfold aAppend at h
 split at h
 ·rename_i e sz by_ r n z0 het
  split at h
  ·rename_i hz0
   subst hz0
   exact aAppAr_sound ty het h hi hf hs hx
  ·cases h
 ·rename_i e sz by_ o es ox xs het
  obtain ⟨hu, i, hinfo, hsz, hby⟩ := tElem_spec het
  have hsize : (sizeOf e).run P w = .ok sz w := by simp [sizeOf, typeInfo, hinfo, hsz]
  split at h
  ·simp only [Option.some.injEq, Prod.mk.injEq] at h
   obtain ⟨rfl, rfl, rfl⟩ := h
   obtain ⟨a, cap, rfl, hcap, _⟩ := hs.sl_inv
   obtain ⟨a', cap', rfl, _⟩ := hx.sl_inv
   exact ⟨g, w, _, run_append_zero ty hu hsize hcap, Ext.refl g w, hi, hs, fun _ _ => ⟨rfl, rfl⟩⟩
  ·rename_i x0 xs'
   split at h
   ·rename_i hcond
    obtain ⟨hx0, hpos, hzok, hbytes, hlen⟩ := hcond
    obtain ⟨i', zv, hinfo', hiz, hzsz⟩ := zeroOk_spec hzok
    rw [hinfo] at hinfo'
    simp only [Option.some.injEq] at hinfo'
    subst hinfo'
    obtain ⟨ad, cx, sz', f, rfl, hxsz, hnews, hone, hrx⟩ := news_of hx (by simp)
    have hsz' : sz' = sz := by rw [← hx0]; exact (hxsz x0 (List.mem_cons_self ..)).symm
    subst hsz'
    generalize hxs : x0 :: xs' = xs at *
    have hm : xs'.length + 1 = xs.length := by rw [← hxs]; rfl
    rw [hm] at hbytes hlen
    have hm0 : 0 < xs.length := by omega
    have hmaxm : maxLen = 9223372036854775807 := rfl
    have hnl : ((List.range (xs.length * sz')).map f).length = xs.length * i.size := by simp [hsz]
    have hbm : xs.length * i.bytes ≤ 281474976710656 := by
     rw [hby]
     have := Nat.mul_le_mul_right by_ (show xs.length ≤ es.length + xs.length by omega)
     omega
    -- a new row: what both growing cases come to
    have grow : ∀ (olds : List Value) (cap : Nat) (oldCap : Nat), olds.length = es.length * sz' → (∀ el, el ∈ es → el.length = sz') → (∀ u, u ∈ olds → u.oneCell' = true) →
      (∀ (i : Nat) (el : List AV) (j : Nat) (x : AV), es[i]? = some el → el[j]? = some x → ∃ u, olds[i * sz' + j]? = some u ∧ Rel g w x u) →
      cap = grownCap w (es.length + xs.length) oldCap e → ∀ H1 : Heap, (∀ r, H1.ho r = H.ho r) → (∀ k, H1.isLive k = true → k = id ∨ H.isLive k = true) →
      ∃ g', Ext g w g' (w.drew.alloc (.cells (olds.toArray ++ ((List.range (xs.length * sz')).map f).toArray ++ Builtin.zeroCells zv.cells (cap - (es.length + xs.length))) e)) ∧
       Inv g' H1 (w.drew.alloc (.cells (olds.toArray ++ ((List.range (xs.length * sz')).map f).toArray ++ Builtin.zeroCells zv.cells (cap - (es.length + xs.length))) e)) ∧
       Rel g' (w.drew.alloc (.cells (olds.toArray ++ ((List.range (xs.length * sz')).map f).toArray ++ Builtin.zeroCells zv.cells (cap - (es.length + xs.length))) e))
        (.sl (.own id e sz') (es ++ sanLL xs)) (.slice (some ⟨w.heap.size, 0, none⟩) (es.length + xs.length) cap) ∧ (∀ r, r ≠ id → g'.box r = g.box r ∧ g'.own r = g.own r) := by
     intro olds cap oldCap hol hes holdone hre hcapeq H1 hg1 hl1
     have hge := grownCap_ge w (es.length + xs.length) oldCap e
     have hle := grownCap_le_maxLen w (es.length + xs.length) oldCap e (by rw [hmaxm]; omega)
     rw [← hcapeq] at hge hle
     obtain ⟨hd1, hd2⟩ := hi.drew
     have hvs : (olds.toArray ++ ((List.range (xs.length * sz')).map f).toArray ++ Builtin.zeroCells zv.cells (cap - (es.length + xs.length))).size = cap * sz' := by
      simp only [Array.size_append, List.size_toArray, List.length_map, List.length_range, size_zeroCells, hzsz, hol, ← Nat.add_mul]
      congr 1
      omega
     obtain ⟨he, hinv⟩ := inv_ownNew (vs := olds.toArray ++ ((List.range (xs.length * sz')).map f).toArray ++ Builtin.zeroCells zv.cells (cap - (es.length + xs.length))) (e := e)
      hd2 hf hge hle hvs hg1 hl1
     have he2 := hd1.trans he
     refine ⟨_, he2, hinv, ?_, fun r hr => ⟨rfl, by simp only [Gh.addOwn]; rw [if_neg hr]⟩⟩
     have hval : ∀ k, k < (es.length + xs.length) * sz' →
       (olds.toArray ++ ((List.range (xs.length * sz')).map f).toArray ++ Builtin.zeroCells zv.cells (cap - (es.length + xs.length)))[k]? =
        some (if k < es.length * sz' then olds.getD k undef else f (k - es.length * sz')) := by
      intro k hk
      rw [Nat.add_mul] at hk
      rw [Array.getElem?_append_left (by simp [hol]; omega)]
      by_cases hk2 : k < es.length * sz'
      ·rw [if_pos hk2, Array.getElem?_append_left (by simp [hol]; omega)]
       simp [show k < olds.length by omega]
      ·rw [if_neg hk2, Array.getElem?_append_right (by simp [hol]; omega)]
       simp only [List.size_toArray, hol, List.getElem?_toArray, List.getElem?_map]
       rw [List.getElem?_range (by omega)]
       rfl
     refine rel_own (F := fun k => if k < es.length * sz' then olds.getD k undef else f (k - es.length * sz')) (by simp [Gh.addOwn]) (by simp [Gh.addOwn]) hge hes hxsz ?_ ?_ ?_ ?_
     ·intro k hk
      have := World.cell?_alloc_new w.drew (olds.toArray ++ ((List.range (xs.length * sz')).map f).toArray ++ Builtin.zeroCells zv.cells (cap - (es.length + xs.length))) e k
      rw [World.size_drew] at this
      rw [this]
      exact hval k hk
     ·intro k hk
      rw [Nat.add_mul] at hk
      show Value.oneCell' (if k < es.length * sz' then olds.getD k undef else f (k - es.length * sz')) = true
      split
      ·have hlt : k < olds.length := by omega
       exact holdone _ (by simp [hlt])
      ·exact hone _ (by omega)
     ·intro i el j x hel hx
      obtain ⟨u, h1, h2⟩ := hre i el j x hel hx
      have hil : i < es.length := (List.getElem?_eq_some_iff.1 hel).1
      have hjl : j < sz' := by rw [← hes el (List.mem_of_getElem? hel)]; exact (List.getElem?_eq_some_iff.1 hx).1
      have hb := Nat.mul_le_mul_right sz' (show i + 1 ≤ es.length by omega)
      rw [Nat.add_mul] at hb
      show Rel _ _ x (if i * sz' + j < es.length * sz' then olds.getD (i * sz' + j) undef else f (i * sz' + j - es.length * sz'))
      rw [if_pos (by omega), List.getD_eq_getElem?_getD, h1]
      exact h2.ext he2
     ·intro i el j x hel hx
      show Rel _ _ (san x) (if (es.length + i) * sz' + j < es.length * sz' then olds.getD ((es.length + i) * sz' + j) undef else f ((es.length + i) * sz' + j - es.length * sz'))
      rw [show (es.length + i) * sz' = es.length * sz' + i * sz' from Nat.add_mul .., if_neg (by omega), show es.length * sz' + i * sz' + j - es.length * sz' = i * sz' + j by omega]
      exact ((hrx i el j x hel hx).ext he2).san (fun _ => Nat.le_refl _)
    split at h
    ·-- nil
     cases hs with
     | sl o es a n cap sz f ho hn => exact absurd rfl ho
     | nil =>
     split at h
     ·split at h
      ·rename_i hall
       simp only [Option.some.injEq, Prod.mk.injEq] at h
       obtain ⟨rfl, rfl, rfl⟩ := h
       have hr := run_append_nil (P := P) w t ty e i zv hu hinfo hiz ad xs.length cx _ hnl hnews hm0 (by omega) hbm
       have hnr := relL_flatten xs f hxsz hrx
       obtain ⟨g', h1, h2, h3, h4⟩ := arr_grow (n := 0) (m := xs.length) (sz := sz') (old := 0) (e := e) (zv := zv) (os := []) (ov := []) hi hf (RelL.nil g w) hnr (by simp) (by simp) hzsz (by simp at hlen ⊢; omega) rfl
       simp only [Nat.zero_add, List.nil_append] at h1 h2 h3
       refine ⟨g', _, _, hr, ?_, ?_, ?_, h4⟩
       ·simpa using h1
       ·simpa [appU, U.app] using h2
       ·rw [hm]; simpa using h3
      ·cases h
     ·simp only [Option.some.injEq, Prod.mk.injEq] at h
      obtain ⟨rfl, rfl, rfl⟩ := h
      have hr := run_append_nil (P := P) w t ty e i zv hu hinfo hiz ad xs.length cx _ hnl hnews hm0 (by omega) hbm
      simp only [List.length_nil, Nat.zero_add] at grow
      obtain ⟨g', h1, h2, h3, h4⟩ := grow [] (grownCap w xs.length 0 e) 0 (by simp) (by simp) (by simp) (by simp) rfl (H.setLive id true) (fun _ => rfl)
       (fun k hk => by rw [Heap.isLive_setLive] at hk; split at hk <;> simp_all)
      refine ⟨g', _, _, hr, ?_, ?_, ?_, h4⟩
      ·simpa using h1
      ·simpa [appU, U.app] using h2
      ·simpa using h3
    ·-- ex
     split at h
     ·rename_i hfl
      simp only [Option.some.injEq, Prod.mk.injEq] at h
      obtain ⟨rfl, rfl, rfl⟩ := h
      have hlive : ∀ k, (H.setLive id true).isLive k = true → k = id ∨ H.isLive k = true := fun k hk => by rw [Heap.isLive_setLive] at hk; split at hk <;> simp_all
      cases hs with
      | sl o es a n cap sz0 f0 ho hn hcap hex hown hsz0 hone0 ha hr0 =>
       subst hn
       have hcn := hex rfl
       subst hcn
       have hszn : ∀ el, el ∈ es → el.length = sz' := by
        cases hes : es with
        | nil => simp
        | cons e1 es1 =>
         rw [hes] at hfl
         simp only [firstLen, beq_iff_eq] at hfl
         intro el hel
         rw [hsz0 el (by rw [hes]; exact hel), ← hfl]
         exact (hsz0 e1 (by rw [hes]; exact List.mem_cons_self ..)).symm
       have hfit : Builtin.nextslicecap (es.length + xs.length) es.length * i.bytes ≤ 281474976710656 := by rw [hby]; exact growslice_fits (by omega) hbytes
       by_cases hz0 : es.length = 0
       ·have hnil : es = [] := List.length_eq_zero_iff.1 hz0
        subst hnil
        simp only [List.length_nil, Nat.zero_add] at grow
        obtain ⟨g', h1, h2, h3, h4⟩ := grow [] (grownCap w xs.length 0 e) 0 (by simp) (by simp) (by simp) (by simp) rfl (H.setLive id true) (fun _ => rfl) hlive
        cases a with
        | none =>
         have hr := run_append_nil (P := P) w t ty e i zv hu hinfo hiz ad xs.length cx _ hnl hnews hm0 (by omega) hbm
         refine ⟨g', _, _, hr, ?_, ?_, ?_, h4⟩
         ·simpa using h1
         ·simpa [appU, U.app] using h2
         ·simpa using h3
        | some a0 =>
         have hr := run_append_grow (P := P) w t ty e i zv hu hinfo hiz a0 0 0 [] (by simp) (by simp) ad xs.length cx _ hnl hnews (by omega) (by omega) (by simpa using hfit)
         simp only [Nat.zero_add] at hr
         refine ⟨g', _, _, hr, ?_, ?_, ?_, h4⟩
         ·simpa using h1
         ·simpa [appU, U.app] using h2
         ·simpa using h3
       ·obtain ⟨b, off, rfl, hvis, hcell⟩ := ha hz0
        have hsz1 : sz0 = sz' := by
         cases hes : es with
         | nil => rw [hes] at hz0; exact absurd rfl hz0
         | cons e1 es1 =>
          have h1 := hsz0 e1 (by rw [hes]; exact List.mem_cons_self ..)
          have h2 := hszn e1 (by rw [hes]; exact List.mem_cons_self ..)
          omega
        subst hsz1
        have holds : ∀ j v, ((List.range (es.length * sz0)).map f0)[j]? = some v → w.cell? ((⟨b, off, none⟩ : Addr).add j) = some v := by
         intro j v hv
         rw [addr_add]
         simp only [List.getElem?_map, Option.map_eq_some_iff] at hv
         obtain ⟨a, h1, rfl⟩ := hv
         have hj : j < es.length * sz0 := by have := (List.getElem?_eq_some_iff.1 h1).1; simpa using this
         rw [List.getElem?_range hj] at h1
         simp at h1; subst h1
         exact hcell j hj
        obtain ⟨g', h1, h2, h3, h4⟩ := grow ((List.range (es.length * sz0)).map f0) (grownCap w (es.length + xs.length) es.length e) es.length (by simp) hszn
         (fun u hu => by
          obtain ⟨k, hk, rfl⟩ := List.mem_map.1 hu
          exact hone0 k (by simpa using hk))
         (fun i el j x hel hx => by
          have hil : i < es.length := (List.getElem?_eq_some_iff.1 hel).1
          have hjl : j < sz0 := by rw [← hszn el (List.mem_of_getElem? hel)]; exact (List.getElem?_eq_some_iff.1 hx).1
          have hb := Nat.mul_le_mul_right sz0 (show i + 1 ≤ es.length by omega)
          rw [Nat.add_mul] at hb
          refine ⟨f0 (i * sz0 + j), ?_, hr0 i el j x hel hx⟩
          rw [List.getElem?_map, List.getElem?_range (by omega)]
          rfl) rfl (H.setLive id true) (fun _ => rfl) hlive
        have hr := run_append_grow (P := P) w t ty e i zv hu hinfo hiz ⟨b, off, none⟩ es.length es.length _ (by simp [hsz]) holds ad xs.length cx _ hnl hnews (by omega) (by omega) hfit
        exact ⟨g', _, _, hr, h1, by simpa [appU, U.app] using h2, h3, h4⟩
     ·cases h
    ·-- own
     rename_i k e' sz''
     split at h
     ·rename_i hcc
      obtain ⟨rfl, rfl, hlv⟩ := hcc
      simp only [Option.some.injEq, Prod.mk.injEq] at h
      obtain ⟨rfl, rfl, rfl⟩ := h
      cases hs with
      | sl o es a n cap sz0 f0 ho hn hcap hex hown hsz0 hone0 ha hr0 =>
       subst hn
       obtain ⟨rfl, b, rfl, hgo⟩ := hown k e' sz'' rfl
       obtain ⟨b', n', cap', e2, sz2, vs, q1, q2, q3, q4, q5, q6, q7, q8⟩ := hi.live k hlv
       rw [hgo] at q1
       simp only [Option.some.injEq, Prod.mk.injEq] at q1
       obtain ⟨rfl, rfl, rfl, rfl, rfl⟩ := q1
       have hkid := hf.live_ne hlv
       have hlive : ∀ k', ((H.setLive k false).setLive id true).isLive k' = true → k' = id ∨ (k' ≠ k ∧ H.isLive k' = true) := by
        intro k' hk'
        simp only [Heap.isLive_setLive] at hk'
        by_cases h1 : id = k'
        ·exact .inl h1.symm
        ·rw [if_neg h1] at hk'
         by_cases h2 : k = k'
         ·rw [if_pos h2] at hk'; cases hk'
         ·rw [if_neg h2] at hk'; exact .inr ⟨fun h => h2 h.symm, hk'⟩
       have hcells : ∀ j, j < es.length * sz'' → w.cell? ⟨b, j, none⟩ = some (f0 j) := by
        intro j hj
        have hne : es.length ≠ 0 := by intro h0; rw [h0] at hj; simp at hj
        obtain ⟨b1, off1, h1, _, h3⟩ := ha hne
        simp only [Option.some.injEq, Addr.mk.injEq] at h1
        obtain ⟨rfl, rfl, _⟩ := h1
        have := h3 j hj
        rwa [Nat.zero_add] at this
       have hvs0 : ∀ j, j < es.length * sz'' → vs[j]? = some (f0 j) := by
        intro j hj
        have := hcells j hj
        rwa [cell_of_row w b j vs e' (0, 0) q3] at this
       by_cases hroom : es.length + xs.length ≤ cap
       ·-- in place
        have hcm := Nat.mul_le_mul_right sz'' hroom
        rw [Nat.add_mul] at hcm
        have hr := run_append_room (P := P) w t ty e' i hu hinfo b es.length cap vs q3 ad xs.length cx _ hnl hnews
         (fun u hu => by
          obtain ⟨k, hk, rfl⟩ := List.mem_map.1 hu
          exact hone k (by simpa using hk)) hroom (by rw [hsz, q6]; simp; omega)
        generalize hvs' : (vs.toList.take (es.length * i.size) ++ (List.range (xs.length * sz'')).map f ++ vs.toList.drop (es.length * i.size + ((List.range (xs.length * sz'')).map f).length)).toArray = vs' at hr
        have hval : ∀ k, k < (es.length + xs.length) * sz'' → vs'[k]? = some (if k < es.length * sz'' then f0 k else f (k - es.length * sz'')) := by
         intro k hk
         rw [Nat.add_mul] at hk
         rw [← hvs', hsz]
         simp only [List.getElem?_toArray]
         have hvl : es.length * sz'' ≤ vs.toList.length := by simp; omega
         rw [List.getElem?_append_left (by simp; omega)]
         by_cases hk2 : k < es.length * sz''
         ·rw [if_pos hk2, List.getElem?_append_left (by simp; omega), List.getElem?_take, if_pos hk2, Array.getElem?_toList]
          exact hvs0 k hk2
         ·have hlt : (vs.toList.take (es.length * sz'')).length = es.length * sz'' := by rw [List.length_take]; omega
          rw [if_neg hk2, List.getElem?_append_right (by rw [hlt]; omega), hlt, List.getElem?_map, List.getElem?_range (by omega)]
          rfl
        have hsize' : vs'.size = cap * sz'' := by
         rw [← hvs', hsz]
         simp
         omega
        obtain ⟨he, hinv⟩ := inv_ownRoom (H1 := (H.setLive k false).setLive id true) hi hf hlv hgo q3 (show es.length ≤ es.length + xs.length by omega) hroom hsize'
         (fun o ho => by
          have h2 := Nat.mul_le_mul_right sz'' (show es.length ≤ es.length + xs.length by omega)
          rw [hval o (by omega), if_pos ho, hvs0 o ho])
         (fun _ => rfl) hlive
        refine ⟨_, _, _, hr, he, by simpa [appU, U.app] using hinv, ?_, fun r hr' => ⟨rfl, by simp only [Gh.addOwn]; rw [if_neg hr']⟩⟩
        refine rel_own (F := fun k => if k < es.length * sz'' then f0 k else f (k - es.length * sz'')) (by simp [Gh.addOwn]) (by simp [Gh.addOwn]) hroom hsz0 hxsz ?_ ?_ ?_ ?_
        ·intro k hk
         rw [cell_of_row _ b k vs' e' (0, 0) (setRow_heap w b vs vs' e' (0, 0) q3)]
         exact hval k hk
        ·intro k hk
         rw [Nat.add_mul] at hk
         show Value.oneCell' (if k < es.length * sz'' then f0 k else f (k - es.length * sz'')) = true
         split
         ·exact hone0 _ (by omega)
         ·exact hone _ (by omega)
        ·intro i el j x hel hx
         have hil : i < es.length := (List.getElem?_eq_some_iff.1 hel).1
         have hjl : j < sz'' := by rw [← hsz0 el (List.mem_of_getElem? hel)]; exact (List.getElem?_eq_some_iff.1 hx).1
         have hb := Nat.mul_le_mul_right sz'' (show i + 1 ≤ es.length by omega)
         rw [Nat.add_mul] at hb
         show Rel _ _ x (if i * sz'' + j < es.length * sz'' then f0 (i * sz'' + j) else f (i * sz'' + j - es.length * sz''))
         rw [if_pos (by omega)]
         exact (hr0 i el j x hel hx).ext he
        ·intro i el j x hel hx
         show Rel _ _ (san x) (if (es.length + i) * sz'' + j < es.length * sz'' then f0 ((es.length + i) * sz'' + j) else f ((es.length + i) * sz'' + j - es.length * sz''))
         rw [show (es.length + i) * sz'' = es.length * sz'' + i * sz'' from Nat.add_mul .., if_neg (by omega), show es.length * sz'' + i * sz'' + j - es.length * sz'' = i * sz'' + j by omega]
         exact ((hrx i el j x hel hx).ext he).san (fun _ => Nat.le_refl _)
       ·-- it grows
        have holds : ∀ j v, ((List.range (es.length * sz'')).map f0)[j]? = some v → w.cell? ((⟨b, 0, none⟩ : Addr).add j) = some v := by
         intro j v hv
         rw [addr_add, Nat.zero_add]
         simp only [List.getElem?_map, Option.map_eq_some_iff] at hv
         obtain ⟨a, h1, rfl⟩ := hv
         have hj : j < es.length * sz'' := by have := (List.getElem?_eq_some_iff.1 h1).1; simpa using this
         rw [List.getElem?_range hj] at h1
         simp at h1; subst h1
         exact hcells j hj
        obtain ⟨g', h1, h2, h3, h4⟩ := grow ((List.range (es.length * sz'')).map f0) (grownCap w (es.length + xs.length) cap e') cap (by simp) hsz0
         (fun u hu => by
          obtain ⟨k, hk, rfl⟩ := List.mem_map.1 hu
          exact hone0 k (by simpa using hk))
         (fun i el j x hel hx => by
          have hil : i < es.length := (List.getElem?_eq_some_iff.1 hel).1
          have hjl : j < sz'' := by rw [← hsz0 el (List.mem_of_getElem? hel)]; exact (List.getElem?_eq_some_iff.1 hx).1
          have hb := Nat.mul_le_mul_right sz'' (show i + 1 ≤ es.length by omega)
          rw [Nat.add_mul] at hb
          refine ⟨f0 (i * sz'' + j), ?_, hr0 i el j x hel hx⟩
          rw [List.getElem?_map, List.getElem?_range (by omega)]
          rfl) rfl ((H.setLive k false).setLive id true) (fun _ => rfl) (fun k' hk' => (hlive k' hk').imp (fun h => h) (fun h => h.2))
        have hfit : Builtin.nextslicecap (es.length + xs.length) cap * i.bytes ≤ 281474976710656 := by rw [hby]; exact growslice_fits (by omega) hbytes
        have hr := run_append_grow (P := P) w t ty e' i zv hu hinfo hiz ⟨b, 0, none⟩ es.length cap _ (by simp [hsz]) holds ad xs.length cx _ hnl hnews (by omega) (by omega) hfit
        exact ⟨g', _, _, hr, h1, by simpa [appU, U.app] using h2, h3, h4⟩
     ·cases h
    ·cases h
   ·cases h
 ·cases h
end Go.Proofs.YtnoahchdmkpleaaGreat.VA

/-! Vm1 -/
namespace Go.Proofs.YtnoahchdmkpleaaGreat.VA
open Go Go.RowKit
set_option linter.unusedSimpArgs false

theorem live_putM (H : Heap) (r i : Nat) (ks vs cs : List AV) : ((H.putM r ks vs).ho i).isSome = ((H.put r cs).ho i).isSome := by
 simp only [Heap.putM, Heap.put, Heap.ho_set]; split <;> rfl
theorem inv_addMap {g : Gh} {H : Heap} {w : World} (hi : Inv g H w) {r : Nat} (hf : Fresh g H r) :
  Ext g w (g.addBox r w.heap.size) (w.alloc (.map #[] 0)) ∧ Inv (g.addBox r w.heap.size) (H.putM r [] []) (w.alloc (.map #[] 0)) ∧
   Rel (g.addBox r w.heap.size) (w.alloc (.map #[] 0)) (.mp r) (.map (some w.heap.size)) := by
 obtain ⟨he, hv, _⟩ := inv_addBox (cs := []) (vs := #[]) (t := 0) hi hf (RelL.nil g w)
 have he : Ext g w (g.addBox r w.heap.size) (w.alloc (.map #[] 0)) := ext_alloc hi _ rfl (fun b h => rfl) he.box he.own
 have hnew : (g.addBox r w.heap.size).box r = some w.heap.size := by simp [Gh.addBox]
 have hsz : (w.alloc (.map #[] 0)).heap.size = (w.alloc (.cells #[] 0)).heap.size := by simp
 refine ⟨he, ⟨by rw [hsz]; exact hv.lo, by rw [hsz]; exact hv.fresh, by rw [hsz]; exact hv.boxS, fun i b hl => hv.boxB i b (by rw [← live_putM H r i [] [] []]; exact hl), fun i j b l1 l2 => hv.boxI i j b (by rw [← live_putM H r i [] [] []]; exact l1) (by rw [← live_putM H r j [] [] []]; exact l2), ?_, ?_, hv.liveI, ?_, hi.arrA ?_, he.holds hi.cond⟩, .mp r _ hnew⟩
 ·intro i ds b hd h1
  rw [Heap.get_putM] at hd
  split at hd
  ·cases hd
  ·rename_i hir
   have hir' : ¬ i = r := fun h => hir h.symm
   simp only [Gh.addBox, if_neg hir'] at h1
   obtain ⟨us, t', h2, h3⟩ := hi.box i ds b hd h1
   exact ⟨us, t', by rw [heap_alloc_old w _ b (hi.boxS i b h1).2]; exact h2, h3.ext he⟩
 ·intro s hs
  obtain ⟨b, m, cap, e, sz, us, h1, h2, h3, h4, h5, h6, h7, h8⟩ := hi.live s hs
  have hlt : b < w.heap.size := (Array.getElem?_eq_some_iff.1 h3).1
  obtain ⟨b', m', cap', e', sz', us', g1, g2, g3, g4, g5, g6, g7, g8⟩ := hv.live s hs
  have : (g.addBox r w.heap.size).own s = g.own s := rfl
  rw [this, h1] at g1
  simp only [Option.some.injEq, Prod.mk.injEq] at g1
  obtain ⟨rfl, rfl, rfl, rfl, rfl⟩ := g1
  exact ⟨b, m, cap, e, sz, us, h1, h2, by rw [heap_alloc_old w _ b hlt]; exact h3, h4, h5, h6, h7, fun i hl => g8 i (by rw [← live_putM H r i [] [] []]; exact hl)⟩
 ·intro i ks vs hd
  rw [Heap.getM_putM] at hd
  split at hd
  ·rename_i hir
   simp only [Option.some.injEq, Prod.mk.injEq] at hd
   obtain ⟨rfl, rfl⟩ := hd
   subst hir
   exact ⟨w.heap.size, #[], 0, hnew, heap_alloc_new w _, RelL.nil _ _, RelL.nil _ _⟩
  ·exact hi.mapA he (fun _ _ h => h) i ks vs hd
 ·intro i b x a1 a2 a3
  rw [Heap.get_putM] at a1
  split at a1
  ·cases a1
  ·rename_i hir
   simp only [Gh.addBox, if_neg (fun h => hir (Eq.symm h))] at a2
   exact ⟨a1, a2, a3⟩
/-- A map is written. -/
theorem inv_setMap {g : Gh} {H : Heap} {w : World} (hi : Inv g H w) {r b c c' : Nat} {ks vs : List AV} {es es' : Array MapEntry} (hlr : (H.ho r).isSome = true) (hb : g.box r = some b) (hh : w.heap[b]? = some (.map es c))
  (h1 : RelL g w ks (es'.toList.map (·.key))) (h2 : RelL g w vs (es'.toList.map (·.val))) :
  Ext g w g { w with heap := w.heap.setIfInBounds b (.map es' c') } ∧ Inv g (H.putM r ks vs) { w with heap := w.heap.setIfInBounds b (.map es' c') } := by
 have hB := hi.boxS r b hb
 have hB0 := hi.boxB r b hlr hb
 have lv : ∀ i, ((H.putM r ks vs).ho i).isSome = true → (H.ho i).isSome = true := fun i h => by
  rcases Heap.live_set h with rfl | h
  ·exact hlr
  ·exact h
 obtain ⟨q1, q2⟩ := MapKept.heap_set (o' := .map es' c') hh
 have he : Ext g w g { w with heap := w.heap.setIfInBounds b (.map es' c') } := by
  refine ⟨rfl, rfl, rfl, ⟨rfl, Nat.le_refl _⟩, by simp, ?_, fun _ _ => rfl, fun _ => Nat.le_refl _, ?_, fun _ _ h => h, fun _ _ h => h, rfl⟩
  ·intro k hk; exact q2 k (by omega)
  ·intro k o ho
   by_cases hkb : k = b
   ·subst hkb; omega
   ·simp only [World.cell?]; rw [q2 k hkb]
 refine ⟨he, ⟨by simp; exact hi.lo, by simpa using hi.fresh, by simpa using hi.boxS, fun i k hl => hi.boxB i k (lv i hl), fun i j k l1 l2 => hi.boxI i j k (lv i l1) (lv j l2), ?_, ?_, hi.liveI, ?_, ?_, he.holds hi.cond⟩⟩
 ·intro i ds b' hd k1
  rw [Heap.get_putM] at hd
  split at hd
  ·cases hd
  ·obtain ⟨us, t', k2, k3⟩ := hi.box i ds b' hd k1
   have hne : b' ≠ b := by rintro rfl; rw [hh] at k2; cases k2
   exact ⟨us, t', by show (w.heap.setIfInBounds b _)[b']? = _; rw [q2 b' hne]; exact k2, k3.ext he⟩
 ·intro s hs
  obtain ⟨b', m, cap, e, sz, us, k1, k2, k3, k4, k5, k6, k7, k8⟩ := hi.live s hs
  have hne : b' ≠ b := by rintro rfl; rw [hh] at k3; cases k3
  exact ⟨b', m, cap, e, sz, us, k1, k2, by show (w.heap.setIfInBounds b _)[b']? = _; rw [q2 b' hne]; exact k3, k4, k5, k6, k7, fun i hl => k8 i (lv i hl)⟩
 ·intro i ks' vs' hd
  rw [Heap.getM_putM] at hd
  split at hd
  ·rename_i hir
   simp only [Option.some.injEq, Prod.mk.injEq] at hd
   obtain ⟨rfl, rfl⟩ := hd
   subst hir
   exact ⟨b, es', c', hb, q1, h1.ext he, h2.ext he⟩
  ·rename_i hir
   obtain ⟨b', es2, ck, k1, k2, k3, k4⟩ := hi.map i ks' vs' hd
   have hne : b' ≠ b := fun h => hir (hi.boxI r i b hlr (Heap.live_getM hd) hb (by rw [k1, h]))
   exact ⟨b', es2, ck, k1, by show (w.heap.setIfInBounds b _)[b']? = _; rw [q2 b' hne]; exact k2, k3.ext he, k4.ext he⟩
 ·intro i k n cap e sz a1 a2 a3
  rw [Heap.get_putM] at a1
  split at a1
  ·cases a1
  ·obtain ⟨p1, us, p2, p3⟩ := hi.arr i k n cap e sz a1 a2 a3
   have hne : k ≠ b := by rintro rfl; rw [hh] at p2; cases p2
   exact ⟨p1, us, by show (w.heap.setIfInBounds b _)[k]? = _; rw [q2 k hne]; exact p2, p3⟩
theorem kEq_sound {d : TypeDesc} {x y : AV} {u v : Value} {b : Bool} {g : Gh} {w : World} (h : kEq d x y = some b) (hx : Rel g w x u) (hy : Rel g w y v) : MapKept.IsKey d u ∧ Instr.sameNow d u v = some b ∧ (b = true ↔ u = v) := by
 unfold kEq at h
 split at h
 ·split at h
  ·rename_i hk
   obtain ⟨rfl, rfl⟩ := hk
   simp only [Option.some.injEq] at h
   rw [hx.lit_inv, hy.lit_inv]
   subst h
   exact ⟨rfl, by simp only [Instr.sameNow, if_true, Option.some.injEq]; rw [Bool.eq_iff_iff]; simp, by simp⟩
  ·cases h
 ·rename_i a c
  simp only [Option.some.injEq] at h
  rw [hx.lit_inv, hy.lit_inv]
  subst h
  refine ⟨trivial, ?_, by rw [strEq_iff]; simp⟩
  simp only [Instr.sameNow, Option.some.injEq]
  rw [Bool.eq_iff_iff, MapKept.bytes_beq, strEq_iff]
 ·cases h
theorem kFind_sound {d : TypeDesc} {x : AV} {u : Value} {g : Gh} {w : World} (hx : Rel g w x u) : ∀ (ks : List AV) (es : List MapEntry) (r : Option Nat) (i : Nat), kFind d x ks = some r → RelL g w ks (es.map (·.key)) →
  (r = none ∧ Instr.findNow d u es i = some none) ∨ ∃ n e, r = some n ∧ es[n]? = some e ∧ e.key = u ∧ Instr.findNow d u es i = some (some (i + n, e.val))
 | [], es, r, i, h, hr => by
  cases es with
  | nil => simp [kFind] at h; exact .inl ⟨h.symm, rfl⟩
  | cons e es => exact absurd hr.1 (by simp)
 | y :: ks, es, r, i, h, hr => by
  cases es with
  | nil => exact absurd hr.1 (by simp)
  | cons e es =>
   simp only [kFind] at h
   split at h
   ·rename_i hk
    simp only [Option.some.injEq] at h
    obtain ⟨_, h2, h3⟩ := kEq_sound hk hx hr.head
    exact .inr ⟨0, e, h.symm, rfl, (h3.1 rfl).symm, by simp [Instr.findNow, h2]⟩
   ·rename_i hk
    obtain ⟨_, h2, _⟩ := kEq_sound hk hx hr.head
    cases hf : kFind d x ks with
    | none => rw [hf] at h; cases h
    | some r' =>
     rw [hf] at h
     simp only [Option.map_some, Option.some.injEq] at h
     subst h
     rcases kFind_sound hx ks es r' (i + 1) hf hr.tail with ⟨rfl, h4⟩ | ⟨n, e', rfl, h4, h5, h6⟩
     ·exact .inl ⟨rfl, by simp [Instr.findNow, h2, h4]⟩
     ·exact .inr ⟨n + 1, e', rfl, by simpa using h4, h5, by simp [Instr.findNow, h2, h6]; omega⟩
   ·cases h
theorem tKey_spec {P : Program} {t e : TypeId} {d : TypeDesc} (h : tKey P t = some (d, e)) : ∃ k, P.underlying t = some (.map k e) ∧ P.underlying k = some d := by
 unfold tKey at h
 split at h
 ·rename_i k e' hu
  cases hk : P.underlying k with
  | none => rw [hk] at h; cases h
  | some d' => rw [hk] at h; simp at h; obtain ⟨rfl, rfl⟩ := h; exact ⟨k, hu, hk⟩
 ·cases h
theorem tZ1_run {P : Program} {e : TypeId} {z : AV} (h : tZ1 P e = some z) (g : Gh) (w : World) : ∃ v, (zeroValue e).run P w = .ok v w ∧ Rel g w z v := by
 unfold tZ1 at h
 cases hi : P.info? e with
 | none => simp [hi] at h
 | some i =>
  cases hz : i.zero with
  | none => simp [hi, hz] at h
  | some v =>
   refine ⟨v, by simp [zeroValue, typeInfo, hi, hz], ?_⟩
   simp only [hi, Option.bind_some, hz] at h
   split at h
   ·rename_i vs heq
    simp only [Option.some.injEq] at h heq
    subst h; subst heq
    refine Rel.mk_agg ⟨by simp, fun j x u hx hu => ?_⟩
    rw [List.getElem?_map, hu] at hx
    simp at hx; subst hx
    exact Rel.ofV g w u
   ·rename_i z' _ heq
    simp only [Option.some.injEq] at h heq
    subst h; subst heq
    exact Rel.ofV g w _
   ·cases h
theorem Rel.mp_inv {g : Gh} {w : World} {r : Nat} {v : Value} (h : Rel g w (.mp r) v) : ∃ b, g.box r = some b ∧ v = .map (some b) := by
 cases h with | mp r b h => exact ⟨b, h, rfl⟩
theorem aLookup_sound {P : Program} {g : Gh} {H : Heap} {w : World} {t : TypeId} {m k z : AV} {mv kv : Value} {ok : Bool} {rs : List Nat} (h : aLookup P t m k ok H = some (z, rs)) (hi : Inv g H w) (hm : Rel g w m mv) (hk : Rel g w k kv) :
  ∃ u, (Instr.lookup t mv kv ok).run P w = .ok u w ∧ Rel g w z u := by
 unfold aLookup at h
 split at h
 ·rename_i d e r hty
  obtain ⟨kt, ht, hd⟩ := tKey_spec hty
  split at h
  ·rename_i ks vs hg
   split at h
   ·rename_i hself
    have hkey := (kEq_sound hself hk hk).1
    obtain ⟨b, hb, rfl⟩ := hm.mp_inv
    obtain ⟨b', es, ck, h1, h2, h3, h4⟩ := hi.map r ks vs hg
    rw [hb] at h1
    simp only [Option.some.injEq] at h1
    subst h1
    have fin : ∀ (v : AV) (u : Value) (is : Bool), Rel g w v u → Rel g w (okd ok v is) (if ok then .tuple #[u, .bool is] else u) := by
     intro v u is hr
     cases ok with
     | true => exact Rel.mk_tup (RelL.cons hr (RelL.cons (.lit _) (RelL.nil _ _)))
     | false => exact hr
    split at h
    ·rename_i i hf
     rcases kFind_sound (d := d) hk ks es.toList _ 0 hf h3 with ⟨h5, _⟩ | ⟨n, e0, h5, h6, h7, h8⟩
     ·cases h5
     ·simp only [Option.some.injEq] at h5
      subst h5
      cases hv : vs[i]? with
      | none => rw [hv] at h; cases h
      | some v =>
       rw [hv] at h
       simp only [Option.map_some, Option.some.injEq, Prod.mk.injEq] at h
       obtain ⟨rfl, rfl⟩ := h
       refine ⟨_, ?_, fin v e0.val true (h4.2 i v _ hv (by rw [List.getElem?_map, h6]; rfl))⟩
       rw [Nat.zero_add] at h8
       cases ok <;> simp [Instr.lookup, run_underlying ht, MapKept.run_getObj_map h2, MapKept.run_checkKey hd hkey, MapKept.run_findKey hd h8, Result.andThen]
    ·rename_i hf
     rcases kFind_sound (d := d) hk ks es.toList _ 0 hf h3 with ⟨_, h8⟩ | ⟨n, e0, h5, _⟩
     ·cases hz : tZ1 P e with
      | none => rw [hz] at h; cases h
      | some zz =>
       rw [hz] at h
       simp only [Option.map_some, Option.some.injEq, Prod.mk.injEq] at h
       obtain ⟨rfl, rfl⟩ := h
       obtain ⟨v, hv1, hv2⟩ := tZ1_run hz g w
       refine ⟨_, ?_, fin zz v false hv2⟩
       cases ok <;> simp [Instr.lookup, run_underlying ht, MapKept.run_getObj_map h2, MapKept.run_checkKey hd hkey, MapKept.run_findKey hd h8, hv1, Result.andThen]
     ·cases h5
    ·cases h
   ·cases h
  ·cases h
 ·cases h
theorem aMapSet_sound {P : Program} {g : Gh} {H : Heap} {w : World} {t : TypeId} {m k v : AV} {mv kv vv : Value} {us : List U} (h : aMapSet P t m k v H = some us) (hi : Inv g H w) (hm : Rel g w m mv) (hk : Rel g w k kv) (hv : Rel g w v vv) :
  ∃ w', (Instr.mapUpdate t mv kv vv).run P w = .ok () w' ∧ Ext g w g w' ∧ Inv g (appU H us) w' := by
 unfold aMapSet at h
 split at h
 ·rename_i d e r hty
  obtain ⟨kt, ht, hd⟩ := tKey_spec hty
  split at h
  ·rename_i ks vs hg
   split at h
   ·rename_i hself
    have hkey := (kEq_sound hself hk hk).1
    obtain ⟨b, hb, rfl⟩ := hm.mp_inv
    obtain ⟨b', es, ck, h1, h2, h3, h4⟩ := hi.map r ks vs hg
    rw [hb] at h1
    simp only [Option.some.injEq] at h1
    subst h1
    split at h
    ·rename_i i hf
     simp only [Option.some.injEq] at h
     subst h
     rcases kFind_sound (d := d) hk ks es.toList _ 0 hf h3 with ⟨h5, _⟩ | ⟨n, e0, h5, h6, h7, h8⟩
     ·cases h5
     ·simp only [Option.some.injEq] at h5
      subst h5
      rw [Nat.zero_add] at h8
      have hes : es[i]? = some e0 := by rw [← Array.getElem?_toList]; exact h6
      obtain ⟨q1, q2⟩ := inv_setMap (c' := ck) (es' := es.modify i fun e => { e with key := kv, val := vv }) (ks := ks) (vs := vs.set i v) hi (Heap.live_getM hg) hb h2 (by
       rw [MapKept.modify_keys i _ (fun e he => by rw [hes] at he; simp at he; subst he; exact h7.symm)]
       exact h3) (by
       refine ⟨by have := h4.1; simp at this ⊢; exact this, fun j x u hx hu => ?_⟩
       rw [List.getElem?_map, Array.getElem?_toList, Array.getElem?_modify] at hu
       by_cases hij : i = j
       ·subst hij
        rw [if_pos rfl, hes] at hu
        simp at hu; subst hu
        rw [List.getElem?_set] at hx
        simp only [if_true] at hx
        split at hx
        ·simp at hx; subst hx; exact hv
        ·cases hx
       ·rw [if_neg hij] at hu
        rw [List.getElem?_set_ne hij] at hx
        exact h4.2 j x u hx (by rw [List.getElem?_map, Array.getElem?_toList]; exact hu))
      refine ⟨_, ?_, q1, q2⟩
      simp [Instr.mapUpdate, run_underlying ht, MapKept.run_getObj_map h2, MapKept.run_checkKey hd hkey, MapKept.run_findKey hd h8, hes, h7, MapKept.run_keyThatStays hkey, MapKept.run_setObj_map _ h2, Result.andThen]
    ·rename_i hf
     simp only [Option.some.injEq] at h
     subst h
     rcases kFind_sound (d := d) hk ks es.toList _ 0 hf h3 with ⟨_, h8⟩ | ⟨n, e0, h5, _⟩
     ·obtain ⟨q1, q2⟩ := inv_setMap (c' := ck + 1) (es' := es.push { key := kv, val := vv, born := ck }) (ks := ks ++ [k]) (vs := vs ++ [v]) hi (Heap.live_getM hg) hb h2
       (by rw [Array.toList_push, List.map_append]; exact h3.append (RelL.cons hk (RelL.nil _ _))) (by rw [Array.toList_push, List.map_append]; exact h4.append (RelL.cons hv (RelL.nil _ _)))
      refine ⟨_, ?_, q1, q2⟩
      simp [Instr.mapUpdate, run_underlying ht, MapKept.run_getObj_map h2, MapKept.run_checkKey hd hkey, MapKept.run_findKey hd h8, MapKept.run_setObj_map _ h2, Result.andThen]
     ·cases h5
    ·cases h
   ·cases h
  ·cases h
 ·cases h
end Go.Proofs.YtnoahchdmkpleaaGreat.VA

/-! Va9 -/
namespace Go.Proofs.YtnoahchdmkpleaaGreat.VA
open Go Go.RowKit

theorem parts_of {g : Gh} {w : World} {ρ : Operand → AV} {ρ' : Operand → Value} (hρ : ∀ x, Rel g w (ρ x) (ρ' x)) (parts : Array (Nat × Operand)) :
  Parts g w (parts.toList.map fun p => (p.1, ρ p.2)) ((parts.map fun (i, x) => (i, ρ' x)).toList) := by
 refine ⟨by simp, ?_⟩
 have h1 : (parts.toList.map fun p => (p.1, ρ p.2)).map (·.2) = (parts.toList.map (·.2)).map ρ := by simp [Function.comp_def]
 have h2 : ((parts.map fun (i, x) => (i, ρ' x)).toList).map (·.2) = (parts.toList.map (·.2)).map ρ' := by simp [Function.comp_def]
 rw [h1, h2]
 exact RelL.of_map hρ _
theorem new_addBox (g : Gh) (id b r : Nat) (h : r ≠ id) : (g.addBox id b).box r = g.box r ∧ (g.addBox id b).own r = g.own r := by
 simp [Gh.addBox, h]
theorem Fresh.app {H : Heap} (id : Nat) (cs : List AV) : appU H [.box id cs] = H.put id cs := rfl
set_option maxHeartbeats 1000000 in
theorem astep_sound {P : Program} {g : Gh} {H : Heap} {w : World} {ρ : Operand → AV} {ρ' : Operand → Value} {o : Oper} {id : Nat} {r : Sr} (h : astep P ρ H id o.op = some r)
  (hi : Inv g H w) (hf : Fresh g H id) (hρ : ∀ x, Rel g w (ρ x) (ρ' x)) : StepOk P g H w id o ρ' r := by
 obtain ⟨dst, op, type, pos, after, guard⟩ := o
 simp only at h
 unfold astep at h
 split at h
 ·-- alloc
  rename_i t
  split at h
  ·rename_i z hz
   simp only [Option.some.injEq] at h
   subst h
   obtain ⟨zv, i, hzr, hinfo, hiz, hrel⟩ := tZero_run hz g w
   obtain ⟨h1, h2, h3⟩ := inv_addBox (t := t) hi hf hrel
   refine ⟨_, _, _, _, ?_, .inl rfl, h1, h2, h3, fun r hr => new_addBox g id _ r hr⟩
   simp [execOp, Instr.alloc, hzr, newVar, newRow]
  ·cases h
 ·-- box
  rename_i t x
  split at h
  ·rename_i hone
   simp only [Option.some.injEq] at h
   subst h
   obtain ⟨h1, h2, h3⟩ := inv_addBox (t := t) hi hf ((hρ x).cells hone)
   refine ⟨_, _, _, _, ?_, .inl rfl, h1, h2, h3, fun r hr => new_addBox g id _ r hr⟩
   simp [execOp, Instr.box, newVar, newRow]
  ·cases h
 ·-- buildSlice
  rename_i t len ps
  cases hb : aBuildSlice P t len (ps.toList.map fun p => (p.1, ρ p.2)) with
  | none => simp [hb] at h
  | some v =>
   simp [hb] at h
   subst h
   obtain ⟨g', w', u, h1, h2, h3, h4, h5, h6⟩ := aBuildSlice_sound hb hi (parts_of hρ ps)
   exact ⟨g', w', _, u, by simp [execOp, h1], .inl rfl, h2, h3, h4, fun r _ => ⟨by rw [h5], by rw [h6]⟩⟩
 ·-- load
  rename_i t x
  cases hb : aLoad P t (ρ x) H with
  | none => simp [hb] at h
  | some p =>
   obtain ⟨v, rs⟩ := p
   simp [hb] at h
   subst h
   obtain ⟨u, h1, h2⟩ := aLoad_sound hb hi (hρ x)
   exact StepOk.pure hi ⟨u, execOp_value h1, h2⟩
 ·-- store
  rename_i t x v
  cases hb : aStore P t (ρ x) (ρ v) H with
  | none => simp [hb] at h
  | some us =>
   simp [hb] at h
   subst h
   obtain ⟨w', h1, h2, h3⟩ := aStore_sound hb hi (hρ x) (hρ v)
   refine ⟨g, w', .skip, undef, ?_, .inr ⟨rfl, rfl⟩, h2, h3, .tup [] #[] rfl (by simp), fun _ _ => ⟨rfl, rfl⟩⟩
   simp [execOp, h1]
 ·-- append
  rename_i args argTypes
  split at h
  ·rename_i s x t t' hargs hts
   have hargs' : args = #[s, x] := by cases args; simp at hargs; simp [hargs]
   have hts' : argTypes = #[t, t'] := by cases argTypes; simp at hts; simp [hts]
   split at h
   ·rename_i htt
    subst htt
    cases hb : aAppend P t (ρ s) (ρ x) H id with
    | none => simp [hb] at h
    | some p =>
     obtain ⟨v, us, rs⟩ := p
     simp [hb] at h
     subst h
     obtain ⟨g', w', r, h1, h2, h3, h4, h5⟩ := aAppend_sound type hb hi hf (hρ s) (hρ x)
     refine ⟨g', w', _, r, ?_, .inl rfl, h2, h3, h4, h5⟩
     simp [execOp, resolve, invoke, builtin, hargs', hts', h1]
   ·cases h
  ·cases h
 ·-- clear
  rename_i args argTypes
  split at h
  ·rename_i s t hargs hts
   have hargs' : args = #[s] := by cases args; simp at hargs; simp [hargs]
   have hts' : argTypes = #[t] := by cases argTypes; simp at hts; simp [hts]
   cases hb : aClear P t (ρ s) H with
   | none => simp [hb] at h
   | some us =>
    simp [hb] at h
    subst h
    obtain ⟨w', h1, h2, h3⟩ := aClear_sound type hb hi (hρ s)
    refine ⟨g, w', _, _, ?_, .inl rfl, h2, h3, .tup [] #[] rfl (by simp), fun _ _ => ⟨rfl, rfl⟩⟩
    simp [execOp, resolve, invoke, builtin, hargs', hts', h1]
  ·cases h
 ·-- a call
  rename_i f args argTypes
  split at h
  ·rename_i k caps hk
   simp only [Option.some.injEq] at h
   subst h
   have hx := hρ f
   rw [hk] at hx
   generalize hv : ρ' f = v at hx
   cases hx with
   | fn fid caps vs hl hr =>
    refine ⟨args.map ρ' ++ vs, ?_, ?_⟩
    ·simp [execOp, resolve, hv, Deferred.ofValue, invoke]
    ·rw [Array.toList_append, Array.toList_map]
     exact (RelL.of_map hρ args.toList).append ⟨by simpa using hl, fun i x v hx hv => hr i x v hx (by simpa using hv)⟩
  ·rename_i k bs hk
   simp only [Option.some.injEq] at h
   subst h
   have hx := hρ f
   rw [hk] at hx
   generalize hv : ρ' f = v at hx
   cases hx with
   | bf fid bs vs hl hr =>
    refine ⟨vs ++ args.map ρ', ?_, ?_⟩
    ·simp [execOp, resolve, hv, Deferred.ofValue, invoke]
    ·rw [Array.toList_append, Array.toList_map]
     exact RelL.append ⟨by simpa using hl, fun i x v hx hv => hr i x v hx (by simpa using hv)⟩ (RelL.of_map hρ args.toList)
  ·cases h
 ·-- a panic
  rename_i x
  split at h
  ·rename_i t v hv
   simp only [Option.some.injEq] at h
   subst h
   have hx := hρ x
   rw [hv] at hx
   generalize hv' : ρ' x = u at hx
   cases hx with
   | ifc t v u hr =>
    exact ⟨_, by simp [execOp, hv', Instr.panic], .ifc t v u hr⟩
  ·cases h
 ·-- a new map
  simp only [Option.some.injEq] at h
  subst h
  obtain ⟨h1, h2, h3⟩ := inv_addMap hi hf
  refine ⟨_, _, _, _, ?_, .inl rfl, h1, h2, h3, fun r hr => new_addBox g id _ r hr⟩
  rename_i t
  have hrun : (Instr.makeMap t none).run P w = .ok (.map (some w.heap.size)) (w.alloc (.map #[] 0)) := rfl
  simp [execOp, hrun]
 iterate 2
  rename_i t m k v
  cases hb : aMapSet P t (ρ m) (ρ k) (ρ v) H with
  | none => simp [hb] at h
  | some us =>
   simp [hb] at h
   subst h
   obtain ⟨w', h1, h2, h3⟩ := aMapSet_sound hb hi (hρ m) (hρ k) (hρ v)
   refine ⟨g, w', .skip, undef, ?_, .inr ⟨rfl, rfl⟩, h2, h3, .tup [] #[] rfl (by simp), fun _ _ => ⟨rfl, rfl⟩⟩
   simp [execOp, h1]
 ·rename_i t m k ok
  cases hb : aLookup P t (ρ m) (ρ k) ok H with
  | none => simp [hb] at h
  | some p =>
   obtain ⟨v, rs⟩ := p
   simp [hb] at h
   subst h
   obtain ⟨u, h1, h2⟩ := aLookup_sound hb hi (hρ m) (hρ k)
   exact StepOk.pure hi ⟨u, by simp [execOp, h1], h2⟩
 ·-- the rest
  rename_i op' _ _ _ _ _ _ _ _
  cases hb : aPure P ρ op with
  | none => simp [hb] at h
  | some v =>
   simp [hb] at h
   subst h
   exact StepOk.pure hi (aPure_sound (o := ⟨dst, op, type, pos, after, guard⟩) hb hρ)
end Go.Proofs.YtnoahchdmkpleaaGreat.VA

/-! Vb1 -/
namespace Go.Proofs.YtnoahchdmkpleaaGreat.VA
open Go Go.RowKit

/-- Does a call leave what a number names as it was? -/
def Keeps (H H' : Heap) (r : Nat) : Prop := H.ho r = H'.ho r ∧ H.isLive r = H'.isLive r
/-! A test of sameness that says yes only where it is so (for the kernel's own reckoning). -/
def eqV : Value → Value → Bool
 | .int k a, .int l b => decide (k = l) && decide (a = b)
 | .bool a, .bool b => a == b
 | .string a, .string b => decide (a.data.toList = b.data.toList)
 | _, _ => false
theorem eqV_sound {x y : Value} (h : eqV x y = true) : x = y := by
 unfold eqV at h
 split at h
 ·simp at h; rw [h.1, h.2]
 ·simp at h; rw [h]
 ·rename_i a b
  simp at h
  cases a; cases b
  simp at h
  rw [h]
 ·cases h
def eqO : Own → Own → Bool
 | .nil, .nil => true
 | .sh, .sh => true
 | .ex, .ex => true
 | .own s e z, .own s' e' z' => decide (s = s') && (decide (e = e') && decide (z = z'))
 | _, _ => false
theorem eqO_sound {x y : Own} (h : eqO x y = true) : x = y := by
 unfold eqO at h
 split at h <;> first | rfl | (simp at h; rw [h.1, h.2.1, h.2.2]) | cases h
mutual
def eqA : AV → AV → Bool
 | .bad, y => match y with | .bad => true | _ => false
 | .lit v, y => match y with | .lit u => eqV v u | _ => false
 | .sl o es, y => match y with | .sl o' es' => eqO o o' && eqLL es es' | _ => false
 | .ptr r o, y => match y with | .ptr r' o' => decide (r = r') && decide (o = o') | _ => false
 | .ep cs, y => match y with | .ep cs' => eqL cs cs' | _ => false
 | .fn f cs, y => match y with | .fn f' cs' => decide (f = f') && eqL cs cs' | _ => false
 | .bf f cs, y => match y with | .bf f' cs' => decide (f = f') && eqL cs cs' | _ => false
 | .ifc t v, y => match y with | .ifc t' v' => decide (t = t') && eqA v v' | _ => false
 | .mp r, y => match y with | .mp r' => decide (r = r') | _ => false
 | .ar r lo n sz, y => match y with | .ar r' lo' n' sz' => (decide (r = r') && decide (lo = lo')) && (decide (n = n') && decide (sz = sz')) | _ => false
 | .agg cs, y => match y with | .agg cs' => eqL cs cs' | _ => false
 | .tup cs, y => match y with | .tup cs' => eqL cs cs' | _ => false
def eqL : List AV → List AV → Bool
 | [], m => match m with | [] => true | _ => false
 | x :: l, m => match m with | y :: m => eqA x y && eqL l m | _ => false
def eqLL : List (List AV) → List (List AV) → Bool
 | [], m => match m with | [] => true | _ => false
 | x :: l, m => match m with | y :: m => eqL x y && eqLL l m | _ => false
end
mutual
theorem eqA_sound : ∀ (x y : AV), eqA x y = true → x = y
 | .bad, y, h => by cases y <;> simp [eqA] at h <;> rfl
 | .lit v, y, h => by cases y <;> simp [eqA] at h; rw [eqV_sound h]
 | .sl o es, y, h => by cases y <;> simp [eqA] at h; rw [eqO_sound h.1, eqLL_sound es _ h.2]
 | .ptr r o, y, h => by cases y <;> simp [eqA] at h; rw [h.1, h.2]
 | .ep cs, y, h => by cases y <;> simp [eqA] at h; rw [eqL_sound cs _ h]
 | .fn f cs, y, h => by cases y <;> simp [eqA] at h; rw [h.1, eqL_sound cs _ h.2]
 | .bf f cs, y, h => by cases y <;> simp [eqA] at h; rw [h.1, eqL_sound cs _ h.2]
 | .ifc t v, y, h => by cases y <;> simp [eqA] at h; rw [h.1, eqA_sound v _ h.2]
 | .mp r, y, h => by cases y <;> simp [eqA] at h; rw [h]
 | .ar r lo n sz, y, h => by cases y <;> simp [eqA] at h; rw [h.1.1, h.1.2, h.2.1, h.2.2]
 | .agg cs, y, h => by cases y <;> simp [eqA] at h; rw [eqL_sound cs _ h]
 | .tup cs, y, h => by cases y <;> simp [eqA] at h; rw [eqL_sound cs _ h]
theorem eqL_sound : ∀ (x y : List AV), eqL x y = true → x = y
 | [], y, h => by cases y <;> simp [eqL] at h; rfl
 | a :: x, y, h => by cases y <;> simp [eqL] at h; rw [eqA_sound a _ h.1, eqL_sound x _ h.2]
theorem eqLL_sound : ∀ (x y : List (List AV)), eqLL x y = true → x = y
 | [], y, h => by cases y <;> simp [eqLL] at h; rfl
 | a :: x, y, h => by cases y <;> simp [eqLL] at h; rw [eqL_sound a _ h.1, eqLL_sound x _ h.2]
end
def eqHO : Option HO → Option HO → Bool
 | none, none => true
 | some (.bx a), some (.bx b) => eqL a b
 | some (.mpo a b), some (.mpo c d) => eqL a c && eqL b d
 | _, _ => false
theorem eqHO_sound {x y : Option HO} (h : eqHO x y = true) : x = y := by
 unfold eqHO at h
 split at h
 ·rfl
 ·rw [eqL_sound _ _ h]
 ·simp at h; rw [eqL_sound _ _ h.1, eqL_sound _ _ h.2]
 ·cases h
def keepsB (H H' : Heap) (r : Nat) : Bool := eqHO (H.ho r) (H'.ho r) && (H.isLive r == H'.isLive r)
theorem keepsB_sound {H H' : Heap} {r : Nat} (h : keepsB H H' r = true) : Keeps H H' r := by
 simp [keepsB] at h
 exact ⟨eqHO_sound h.1, h.2⟩
noncomputable instance keepsDec (H H' : Heap) (r : Nat) : Decidable (Keeps H H' r) :=
 match h : keepsB H H' r with
 | true => .isTrue (keepsB_sound h)
 | false => Classical.propDecidable _

/-! ### regions -/
inductive CR where
 | ret (v : AV) (H : Heap)
 | pan (v : AV) (H : Heap)
abbrev Calling := FuncId → List AV → Heap → Option CR
inductive Ex where
 | nrm
 | exit (id : Nat)
 | ret
 | pan (v : AV)
def aWanted (ops : Array Oper) (e : List AV) (o : Oper) : Option Bool :=
 match o.guard with
 | none => some true
 | some (j, want) =>
  match (ops[j]?).bind (·.dst) with
  | some d =>
   match gget .bad e d with
   | .lit (.bool b) => some (b == want)
   | .tup [] => some false
   | _ => none
  | none => some false
/-- A region whose order is the text's. -/
def runOps (P : Program) (K : Calling) (ops : Array Oper) (base : Nat) : List Oper → Nat → List AV → Heap → Option (Ex × List AV × Heap)
 | [], _, e, H => some (.nrm, e, H)
 | o :: os, i, e, H =>
  match aWanted ops e o with
  | none => none
  | some false => runOps P K ops base os (i + 1) (aput e o.dst (.tup [])) H
  | some true =>
   match astep P (aeval e) H (base + i) o.op with
   | none => none
   | some (.val v us _) => runOps P K ops base os (i + 1) (aput e o.dst v) (appU H us)
   | some (.pan v) => some (.pan v, e, H)
   | some (.call f args) =>
    match K f args H with
    | none => none
    | some (.ret v H') => runOps P K ops base os (i + 1) (aput e o.dst v) H'
    | some (.pan v H') => some (.pan v, e, H')
/-- What an operation of a region that draws its order has done. -/
inductive Tr where
 | val (v : AV) (us : List U) (rs : List Nat)
 | call (v : AV) (Hb Ha : Heap)
 | pan
 | dead
def anc (ops : Array Oper) (i j : Nat) : Bool := ((Region.before ops).getD j 0).testBit i
/-- Does an operation wait for the one that has panicked? -/
def behind (ops : Array Oper) (pk : Option (Nat × AV × Heap)) (i : Nat) : Bool :=
 match pk with
 | some (k, _) => anc ops k i
 | none => false
/-- The number of the mark in a table: variables are named ahead of a region that draws its order. -/
def hoF : FuncId := 999999999
/-- An operation, where what is new has been named ahead. -/
def astepH (P : Program) (ρ : Operand → AV) (H : Heap) (id : Nat) (op : Op) : Option Sr :=
 match op with
 | .alloc t =>
  match tZero P t, H.get id with
  | some z, some cs => if eqL cs z = true then some (.val (.ptr id 0) [] [id]) else none
  | _, _ => none
 | op => astep P ρ H id op
def astepD (P : Program) (ho : Bool) (ρ : Operand → AV) (H : Heap) (id : Nat) (op : Op) : Option Sr :=
 match ho with
 | false => astep P ρ H id op
 | true => astepH P ρ H id op
def hoH (P : Program) (base : Nat) : List Oper → Nat → Heap → Heap
 | [], _, H => H
 | o :: os, i, H =>
  match o.op with
  | .alloc t =>
   match tZero P t with
   | some z => hoH P base os (i + 1) (H.put (base + i) z)
   | none => hoH P base os (i + 1) H
  | _ => hoH P base os (i + 1) H
/-- Where a region that draws its order begins. -/
def startH (P : Program) (imp : FuncId → Bool) (ops : Array Oper) (H : Heap) : Heap :=
 match imp hoF with
 | false => { H with next := H.next + ops.size }
 | true => hoH P H.next ops.toList 0 { H with next := H.next + ops.size }
def runTr (P : Program) (K : Calling) (imp : FuncId → Bool) (ops : Array Oper) (base : Nat) : List Oper → Nat → Option (Nat × AV × Heap) → List AV → Heap →
  Option (List Tr × Option (Nat × AV × Heap) × List AV × Heap)
 | [], _, pk, e, H => some ([], pk, e, H)
 | o :: os, i, pk, e, H =>
  if behind ops pk i = true then
   match runTr P K imp ops base os (i + 1) pk e H with
   | some (tr, r) => some (.dead :: tr, r)
   | none => none
  else
   match aWanted ops e o with
   | none => none
   | some false =>
    match runTr P K imp ops base os (i + 1) pk (aput e o.dst (.tup [])) H with
    | some (tr, r) => some (.val (.tup []) [] [] :: tr, r)
    | none => none
   | some true =>
    match astepD P (imp hoF) (aeval e) H (base + i) o.op with
    | none => none
    | some (.val v us rs) =>
     if pk.isSome = true ∧ us.isEmpty = false then none
     else
      match runTr P K imp ops base os (i + 1) pk (aput e o.dst v) (appU H us) with
      | some (tr, r) => some (.val v us rs :: tr, r)
      | none => none
    | some (.pan v) =>
     if pk.isSome = true then none
     else
      match runTr P K imp ops base os (i + 1) (some (i, v, H)) e H with
      | some (tr, r) => some (.pan :: tr, r)
      | none => none
    | some (.call f args) =>
     if imp f = true then
      if pk.isSome = true then none
      else
       match K f args H with
       | none => none
       | some (.ret v H') =>
        match runTr P K imp ops base os (i + 1) pk (aput e o.dst v) H' with
        | some (tr, r) => some (.call v H H' :: tr, r)
        | none => none
       | some (.pan v H') =>
        match runTr P K imp ops base os (i + 1) (some (i, v, H')) e H with
        | some (tr, r) => some (.pan :: tr, r)
        | none => none
     else
      match K f args H with
      | some (.ret v _) =>
       match runTr P K imp ops base os (i + 1) pk (aput e o.dst v) H with
       | some (tr, r) => some (.val v [] [] :: tr, r)
       | none => none
      | _ => none
/-- Operations that may touch memory. -/
def touchy (o : Oper) : Bool :=
 match o.op with
 | .alloc _ | .box _ _ | .load _ _ | .store _ _ _ | .panic _ | .makeMap _ none | .insert _ _ _ _ | .mapUpdate _ _ _ _ | .lookup _ _ _ _ => true
 | .call { callee := .builtin .append, .. } => true
 | .call { callee := .builtin .clear, .. } => true
 | .call { callee := .value _, .. } => true
 | _ => false
/-- The pairs of them that may come up in either order. -/
def unord (ops : Array Oper) : List (Nat × Nat) :=
 let ts := (List.range ops.size).filter fun i => touchy (ops.getD i default)
 let b := Region.before ops
 ts.flatMap fun j => (ts.filter fun i => decide (i < j) && !(b.getD j 0).testBit i).map fun i => (i, j)
def NoConf : Tr → Tr → Prop
 | .val _ us rs, .val _ us' rs' => (∀ u ∈ us, (∀ u' ∈ us', u.key ≠ u'.key) ∧ u.key ∉ rs') ∧ ∀ u' ∈ us', u'.key ∉ rs
 | .val _ us rs, .call _ Hb Ha | .call _ Hb Ha, .val _ us rs => us = [] ∧ ∀ r ∈ rs, Keeps Hb Ha r
 | .val _ us _, .pan | .pan, .val _ us _ => us = []
 | .call _ _ _, .call _ _ _ | .call _ _ _, .pan | .pan, .call _ _ _ | .pan, .pan => False
 | .dead, _ | _, .dead => True
end Go.Proofs.YtnoahchdmkpleaaGreat.VA

/-! Vb2 -/
namespace Go.Proofs.YtnoahchdmkpleaaGreat.VA
open Go Go.RowKit

noncomputable instance noConfDec (a b : Tr) : Decidable (NoConf a b) := by
 cases a <;> cases b <;> unfold NoConf <;> infer_instance
/-- Do all pairs that may come up in either order let each other alone? -/
def TrOk (ops : Array Oper) (tr : List Tr) : Prop := ∀ p ∈ unord ops, NoConf (tr.getD p.1 .dead) (tr.getD p.2 .dead)
noncomputable instance trOkDec (ops : Array Oper) (tr : List Tr) : Decidable (TrOk ops tr) := by unfold TrOk; infer_instance
noncomputable def runRegion (P : Program) (K : Calling) (imp : FuncId → Bool) (ops : Array Oper) (draw : Bool) (e : List AV) (H : Heap) : Option (Ex × List AV × Heap) :=
 let H1 : Heap := { H with next := H.next + ops.size }
 match draw with
 | false => runOps P K ops H.next ops.toList 0 e H1
 | true =>
  match runTr P K imp ops H.next ops.toList 0 none e (startH P imp ops H) with
  | none => none
  | some (tr, pk, e', H') =>
   if TrOk ops tr then
    match pk with
    | none => some (.nrm, e', H')
    | some (_, v, H2) => some (.pan v, e', H2)
   else none
noncomputable def exec (P : Program) (K : Calling) (imp : FuncId → Bool) : Nat → Code → List AV → Heap → Option (Ex × List AV × Heap)
 | 0, _, _, _ => none
 | k + 1, c, e, H =>
  match c with
  | .skip => some (.nrm, e, H)
  | .label _ => some (.nrm, e, H)
  | .region _ ops d => runRegion P K imp ops d e H
  | .seq a b =>
   match exec P K imp k a e H with
   | some (.nrm, e', H') => exec P K imp k b e' H'
   | r => r
  | .cond c a b =>
   match aeval e c with
   | .lit (.bool true) => exec P K imp k a e H
   | .lit (.bool false) => exec P K imp k b e H
   | _ => none
  | .block id a =>
   match exec P K imp k a e H with
   | some (.exit j, e', H') => if j = id then some (.nrm, e', H') else some (.exit j, e', H')
   | r => r
  | .loop a =>
   match exec P K imp k a e H with
   | some (.nrm, e', H') => exec P K imp k (.loop a) e' H'
   | r => r
  | .exit id => some (.exit id, e, H)
  | .scope a => exec P K imp k a e H
  | .ret => some (.ret, e, H)
  | _ => none
def aResult (P : Program) (e : List AV) (H : Heap) : ResultVar → Option AV
 | .tmp t => some (gget .bad e t)
 | .cell a t => (aLoad P t (gget .bad e a) H).map (·.1)
def aResults (P : Program) (e : List AV) (H : Heap) : List ResultVar → Option (List AV)
 | [] => some []
 | r :: rs =>
  match aResult P e H r, aResults P e H rs with
  | some v, some vs => some (v :: vs)
  | _, _ => none
def oneOr : List AV → AV
 | [v] => v
 | vs => .tup vs
/-- What the interpreter is told of a program: the functions that it may run, which of them write to their caller's memory, and functions that are told outright. -/
structure Cfg where
 fn : FuncId → Option Func
 imp : FuncId → Bool
 told : FuncId → Option (List AV → Option AV)
 trim : FuncId → Option (List AV → Heap → Option Nat) := fun _ => none
 /-- which functions keep arrays in what they answer (a pure one: freezes them) -/
 arr : FuncId → Bool := fun _ => false
 /-- functions that are told, with what they do to memory -/
 tolH : FuncId → Option (List AV → Heap → Option (AV × List U)) := fun _ => none
def Cfg.th (c : Cfg) (f : FuncId) : Option (List AV → Heap → Option (AV × List U)) := match c.imp f with | true => c.tolH f | false => none
mutual
/-- A value whose arrays are read out. -/
def frz (H : Heap) : AV → AV
 | .ar r lo n sz =>
  match H.get r with
  | some cs => if (lo + n) * sz ≤ cs.length ∧ cs.all AV.one = true then .sl .sh (chunk n sz (cs.drop (lo * sz))) else .bad
  | none => .bad
 | .agg cs => .agg (frzL H cs)
 | .tup cs => .tup (frzL H cs)
 | x => x
def frzL (H : Heap) : List AV → List AV
 | [] => []
 | x :: l => frz H x :: frzL H l
end
/-! What a call leaves to its caller, where the caller's memory is written: what was made is gone, and the lists that one box owns are named by the call's own number. -/
/-- A cell, without what was made behind a number. -/
def sanT (N : Nat) : AV → AV
 | .sl (.own s e z) es => if s < N then .sl (.own s e z) (sanLL es) else .sl .sh (sanLL es)
 | .sl o es => .sl o (sanLL es)
 | .ptr r off => if r < N then .ptr r off else .bad
 | .mp r => if r < N then .mp r else .bad
 | .ar r lo n sz => if r < N then .ar r lo n sz else .bad
 | x => san x
/-- The owner's cells. -/
def renC (N : Nat) (live : Nat → Bool) (seen : List Nat) (j : Nat) : List AV → List AV
 | [] => []
 | .sl (.own s e z) es :: l =>
  if s < N then .sl (.own s e z) (sanLL es) :: renC N live seen (j + 1) l
  else if live s = true ∧ s ∉ seen ∧ j < 64 then .sl (.own (N + j) e z) (sanLL es) :: renC N live (s :: seen) (j + 1) l
  else .sl .sh (sanLL es) :: renC N live seen (j + 1) l
 | x :: l => sanT N x :: renC N live seen (j + 1) l
/-- Which name a cell's list had. -/
def renS (N : Nat) (live : Nat → Bool) (seen : List Nat) (j : Nat) : List AV → Nat → Option Nat
 | [], _ => none
 | .sl (.own s _ _) _ :: l, i =>
  if s < N then renS N live seen (j + 1) l i
  else if live s = true ∧ s ∉ seen ∧ j < 64 then if i = j then some s else renS N live (s :: seen) (j + 1) l i
  else renS N live seen (j + 1) l i
 | _ :: l, i => renS N live seen (j + 1) l i
def trimO (N : Nat) (live : Nat → Bool) (own : Bool) : Option HO → Option HO
 | some (.bx cs) => some (.bx (match own with | true => renC N live [] 0 cs | false => cs.map (sanT N)))
 | some (.mpo ks vs) => some (.mpo (ks.map (sanT N)) (vs.map (sanT N)))
 | none => none
open Classical in
noncomputable def trimS (H H' : Heap) (R : Option Nat) (i : Nat) : Option Nat :=
 match R with
 | some r => if r < H.next ∧ H'.ho r ≠ H.ho r then (H'.get r).bind fun cs => renS H.next H'.live [] 0 cs i else none
 | none => none
open Classical in
noncomputable def trimH (H H' : Heap) (R : Option Nat) : Heap where
 ho := fun k => if k < H.next then if H'.ho k = H.ho k then H.ho k else trimO H.next H'.live (R == some k) (H'.ho k) else H.ho k
 live := fun k => if k < H.next then H'.live k else if (trimS H H' R (k - H.next)).isSome then true else H.live k
 next := H.next + 64
noncomputable def CR.trim (H : Heap) (R : Option Nat) : CR → CR
 | .ret v H' => .ret v (trimH H H' R)
 | .pan v H' => .pan v (trimH H H' R)
noncomputable def trimK (t : Option (List AV → Heap → Option Nat)) (args : List AV) (H : Heap) (r : Option CR) : Option CR :=
 match t with
 | some R => r.map (CR.trim H (R args H))
 | none => r
noncomputable def runFn (P : Program) (K : Calling) (imp : FuncId → Bool) (k : Nat) (fn : Func) (args : List AV) (H : Heap) (o : AV → AV := san) : Option CR :=
 match fn.body with
 | none => none
 | some code =>
  if args.length ≤ fn.ntmps then
   match exec P K imp k code args H with
   | some (.pan v, _, H') => some (.pan (san v) H')
   | some (.exit _, _, _) => none
   | some (_, e, H') =>
    match aResults P e H' fn.results.toList with
    | some vs => some (.ret (o (oneOr vs)) H')
    | none => none
   | none => none
  else none
noncomputable def call (P : Program) (c : Cfg) : Nat → Calling
 | 0, _, _, _ => none
 | k + 1, f, args, H =>
  match c.told f with
  | some h =>
   match h (sanL args) with
   | some v => some (.ret v H)
   | none => none
  | none =>
   match c.th f with
   | some h =>
    match h args H with
    | some (v, us) => some (.ret v (appU { H with next := H.next + 1 } us))
    | none => none
   | none =>
    match c.fn f with
    | none => none
    | some fn =>
     match c.imp f, c.arr f with
     | true, false => trimK (c.trim f) args H (runFn P (call P c k) c.imp k fn args H)
     | true, true => runFn P (call P c k) c.imp k fn args H id
     | false, false =>
      match runFn P (call P c k) c.imp k fn (sanL args) Heap.empty with
      | some (.ret v _) => some (.ret v H)
      | _ => none
     | false, true =>
      match runFn P (call P c k) c.imp k fn (sanL args) Heap.empty id with
      | some (.ret v H') => some (.ret (san (frz H' v)) H)
      | _ => none
end Go.Proofs.YtnoahchdmkpleaaGreat.VA

/-! Vb3 -/
namespace Go.Proofs.YtnoahchdmkpleaaGreat.VA
open Go Go.RowKit

def Top (g : Gh) (N : Nat) : Prop := ∀ r, N ≤ r → g.box r = none ∧ g.own r = none
def New (N : Nat) (g g' : Gh) : Prop := ∀ r, r < N → g'.box r = g.box r ∧ g'.own r = g.own r
theorem New.refl (N : Nat) (g : Gh) : New N g g := fun _ _ => ⟨rfl, rfl⟩
theorem New.trans {N : Nat} {g g1 g2 : Gh} (h : New N g g1) (k : New N g1 g2) : New N g g2 := fun r hr => ⟨(k r hr).1.trans (h r hr).1, (k r hr).2.trans (h r hr).2⟩
theorem New.mono {N M : Nat} {g g' : Gh} (h : New N g g') (hm : M ≤ N) : New M g g' := fun r hr => h r (Nat.lt_of_lt_of_le hr hm)
theorem Top.mono {N M : Nat} {g : Gh} (h : Top g N) (hm : N ≤ M) : Top g M := fun r hr => h r (Nat.le_trans hm hr)
/-- From one state to a later one. -/
structure Past (N : Nat) (g : Gh) (w : World) (g' : Gh) (H' : Heap) (w' : World) : Prop where
 ext : Ext g w g' w'
 inv : Inv g' H' w'
 top : Top g' H'.next
 new : New N g g'
 next : N ≤ H'.next
theorem Past.trans {N M : Nat} {g g1 g2 : Gh} {H1 H2 : Heap} {w w1 w2 : World} (h : Past N g w g1 H1 w1) (k : Past M g1 w1 g2 H2 w2) (hM : N ≤ M) : Past N g w g2 H2 w2 :=
 ⟨h.ext.trans k.ext, k.inv, k.top, h.new.trans (k.new.mono hM), Nat.le_trans hM k.next⟩
def oneEntry (u : Value) : List PanicEntry := [{ v := u, recovered := false }]
def CPost (g : Gh) (N : Nat) (w : World) : CR → Ending → World → Prop
 | .ret v H', en, w' => ∃ u g', en = .returned u ∧ Past N g w g' H' w' ∧ Rel g' w' v u
 | .pan v H', en, w' => ∃ u g', en = .panicked (oneEntry u) ∧ Past N g w g' H' w' ∧ Rel g' w' v u
structure KOk (P : Program) (C : Cond) (K : Calling) (imp : FuncId → Bool) : Prop where
 calls : ∀ f args H r, K f args H = some r → ∀ g w (vs : Array Value), g.cond = C → Inv g H w → Top g H.next → RelL g w args vs.toList →
  (callFunc f vs).run P w = .ok (.enter f vs) w ∧ Calls P f vs w (CPost g H.next w r)
 pure : ∀ f args H r, imp f = false → K f args H = some r → ∃ v, r = .ret v H ∧ ∀ H2, K f args H2 = some (.ret v H2)
def ExRel (g : Gh) (w : World) (x : Exit) (a : Act) : Ex → List AV → Prop
 | .nrm, e => x = .normal ∧ EnvRel g w e a.tmps
 | .exit id, e => x = .exit id ∧ EnvRel g w e a.tmps
 | .ret, e => x = .ret ∧ EnvRel g w e a.tmps
 | .pan v, _ => ∃ u, x = .panic (oneEntry u) ∧ Rel g w v u
theorem appU_next (H : Heap) (us : List U) : (appU H us).next = H.next := by
 induction us generalizing H with
 | nil => rfl
 | cons u us ih => simp only [appU]; rw [ih]; cases u <;> rfl
theorem aWanted_sound {ops : Array Oper} {e : List AV} {o : Oper} {b : Bool} {g : Gh} {w : World} {tmps : Array Value} (h : aWanted ops e o = some b) (he : EnvRel g w e tmps) :
  Region.wanted o (yielded ops tmps) = b := by
 unfold aWanted at h
 unfold Region.wanted
 split at h
 ·rename_i hg
  rw [hg]
  simpa using h
 ·rename_i j want hg
  rw [hg]
  simp only
  unfold yielded
  split at h
  ·rename_i d hd
   rw [hd]
   have hr := he d
   simp only [Option.bind_some]
   split at h
   ·rename_i b' hb
    rw [hb] at hr
    have hv := hr.lit_inv
    simp only [Option.some.injEq] at h
    subst h
    by_cases hlt : d < tmps.size
    ·simp [hlt] at hv
     simp [hlt, hv]
    ·simp [hlt, undef] at hv
   ·rename_i hb
    rw [hb] at hr
    simp only [Option.some.injEq] at h
    subst h
    obtain ⟨vs, hv, _⟩ := hr.tup_inv
    by_cases hlt : d < tmps.size
    ·simp [hlt] at hv
     simp [hlt, hv]
    ·simp [hlt]
   ·cases h
  ·rename_i hd
   rw [hd]
   simpa using h
def dstOk (n : Nat) (o : Oper) : Bool :=
 match o.dst with
 | some d => decide (d < n)
 | none => true
theorem dstOk_spec {n : Nat} {o : Oper} (h : dstOk n o = true) : ∀ d, o.dst = some d → d < n := by
 intro d hd
 simpa [dstOk, hd] using h
theorem Inv.next {g : Gh} {H H' : Heap} {w : World} (h : Inv g H w) (hg : ∀ r, H'.ho r = H.ho r) (hl : ∀ s, H'.isLive s = H.isLive s) : Inv g H' w :=
 ⟨h.lo, h.fresh, h.boxS, fun r b k => h.boxB r b (by rw [← hg]; exact k), fun r r' b k k' => h.boxI r r' b (by rw [← hg]; exact k) (by rw [← hg]; exact k'), fun r cs b hr => h.box r cs b (by rw [Heap.get, ← hg]; exact hr),
  fun s hs => let ⟨b, n, cap, e, sz, vs, a1, a2, a3, a4, a5, a6, a7, a8⟩ := h.live s (by rw [← hl]; exact hs); ⟨b, n, cap, e, sz, vs, a1, a2, a3, a4, a5, a6, a7, fun r k => a8 r (by rw [← hg]; exact k)⟩, fun s s' b x y h1 h2 => h.liveI s s' b x y (by rw [← hl]; exact h1) (by rw [← hl]; exact h2),
  fun r ks vs hr => h.map r ks vs (by rw [Heap.getM, ← hg]; exact hr), fun r b n cap e sz k => h.arr r b n cap e sz (by rw [Heap.get, ← hg]; exact k), h.cond⟩
/-- One operation that is wanted, whatever stands behind it. -/
theorem oper_sound {P : Program} {C : Cond} {K : Calling} {imp : FuncId → Bool} (hK : KOk P C K imp) {e : List AV} {H : Heap} {g : Gh} {a : Act} {w : World} {o : Oper} {id N : Nat} {r : Sr}
  (h : astep P (aeval e) H id o.op = some r) (hC : g.cond = C) (hi : Inv g H w) (he : EnvRel g w e a.tmps) (ht : Top g H.next) (hf : Fresh g H id) (hN : N ≤ H.next) (hid : N ≤ id) (hidt : id < H.next)
  (hd : ∀ d, o.dst = some d → d < a.tmps.size) {next : Act → World → Prop} {Q : Exit → Act → World → Prop}
  (hval : ∀ v us rs, r = .val v us rs → ∀ g' u w', Past N g w g' (appU H us) w' → (∀ k, k ≠ id → g'.box k = g.box k ∧ g'.own k = g.own k) → EnvRel g' w' (aput e o.dst v) (a.put o.dst u).tmps → next (a.put o.dst u) w')
  (hcall : ∀ f args, r = .call f args → ∃ c, K f args H = some c ∧
   (∀ v H', c = .ret v H' → ∀ g' u w', Past H.next g w g' H' w' → EnvRel g' w' (aput e o.dst v) (a.put o.dst u).tmps → next (a.put o.dst u) w') ∧
   (∀ v H', c = .pan v H' → ∀ g' u w', Past H.next g w g' H' w' → Rel g' w' v u → Q (.panic (oneEntry u)) a w'))
  (hpan : ∀ v, r = .pan v → ∀ u, Rel g w v u → Q (.panic (oneEntry u)) a w) : o.wp P a w next Q := by
 have hs := astep_sound (o := o) (ρ' := a.eval) h hi hf (fun x => he.eval x)
 unfold Oper.wp
 cases r with
 | val v us rs =>
  obtain ⟨g', w', nx, u, h1, h2, h3, h4, h5, h6⟩ := hs
  rw [h1]
  have hp : Past N g w g' (appU H us) w' := by
   refine ⟨h3, h4, ?_, fun r hr => h6 r (by omega), by rw [appU_next]; exact hN⟩
   intro r hr
   rw [appU_next] at hr
   rw [(h6 r (by omega)).1, (h6 r (by omega)).2]
   exact ht r hr
  have hrel : EnvRel g' w' (aput e o.dst v) (a.put o.dst u).tmps := (he.ext h3).put hd h5
  rcases h2 with rfl | ⟨rfl, rfl⟩
  ·exact hval v us rs rfl g' u w' hp h6 hrel
  ·exact hval v us rs rfl g' undef w' hp h6 hrel
 | call f args =>
  obtain ⟨vs, h1, h2⟩ := hs
  obtain ⟨c, hc, hret, hpn⟩ := hcall f args rfl
  obtain ⟨q1, q2⟩ := hK.calls f args H c hc g w vs hC hi ht h2
  rw [h1, q1]
  refine q2.mono fun en w' hpost => ?_
  cases c with
  | ret v H' =>
   obtain ⟨u, g', rfl, hp, hr⟩ := hpost
   exact hret v H' rfl g' u w' hp ((he.ext hp.ext).put hd hr)
  | pan v H' =>
   obtain ⟨u, g', rfl, hp, hr⟩ := hpost
   exact hpn v H' rfl g' u w' hp hr
 | pan v =>
  obtain ⟨u, h1, h2⟩ := hs
  rw [h1]
  exact hpan v rfl u h2
/-- What a piece leaves alone in its own frame: what is deferred, and the slots that it does not write. -/
def KeptL (os : List Oper) (a a' : Act) : Prop := a'.defers = a.defers ∧ ∀ s, os.all (fun o => o.dst != some s) = true → a'.tmps.getD s undef = a.tmps.getD s undef
theorem KeptL.refl (os : List Oper) (a : Act) : KeptL os a a := ⟨rfl, fun _ _ => rfl⟩
theorem getD_put {a : Act} {dst : Option Tmp} {s : Nat} (h : (dst != some s) = true) (v : Value) : (a.put dst v).tmps.getD s undef = a.tmps.getD s undef := by
 cases dst with
 | none => rfl
 | some d =>
  have hd : d ≠ s := by simpa using h
  simp [Act.put, Array.getD_eq_getD_getElem?, Array.getElem?_setIfInBounds_ne hd]
theorem KeptL.cons {o : Oper} {os : List Oper} {a a' : Act} {v : Value} (h : KeptL os (a.put o.dst v) a') : KeptL (o :: os) a a' := by
 refine ⟨h.1.trans (defers_put a o.dst v), fun s hs => ?_⟩
 rw [List.all_cons, Bool.and_eq_true] at hs
 exact (h.2 s hs.2).trans (getD_put hs.1 v)
theorem KeptL.put {os : List Oper} {a a' : Act} (h : KeptL os a a') {o : Oper} (ho : o ∈ os) (v : Value) : KeptL os a (a'.put o.dst v) := by
 refine ⟨(defers_put a' o.dst v).trans h.1, fun s hs => ?_⟩
 exact (getD_put (List.all_eq_true.1 hs o ho) v).trans (h.2 s hs)
theorem runOps_sound {P : Program} {C : Cond} {K : Calling} {imp : FuncId → Bool} (hK : KOk P C K imp) {ops : Array Oper} {base n : Nat} : ∀ (os : List Oper) (i : Nat) (e : List AV) (H : Heap) (ex : Ex) (e' : List AV) (H' : Heap),
  runOps P K ops base os i e H = some (ex, e', H') → os = ops.toList.drop i → (∀ o, o ∈ os → dstOk n o = true) → ∀ (g : Gh) (a : Act) (w : World), g.cond = C → Inv g H w → EnvRel g w e a.tmps → a.tmps.size = n → Top g H.next →
  (∀ j, i ≤ j → j < i + os.length → Fresh g H (base + j)) → base + i + os.length ≤ H.next → ∀ Q : Exit → Act → World → Prop,
  (∀ g' x a' w', Past base g w g' H' w' → KeptL os a a' → a'.tmps.size = n → ExRel g' w' x a' ex e' → Q x a' w') → wpOps P ops Q (List.range' i os.length) a w := by
 intro os
 induction os with
 | nil =>
  intro i e H ex e' H' h _ _ g a w hC hi he hn ht _ hb Q hQ
  simp only [runOps, Option.some.injEq, Prod.mk.injEq] at h
  obtain ⟨rfl, rfl, rfl⟩ := h
  exact hQ g .normal a w ⟨Ext.refl g w, hi, ht, New.refl _ _, by simp at hb; omega⟩ (KeptL.refl _ _) hn ⟨rfl, he⟩
 | cons o os ih =>
  intro i e H ex e' H' h hos hd g a w hC hi he hn ht hf hb Q hQ
  have hoi : ops[i]? = some o := by
   have : (ops.toList.drop i)[0]? = some o := by rw [← hos]; rfl
   simpa using this
  have hos' : os = ops.toList.drop (i + 1) := by
   have : (o :: os).tail = (ops.toList.drop i).tail := by rw [hos]
   simpa using this
  have hlen : (o :: os).length = os.length + 1 := rfl
  rw [hlen] at hf hb ⊢
  rw [List.range'_succ]
  simp only [wpOps, hoi]
  have hdo : ∀ d, o.dst = some d → d < a.tmps.size := by rw [hn]; exact dstOk_spec (hd o (List.mem_cons_self ..))
  have hd' : ∀ o', o' ∈ os → dstOk n o' = true := fun o' ho' => hd o' (List.mem_cons_of_mem _ ho')
  simp only [runOps] at h
  cases hw : aWanted ops e o with
  | none => simp [hw] at h
  | some b =>
   rw [aWanted_sound hw he]
   simp only [hw] at h
   cases b with
   | false =>
    simp only at h
    rw [if_neg (by simp)]
    exact ih (i + 1) _ H ex e' H' h hos' hd' g (a.put o.dst undef) w hC hi (he.put hdo (.tup [] #[] rfl (by simp))) (by rw [size_put]; exact hn) ht
     (fun j h1 h2 => hf j (by omega) (by omega)) (by omega) Q (fun g' x a' w' hp hdf hsz hx => hQ g' x a' w' hp hdf.cons hsz hx)
   | true =>
    simp only at h
    rw [if_pos rfl]
    left
    cases hst : astep P (aeval e) H (base + i) o.op with
    | none => simp [hst] at h
    | some r =>
     simp only [hst] at h
     refine oper_sound hK (N := base) hst hC hi he ht (hf i (Nat.le_refl _) (by omega)) (by omega) (by omega) (by omega) hdo ?_ ?_ ?_
     ·intro v us rs hr g' u w' hp hk hrel
      subst hr
      simp only at h
      refine ih (i + 1) _ (appU H us) ex e' H' h hos' hd' g' (a.put o.dst u) w' (hp.ext.cond.trans hC) hp.inv hrel (by rw [size_put]; exact hn) hp.top ?_ (by rw [appU_next]; omega) Q
       (fun g2 x a' w2 hp2 hdf hsz hx => hQ g2 x a' w2 (hp.trans hp2 (Nat.le_refl _)) hdf.cons hsz hx)
      intro j h1 h2
      obtain ⟨q1, q2, _⟩ := hf j (by omega) (by omega)
      have := hk (base + j) (by omega)
      exact hp.inv.fresh_of (by rw [this.1]; exact q1) (by rw [this.2]; exact q2)
     ·intro f args hr
      subst hr
      simp only at h
      cases hc : K f args H with
      | none => simp [hc] at h
      | some c =>
       simp only [hc] at h
       refine ⟨c, rfl, ?_, ?_⟩
       ·intro v H1 hcr g' u w' hp hrel
        subst hcr
        simp only at h
        have hpb : Past base g w g' H1 w' := ⟨hp.ext, hp.inv, hp.top, hp.new.mono (by omega), by have := hp.next; omega⟩
        refine ih (i + 1) _ H1 ex e' H' h hos' hd' g' (a.put o.dst u) w' (hp.ext.cond.trans hC) hp.inv hrel (by rw [size_put]; exact hn) hp.top ?_ (by have := hp.next; omega) Q
         (fun g2 x a' w2 hp2 hdf hsz hx => hQ g2 x a' w2 (hpb.trans hp2 (Nat.le_refl _)) hdf.cons hsz hx)
        intro j h1 h2
        obtain ⟨q1, q2, _⟩ := hf j (by omega) (by omega)
        have := hp.new (base + j) (by omega)
        exact hp.inv.fresh_of (by rw [this.1]; exact q1) (by rw [this.2]; exact q2)
       ·intro v H1 hcr g' u w' hp hrel
        subst hcr
        simp only [Option.some.injEq, Prod.mk.injEq] at h
        obtain ⟨rfl, rfl, rfl⟩ := h
        exact hQ g' _ a w' ⟨hp.ext, hp.inv, hp.top, hp.new.mono (by omega), by have := hp.next; omega⟩ (KeptL.refl _ _) hn ⟨u, rfl, hrel⟩
     ·intro v hr u hrel
      subst hr
      simp only [Option.some.injEq, Prod.mk.injEq] at h
      obtain ⟨rfl, rfl, rfl⟩ := h
      exact hQ g _ a w ⟨Ext.refl g w, hi, ht, New.refl _ _, by omega⟩ (KeptL.refl _ _) hn ⟨u, rfl, hrel⟩
end Go.Proofs.YtnoahchdmkpleaaGreat.VA

/-! Vb4 -/
namespace Go.Proofs.YtnoahchdmkpleaaGreat.VA
open Go Go.RowKit

/-! ### which operations wait for which -/
theorem testBit_foldl (acc : Array Nat) (j : Nat) : ∀ (l : List Edge) (s : Nat),
  (l.foldl (fun s e => if Region.binds .any e = true then s ||| 2 ^ e.on ||| acc.getD e.on 0 else s) s).testBit j = true →
   s.testBit j = true ∨ ∃ e, e ∈ l ∧ Region.binds .any e = true ∧ (e.on = j ∨ (acc.getD e.on 0).testBit j = true)
 | [], s, h => .inl h
 | e :: l, s, h => by
  simp only [List.foldl_cons] at h
  rcases testBit_foldl acc j l _ h with h1 | ⟨e', h1, h2⟩
  ·split at h1
   ·rename_i hb
    simp only [Nat.testBit_or, Bool.or_eq_true, Nat.testBit_two_pow, decide_eq_true_eq] at h1
    rcases h1 with (h1 | h1) | h1
    ·exact .inl h1
    ·exact .inr ⟨e, List.mem_cons_self .., hb, .inl h1⟩
    ·exact .inr ⟨e, List.mem_cons_self .., hb, .inr h1⟩
   ·exact .inl h1
  ·exact .inr ⟨e', List.mem_cons_of_mem _ h1, h2⟩
/-- Whatever is done, what it waits for is done. -/
def Shut (ops : Array Oper) (S : Nat → Bool) : Prop := ∀ i o, ops[i]? = some o → S i = true → ∀ e, e ∈ o.after → Region.binds .any e = true → S e.on = true
theorem anc_shut {ops : Array Oper} {S : Nat → Bool} (hS : Shut ops S) {i j : Nat} {o : Oper} (ho : ops[i]? = some o) (hp : ∀ e, e ∈ o.after → Region.binds .any e = true → S e.on = true)
  (h : anc ops j i = true) : S j = true := by
 unfold anc Region.before at h
 rw [← Array.foldl_toList] at h
 have key : ∀ (l : List Oper) (m : Nat) (acc : Array Nat), acc.size = m → (∀ k, l[k]? = ops[m + k]?) →
   (∀ i o, i < m → ops[i]? = some o → ∀ j, (acc.getD i 0).testBit j = true → (∀ e, e ∈ o.after → Region.binds .any e = true → S e.on = true) → S j = true) →
   (∀ i o, i < m + l.length → ops[i]? = some o → ∀ j, ((l.foldl (fun acc o =>
    acc.push (o.after.foldl (fun s e => if Region.binds .any e = true then s ||| 2 ^ e.on ||| acc.getD e.on 0 else s) 0)) acc).getD i 0).testBit j = true →
     (∀ e, e ∈ o.after → Region.binds .any e = true → S e.on = true) → S j = true) := by
  intro l
  induction l with
  | nil => intro m acc hs _ hacc i o hi ho; exact hacc i o (by simpa using hi) ho
  | cons o l ih =>
   intro m acc hs hl hacc
   simp only [List.foldl_cons]
   have := ih (m + 1) (acc.push (o.after.foldl (fun s e => if Region.binds .any e = true then s ||| 2 ^ e.on ||| acc.getD e.on 0 else s) 0)) (by simp [hs])
    (fun k => by have := hl (k + 1); rw [List.getElem?_cons_succ] at this; rw [this]; congr 1; omega) ?_
   ·intro i o' hi
    exact this i o' (by simp at hi ⊢; omega)
   ·intro i o' hi ho' j hj hp
    by_cases him : i < m
    ·refine hacc i o' him ho' j ?_ hp
     simp only [Array.getD_eq_getD_getElem?] at hj ⊢
     rwa [Array.getElem?_push_lt (by omega), ← Array.getElem?_eq_getElem] at hj
    ·have hime : i = m := by omega
     subst hime
     have hoo : o' = o := by
      have := hl 0
      simp only [List.getElem?_cons_zero, Nat.add_zero] at this
      rw [ho'] at this
      exact (Option.some.inj this).symm
     subst hoo
     simp only [Array.getD_eq_getD_getElem?] at hj
     rw [← hs, Array.getElem?_push_size] at hj
     simp only [Option.getD_some] at hj
     rw [← Array.foldl_toList] at hj
     rcases testBit_foldl acc j o'.after.toList 0 (by simpa using hj) with h1 | ⟨e, h1, h2, h3⟩
     ·simp at h1
     ·have hse := hp e (by simpa using h1) h2
      rcases h3 with h3 | h3
      ·rw [← h3]; exact hse
      ·by_cases hlt : e.on < i
       ·cases hoe : ops[e.on]? with
        | none =>
         exfalso
         have h4 : ops.size ≤ e.on := by simpa using hoe
         have h5 := (Array.getElem?_eq_some_iff.1 ho').1
         omega
        | some oe => exact hacc e.on oe hlt hoe j h3 (hS e.on oe hoe hse)
       ·rw [Array.getD_eq_getD_getElem?, Array.getElem?_eq_none (by omega)] at h3
        simp at h3
 have hi := (Array.getElem?_eq_some_iff.1 ho).1
 exact key ops.toList 0 #[] rfl (fun k => by simp) (fun i o hi => by omega) i o (by simpa using hi) ho j h hp
def drawOk (ops : Array Oper) : Bool :=
 (List.range ops.size).all fun j =>
  ((ops.getD j default).after.all fun e => !Region.binds .any e || decide (e.on < j)) &&
  (List.range j).all fun i => anc ops i j || (ops.getD i default).apart ops (ops.getD j default)

/-! ### the states on the way -/
def putT (o : Oper) (t : Tr) (e : List AV) : List AV :=
 match t with
 | .val v _ _ | .call v _ _ => aput e o.dst v
 | _ => e
def appT (t : Tr) (H : Heap) : Heap :=
 match t with
 | .val _ us _ => appU H us
 | .call _ _ Ha => Ha
 | _ => H
def eAt (op : Nat → Oper) (t : Nat → Tr) (S : Nat → Bool) (e : List AV) : Nat → List AV
 | 0 => e
 | n + 1 => if S n = true then putT (op n) (t n) (eAt op t S e n) else eAt op t S e n
def hAt (t : Nat → Tr) (S : Nat → Bool) (H : Heap) : Nat → Heap
 | 0 => H
 | n + 1 => if S n = true then appT (t n) (hAt t S H n) else hAt t S H n
def full : Nat → Bool := fun _ => true
def upTo (i : Nat) : Nat → Bool := fun j => decide (j < i)
theorem full_eq (n : Nat) : full n = true := rfl
theorem upTo_lt {i n : Nat} (h : n < i) : upTo i n = true := decide_eq_true h
theorem upTo_ge {i n : Nat} (h : i ≤ n) : ¬ upTo i n = true := by simp [upTo]; omega
theorem gget_aput (e : List AV) (dst : Option Tmp) (v : AV) (s : Nat) : gget .bad (aput e dst v) s = if dst = some s then v else gget .bad e s := by
 cases dst with
 | none => simp [aput]
 | some d => simp [aput, gget_gset]
theorem gget_putT (o : Oper) (t : Tr) (e : List AV) (s : Nat) (h : o.dst ≠ some s) : gget .bad (putT o t e) s = gget .bad e s := by
 cases t <;> simp [putT, gget_aput, h]
theorem gget_putT_congr (o : Oper) (t : Tr) (e e' : List AV) (s : Nat) (h : gget .bad e s = gget .bad e' s) : gget .bad (putT o t e) s = gget .bad (putT o t e') s := by
 cases t <;> simp [putT, gget_aput, h]
theorem eAt_congr {op : Nat → Oper} {t : Nat → Tr} {e : List AV} {S S' : Nat → Bool} {s : Nat} : ∀ (n : Nat), (∀ j, j < n → (op j).dst = some s → S j = S' j) → gget .bad (eAt op t S e n) s = gget .bad (eAt op t S' e n) s
 | 0, _ => rfl
 | n + 1, h => by
  have ih := eAt_congr (op := op) (t := t) (e := e) (S := S) (S' := S') (s := s) n (fun j hj => h j (by omega))
  simp only [eAt]
  by_cases hd : (op n).dst = some s
  ·rw [h n (by omega) hd]
   split
   ·exact gget_putT_congr _ _ _ _ _ ih
   ·exact ih
  ·split <;> split <;> simp [gget_putT _ _ _ _ hd, ih]
theorem eAt_last {op : Nat → Oper} {t : Nat → Tr} {e : List AV} {S : Nat → Bool} {s i : Nat} {v : AV} (hi : S i = true) (hd : (op i).dst = some s) (hv : ∀ e', gget .bad (putT (op i) (t i) e') s = v) :
  ∀ (n : Nat), i < n → (∀ j, i < j → j < n → S j = true → (op j).dst ≠ some s) → gget .bad (eAt op t S e n) s = v
 | 0, h, _ => by omega
 | n + 1, h, hl => by
  simp only [eAt]
  by_cases hin : i = n
  ·subst hin; rw [if_pos hi]; exact hv _
  ·have ih := eAt_last (e := e) hi hd hv n (by omega) (fun j h1 h2 => hl j h1 (by omega))
   split
   ·rename_i hs
    rw [gget_putT _ _ _ _ (hl n (by omega) (by omega) hs)]
    exact ih
   ·exact ih
theorem eAt_upTo {op : Nat → Oper} {t : Nat → Tr} {e : List AV} {i : Nat} : ∀ (n : Nat), i ≤ n → eAt op t (upTo i) e n = eAt op t full e i := by
 have low : ∀ n, n ≤ i → eAt op t (upTo i) e n = eAt op t full e n := by
  intro n
  induction n with
  | zero => intro _; rfl
  | succ n ih =>
   intro hn
   simp only [eAt]
   rw [if_pos (upTo_lt (by omega)), if_pos (full_eq n), ih (by omega)]
 intro n
 induction n with
 | zero =>
  intro h
  obtain rfl : i = 0 := by omega
  rfl
 | succ n ih =>
  intro h
  by_cases hin : i = n + 1
  ·subst hin; exact low _ (Nat.le_refl _)
  ·simp only [eAt]
   rw [if_neg (upTo_ge (by omega))]
   exact ih (by omega)
theorem eAt_all {op : Nat → Oper} {t : Nat → Tr} {e : List AV} {S : Nat → Bool} : ∀ (n : Nat), (∀ j, j < n → S j = true) → eAt op t S e n = eAt op t full e n
 | 0, _ => rfl
 | n + 1, h => by simp only [eAt]; rw [if_pos (h n (by omega)), if_pos (full_eq n), eAt_all n (fun j hj => h j (by omega))]

/-! ### memory on the way -/
def obs (H : Heap) (k : Nat) : Option HO × Bool := (H.ho k, H.isLive k)
def loud : Tr → Bool
 | .val _ us _ => !us.isEmpty
 | .call _ _ _ => true
 | _ => false
theorem obs_app_other (H : Heap) (u : U) (k : Nat) (h : u.key ≠ k) : obs (u.app H) k = obs H k := by
 cases u <;> simp_all [obs, U.app, U.key, Heap.put, Heap.putM, Heap.del, Heap.set, Heap.setLive, Heap.isLive]
theorem obs_app_congr (H H' : Heap) (u : U) (k : Nat) (h : obs H k = obs H' k) : obs (u.app H) k = obs (u.app H') k := by
 simp only [obs, Prod.mk.injEq] at h
 cases u <;> simp_all [obs, U.app, Heap.put, Heap.putM, Heap.del, Heap.set, Heap.setLive, Heap.isLive]
theorem obs_appU_other (us : List U) : ∀ (H : Heap) (k : Nat), (∀ u, u ∈ us → u.key ≠ k) → obs (appU H us) k = obs H k := by
 induction us with
 | nil => intro H k _; rfl
 | cons u us ih =>
  intro H k h
  simp only [appU]
  rw [ih _ _ (fun u' hu => h u' (List.mem_cons_of_mem _ hu)), obs_app_other _ _ _ (h u (List.mem_cons_self ..))]
theorem obs_appU_congr (us : List U) : ∀ (H H' : Heap) (k : Nat), obs H k = obs H' k → obs (appU H us) k = obs (appU H' us) k := by
 induction us with
 | nil => intro H H' k h; exact h
 | cons u us ih => intro H H' k h; exact ih _ _ _ (obs_app_congr _ _ _ _ h)
/-- Where a call is done, all that was loud ahead of it is. -/
def CL (t : Nat → Tr) (S : Nat → Bool) (n : Nat) : Prop := ∀ i v Hb Ha, i < n → t i = .call v Hb Ha → S i = true → ∀ j, j < i → loud (t j) = true → S j = true
theorem hAt_congr {t : Nat → Tr} {H : Heap} {k : Nat} : ∀ (n : Nat) (S S' : Nat → Bool), CL t S n → CL t S' n →
  (∀ i v Hb Ha, i < n → t i = .call v Hb Ha → Hb = hAt t full H i) →
  (∀ j v us rs, j < n → t j = .val v us rs → (∃ u, u ∈ us ∧ u.key = k) → S j = S' j) → (∀ j v Hb Ha, j < n → t j = .call v Hb Ha → S j = S' j ∨ obs Hb k = obs Ha k) →
  obs (hAt t S H n) k = obs (hAt t S' H n) k := by
 intro n
 induction n with
 | zero => intro S S' _ _ _ _ _; rfl
 | succ n ih =>
  intro S S' hS hS' hG hv hc
  have cl : ∀ {S : Nat → Bool}, CL t S (n + 1) → CL t S n := fun h i v Hb Ha hi => h i v Hb Ha (by omega)
  have hih := ih S S' (cl hS) (cl hS') (fun i v Hb Ha hi => hG i v Hb Ha (by omega)) (fun j v us rs hj => hv j v us rs (by omega)) (fun j v Hb Ha hj => hc j v Hb Ha (by omega))
  simp only [hAt]
  cases ht : t n with
  | val v us rs =>
   by_cases hk : ∃ u, u ∈ us ∧ u.key = k
   ·rw [hv n v us rs (by omega) ht hk]
    split
    ·exact obs_appU_congr us _ _ _ hih
    ·exact hih
   ·have hne : ∀ u, u ∈ us → u.key ≠ k := fun u hu he => hk ⟨u, hu, he⟩
    split <;> split <;> simp [appT, obs_appU_other us _ _ hne, hih]
  | call v Hb Ha =>
   -- one has the call done, the other not: the call keeps k
   have one : ∀ (A B : Nat → Bool), CL t A (n + 1) → CL t B (n + 1) → A n = true → obs Hb k = obs Ha k →
     (∀ j v us rs, j < n + 1 → t j = .val v us rs → (∃ u, u ∈ us ∧ u.key = k) → A j = B j) → (∀ j v Hb Ha, j < n + 1 → t j = .call v Hb Ha → A j = B j ∨ obs Hb k = obs Ha k) →
     obs Ha k = obs (hAt t B H n) k := by
    intro A B hA hB hAn hkeep hv hc
    rw [← hkeep, hG n v Hb Ha (by omega) ht]
    refine ih full B (fun i v Hb Ha _ _ _ j _ _ => rfl) (cl hB) (fun i v Hb Ha hi => hG i v Hb Ha (by omega)) ?_ ?_
    ·intro j v' us rs hj htj hu
     have hAj : A j = true := hA n v Hb Ha (by omega) ht hAn j hj (by
      rw [htj]
      obtain ⟨u, hu, _⟩ := hu
      cases us with
      | nil => cases hu
      | cons _ _ => rfl)
     rw [← hv j v' us rs (by omega) htj hu, hAj]
     rfl
    ·intro j v' Hb' Ha' hj htj
     have hAj : A j = true := hA n v Hb Ha (by omega) ht hAn j hj (by rw [htj]; rfl)
     rcases hc j v' Hb' Ha' (by omega) htj with h | h
     ·exact .inl (by rw [← h, hAj]; rfl)
     ·exact .inr h
   rcases hc n v Hb Ha (by omega) ht with hss | hkeep
   ·rw [hss]
    split
    ·rfl
    ·exact hih
   ·cases h1 : S n <;> cases h2 : S' n
    ·simpa using hih
    ·simp only [Bool.false_eq_true, if_false, if_true, appT]
     exact (one S' S hS' hS h2 hkeep (fun j v us rs hj h3 h4 => (hv j v us rs hj h3 h4).symm) (fun j v Hb Ha hj h3 => (hc j v Hb Ha hj h3).imp Eq.symm (fun h => h))).symm
    ·simp only [Bool.false_eq_true, if_false, if_true, appT]
     exact one S S' hS hS' h1 hkeep hv hc
    ·rfl
  | pan => split <;> split <;> exact hih
  | dead => split <;> split <;> exact hih
theorem hAt_next {t : Nat → Tr} {H : Heap} {S S' : Nat → Bool} : ∀ (n : Nat), (∀ j v Hb Ha, j < n → t j = .call v Hb Ha → S j = S' j) → (hAt t S H n).next = (hAt t S' H n).next
 | 0, _ => rfl
 | n + 1, h => by
  have ih := hAt_next (H := H) (S := S) (S' := S') n (fun j v Hb Ha hj => h j v Hb Ha (by omega))
  simp only [hAt]
  cases ht : t n with
  | val v us rs => split <;> split <;> simp [appT, appU_next, ih]
  | call v Hb Ha => rw [h n v Hb Ha (by omega) ht]; split <;> first | rfl | exact ih
  | pan => split <;> split <;> exact ih
  | dead => split <;> split <;> exact ih
/-- The very memory, where all that is loud agrees. -/
theorem hAt_eq {t : Nat → Tr} {H : Heap} {S S' : Nat → Bool} : ∀ (n : Nat), (∀ j, j < n → loud (t j) = true → S j = S' j) → hAt t S H n = hAt t S' H n
 | 0, _ => rfl
 | n + 1, h => by
  have ih := hAt_eq (H := H) (S := S) (S' := S') n (fun j hj => h j (by omega))
  simp only [hAt]
  by_cases hl : loud (t n) = true
  ·rw [h n (by omega) hl, ih]
  ·have hid : ∀ H', appT (t n) H' = H' := by
    intro H'
    cases ht : t n with
    | val v us rs =>
     rw [ht] at hl
     cases us with
     | nil => rfl
     | cons _ _ => exact absurd rfl hl
    | call v Hb Ha => rw [ht] at hl; exact absurd rfl hl
    | pan => rfl
    | dead => rfl
   simp only [hid, ite_self]
   exact ih
theorem hAt_upTo {t : Nat → Tr} {H : Heap} {i : Nat} : ∀ (n : Nat), i ≤ n → hAt t (upTo i) H n = hAt t full H i := by
 have low : ∀ n, n ≤ i → hAt t (upTo i) H n = hAt t full H n := by
  intro n
  induction n with
  | zero => intro _; rfl
  | succ n ih =>
   intro hn
   simp only [hAt]
   rw [if_pos (upTo_lt (by omega)), if_pos (full_eq n), ih (by omega)]
 intro n
 induction n with
 | zero =>
  intro h
  obtain rfl : i = 0 := by omega
  rfl
 | succ n ih =>
  intro h
  by_cases hin : i = n + 1
  ·subst hin; exact low _ (Nat.le_refl _)
  ·simp only [hAt]
   rw [if_neg (upTo_ge (by omega))]
   exact ih (by omega)
end Go.Proofs.YtnoahchdmkpleaaGreat.VA

/-! Vb5 -/
namespace Go.Proofs.YtnoahchdmkpleaaGreat.VA
open Go Go.RowKit
set_option linter.unusedSimpArgs false

theorem map_parts {ρ ρ' : Operand → AV} (ps : Array (Nat × Operand)) (h : ∀ x, x ∈ ps.toList.map (·.2) → ρ x = ρ' x) :
  ps.toList.map (fun p => (p.1, ρ p.2)) = ps.toList.map (fun p => (p.1, ρ' p.2)) :=
 List.map_congr_left fun p hp => by rw [h p.2 (List.mem_map.2 ⟨p, hp, rfl⟩)]
theorem aPure_congr {P : Program} {ρ ρ' : Operand → AV} {op : Op} (h : ∀ x, x ∈ op.operands → ρ x = ρ' x) : aPure P ρ op = aPure P ρ' op := by
 cases op <;> simp only [Op.operands] at h <;> simp only [aPure]
 case move x => rw [h x (by simp)]
 case assign x => rw [h x (by simp)]
 case pick c a b => rw [h c (by simp), h a (by simp), h b (by simp)]
 case build t ps => rw [map_parts ps (fun x hx => h x (by simpa using hx))]
 case nilCheck x => rw [h x (by simp)]
 case binOp op xt x y yt => rw [h x (by simp), h y (by simp)]
 case unOp op xt x => rw [h x (by simp)]
 case convert s d x => rw [h x (by simp)]
 case makeInterface t x => rw [h x (by simp)]
 case makeFunc fn first caps =>
  cases fn <;> simp only [aPure]
  rw [List.map_congr_left (fun x hx => h x (by simp; exact .inr (by simpa using hx))), List.map_congr_left (l := first.toList) (fun x hx => h x (by simp; exact .inl (by simpa using hx)))]
 case slice t x lo hi mx =>
  have h1 : lo.map ρ = lo.map ρ' := by cases lo <;> simp_all
  have h2 : hi.map ρ = hi.map ρ' := by cases hi <;> simp_all
  cases mx <;> simp only [aPure]
  ·rw [h x (by simp), h1, h2]
  ·rename_i m
   rw [h x (by simp), h m (by simp), h1, h2]
 case fieldAddr t x k => rw [h x (by simp)]
 case field t x k => rw [h x (by simp)]
 case indexAddr t x i => rw [h x (by simp), h i (by simp)]
 case index t x i => rw [h x (by simp), h i (by simp)]
 case extract x i => rw [h x (by simp)]
 case call c =>
  obtain ⟨callee, args, argTypes⟩ := c
  have hargs : ∀ x, x ∈ args.toList → ρ x = ρ' x := fun x hx => h x (by simp [Call.operands]; exact .inr (by simpa using hx))
  cases callee <;> (try simp only [aPure])
  rename_i b
  cases b <;> (try simp only [aPure])
  case len =>
   split <;> simp_all
  case min =>
   split <;> simp_all
  case max =>
   split <;> simp_all
theorem astep_congr {P : Program} {ρ ρ' : Operand → AV} {H : Heap} {id : Nat} {op : Op} (h : ∀ x, x ∈ op.operands → ρ x = ρ' x) : astep P ρ H id op = astep P ρ' H id op := by
 have hp := aPure_congr (P := P) h
 cases op <;> simp only [Op.operands] at h <;> simp only [astep] <;> try rw [hp]
 case box t x => rw [h x (by simp)]
 case buildSlice t n ps => rw [map_parts ps (fun x hx => h x (by simpa using hx))]
 case load t x => rw [h x (by simp)]
 case store t x v => rw [h x (by simp), h v (by simp)]
 case panic x => rw [h x (by simp)]
 case makeMap t n => cases n <;> simp only [astep]; rw [hp]
 case insert t m k v => rw [h m (by simp), h k (by simp), h v (by simp)]
 case mapUpdate t m k v => rw [h m (by simp), h k (by simp), h v (by simp)]
 case lookup t m k ok => rw [h m (by simp), h k (by simp)]
 case call c =>
  obtain ⟨callee, args, argTypes⟩ := c
  have hargs : ∀ x, x ∈ args.toList → ρ x = ρ' x := fun x hx => h x (by simp [Call.operands]; exact .inr (by simpa using hx))
  cases callee
  case value f =>
   have hf : ρ f = ρ' f := h f (by simp [Call.operands])
   simp only [astep]
   rw [hf, List.map_congr_left hargs]
  case builtin b =>
   cases b <;> (try simp only [astep]) <;> (try rw [hp])
   case append =>
    split <;> simp_all
   case clear =>
    split <;> simp_all
  case invoke r m => simp only [astep]; rw [hp]
theorem aLoad_congr {P : Program} {t : TypeId} {x z : AV} {H H' : Heap} {rs : List Nat} (h : aLoad P t x H = some (z, rs)) (hk : ∀ k, k ∈ rs → H'.get k = H.get k) : aLoad P t x H' = some (z, rs) := by
 unfold aLoad at h ⊢
 split at h
 ·rename_i ha
  try simp only [ha]
  split at h
  ·rename_i n r off hs
   try simp only [hs]
   split at h
   ·rename_i cs hcs
    split at h
    ·rename_i hle
     simp only [Option.some.injEq, Prod.mk.injEq] at h
     obtain ⟨rfl, rfl⟩ := h
     simp only [hk r (by simp), hcs, if_pos hle]
    ·cases h
   ·cases h
  ·rename_i n cs hs
   try simp only [hs]
   exact h
  ·cases h
 ·rename_i ha
  try simp only [ha]
  split at h
  ·rename_i r off
   split at h
   ·rename_i cs hcs
    split at h
    ·rename_i v hv
     simp only [Option.some.injEq, Prod.mk.injEq] at h
     obtain ⟨rfl, rfl⟩ := h
     simp only [hk r (by simp), hcs, hv]
    ·cases h
   ·cases h
  ·exact h
  ·cases h
 ·cases h
theorem aStore_congr {P : Program} {t : TypeId} {x z : AV} {H H' : Heap} {us : List U} (h : aStore P t x z H = some us) (hk : ∀ u, u ∈ us → H'.get u.key = H.get u.key) : aStore P t x z H' = some us := by
 unfold aStore at h ⊢
 split at h
 ·rename_i n r off hs
  try simp only [hs]
  split at h
  ·rename_i cs hcs
   split at h
   ·rename_i hle
    simp only [Option.some.injEq] at h
    have hr : H'.get r = H.get r := hk (.box r _) (by rw [← h]; exact List.mem_cons_self ..)
    simp only [hr, hcs, if_pos hle, h]
   ·cases h
  ·cases h
 ·cases h
theorem newsA_congr {sz : Nat} {H H' : Heap} {x : AV} {r : List AV × Nat × List Nat} (h : newsA sz H x = some r) (hk : ∀ k, k ∈ r.2.2 → H'.get k = H.get k) : newsA sz H' x = some r := by
 unfold newsA at h ⊢
 split at h
 ·exact h
 ·rename_i r0 lo m z
  split at h
  ·rename_i cs hcs
   split at h
   ·rename_i hc
    simp only [Option.some.injEq] at h
    subst h
    simp only [hk r0 (by simp), hcs, if_pos hc]
   ·cases h
  ·cases h
 ·cases h
theorem aAppAr_congr {P : Program} {e : TypeId} {sz by_ r n : Nat} {x z : AV} {H H' : Heap} {us : List U} {rs : List Nat} {id : Nat} (h : aAppAr P e sz by_ r n x H id = some (z, us, rs)) (hk : ∀ k, k ∈ rs ++ us.map U.key → H'.get k = H.get k) :
  aAppAr P e sz by_ r n x H' id = some (z, us, rs) := by
 unfold aAppAr at h ⊢
 split at h
 ·rename_i ns m rs0 cs hnw hcs
  split at h
  ·rename_i hc
   split at h
   ·rename_i hin
    simp only [Option.some.injEq, Prod.mk.injEq] at h
    obtain ⟨rfl, rfl, rfl⟩ := h
    rw [newsA_congr hnw (fun k hkk => hk k (by simp at hkk ⊢; simp [hkk])), hk r (by simp), hcs]
    simp only [if_pos hc, if_pos hin]
   ·rename_i hin
    simp only [Option.some.injEq, Prod.mk.injEq] at h
    obtain ⟨rfl, rfl, rfl⟩ := h
    rw [newsA_congr hnw (fun k hkk => hk k (by simp at hkk ⊢; simp [hkk])), hk r (by simp), hcs]
    simp only [if_pos hc, if_neg hin]
  ·rename_i hc
   split at h
   ·rename_i hm0
    simp only [Option.some.injEq, Prod.mk.injEq] at h
    obtain ⟨rfl, rfl, rfl⟩ := h
    rw [newsA_congr hnw (fun k hkk => hk k (by simp at hkk ⊢; simp [hkk])), hk r (by simp), hcs]
    simp only [if_neg hc, if_pos hm0]
   ·cases h
 ·cases h
theorem aAppend_congr {P : Program} {t : TypeId} {s x z : AV} {H H' : Heap} {us : List U} {rs : List Nat} {id : Nat} (h : aAppend P t s x H id = some (z, us, rs)) (hk : ∀ k, k ∈ rs → H'.isLive k = H.isLive k)
  (hg : ∀ k, k ∈ rs ++ us.map U.key → H'.get k = H.get k) : aAppend P t s x H' id = some (z, us, rs) := by
 unfold aAppend at h ⊢
 split at h
 ·rename_i e sz by_ r n z0 het
  try simp only [het]
  split at h
  ·rename_i hz0
   rw [if_pos hz0]
   exact aAppAr_congr h hg
  ·cases h
 ·rename_i e sz by_ o es ox xs het
  try simp only [het]
  split at h
  ·exact h
  ·rename_i x0 xs'
   split at h
   ·rename_i hc
    try simp only [if_pos hc]
    split at h
    ·exact h
    ·exact h
    ·rename_i k e' sz'
     split at h
     ·rename_i hl
      simp only [Option.some.injEq, Prod.mk.injEq] at h
      have := hk k (by rw [← h.2.2]; simp)
      rw [if_pos (by rw [this]; exact hl)]
      simp only [h.1, h.2.1, h.2.2]
     ·cases h
    ·cases h
   ·cases h
 ·cases h
theorem aClear_congr {P : Program} {t : TypeId} {x : AV} {H H' : Heap} {us : List U} (h : aClear P t x H = some us) (hk : ∀ k, k ∈ us.map U.key → H'.get k = H.get k) : aClear P t x H' = some us := by
 unfold aClear at h ⊢
 split at h
 ·rename_i e sz by_ r lo n z het
  try simp only [het]
  split at h
  ·rename_i cs zs hcs hzs
   split at h
   ·rename_i hc
    simp only [Option.some.injEq] at h
    subst h
    simp only [hk r (by simp [U.key]), hcs, hzs, if_pos hc]
   ·cases h
  ·cases h
 ·cases h
theorem aLookup_congr {P : Program} {t : TypeId} {m k z : AV} {ok : Bool} {H H' : Heap} {rs : List Nat} (h : aLookup P t m k ok H = some (z, rs)) (hk : ∀ i, i ∈ rs → H'.ho i = H.ho i) : aLookup P t m k ok H' = some (z, rs) := by
 unfold aLookup at h ⊢
 split at h
 ·rename_i d e r hty
  try simp only [hty]
  have hr : H'.getM r = H.getM r := by
   rw [Heap.getM, Heap.getM, hk r]
   split at h
   ·split at h
    ·split at h
     ·obtain ⟨v, _, hv⟩ := Option.map_eq_some_iff.1 h
      simp only [Prod.mk.injEq] at hv
      rw [← hv.2]; simp
     ·obtain ⟨v, _, hv⟩ := Option.map_eq_some_iff.1 h
      simp only [Prod.mk.injEq] at hv
      rw [← hv.2]; simp
     ·cases h
    ·cases h
   ·cases h
  rw [hr]; exact h
 ·cases h
theorem aMapSet_congr {P : Program} {t : TypeId} {m k v : AV} {H H' : Heap} {us : List U} (h : aMapSet P t m k v H = some us) (hk : ∀ u, u ∈ us → H'.ho u.key = H.ho u.key) : aMapSet P t m k v H' = some us := by
 unfold aMapSet at h ⊢
 split at h
 ·rename_i d e r hty
  try simp only [hty]
  have hr : H'.getM r = H.getM r := by
   rw [Heap.getM, Heap.getM]
   split at h
   ·split at h
    ·split at h
     ·simp only [Option.some.injEq] at h
      have := hk _ (by rw [← h]; exact List.mem_cons_self ..)
      simp only [U.key] at this; rw [this]
     ·simp only [Option.some.injEq] at h
      have := hk _ (by rw [← h]; exact List.mem_cons_self ..)
      simp only [U.key] at this; rw [this]
     ·cases h
    ·cases h
   ·cases h
  rw [hr]; exact h
 ·cases h
def Sr.keys : Sr → List Nat
 | .val _ us rs => rs ++ us.map U.key
 | _ => []
theorem astep_heap {P : Program} {ρ : Operand → AV} {H H' : Heap} {id : Nat} {op : Op} {r : Sr} (h : astep P ρ H id op = some r) (hk : ∀ k, k ∈ r.keys → obs H' k = obs H k) : astep P ρ H' id op = some r := by
 have ho : ∀ k, k ∈ r.keys → H'.ho k = H.ho k := fun k hkk => by have := hk k hkk; simp only [obs, Prod.mk.injEq] at this; exact this.1
 have hg : ∀ k, k ∈ r.keys → H'.get k = H.get k := fun k hkk => by rw [Heap.get, Heap.get, ho k hkk]
 have hl : ∀ k, k ∈ r.keys → H'.isLive k = H.isLive k := fun k hkk => by have := hk k hkk; simp only [obs, Prod.mk.injEq] at this; exact this.2
 cases op <;> simp only [astep] at h ⊢ <;> try exact h
 case load t x =>
  cases hb : aLoad P t (ρ x) H with
  | none => simp [hb] at h
  | some p =>
   obtain ⟨v, rs⟩ := p
   simp [hb] at h
   subst h
   rw [aLoad_congr hb (fun k hkk => hg k (by simp [Sr.keys, hkk]))]
   rfl
 case store t x v =>
  cases hb : aStore P t (ρ x) (ρ v) H with
  | none => simp [hb] at h
  | some us =>
   simp [hb] at h
   subst h
   rw [aStore_congr hb (fun u hu => hg u.key (by simp [Sr.keys]; exact ⟨u, hu, rfl⟩))]
   rfl
 case makeMap t n => cases n <;> simp only [astep] at h ⊢ <;> exact h
 case insert t m k v =>
  cases hb : aMapSet P t (ρ m) (ρ k) (ρ v) H with
  | none => simp [hb] at h
  | some us =>
   simp [hb] at h
   subst h
   rw [aMapSet_congr hb (fun u hu => ho u.key (by simp [Sr.keys]; exact ⟨u, hu, rfl⟩))]
   rfl
 case mapUpdate t m k v =>
  cases hb : aMapSet P t (ρ m) (ρ k) (ρ v) H with
  | none => simp [hb] at h
  | some us =>
   simp [hb] at h
   subst h
   rw [aMapSet_congr hb (fun u hu => ho u.key (by simp [Sr.keys]; exact ⟨u, hu, rfl⟩))]
   rfl
 case lookup t m k ok =>
  cases hb : aLookup P t (ρ m) (ρ k) ok H with
  | none => simp [hb] at h
  | some p =>
   obtain ⟨v, rs⟩ := p
   simp [hb] at h
   subst h
   rw [aLookup_congr hb (fun k hkk => ho k (by simp [Sr.keys, hkk]))]
   rfl
 case call c =>
  obtain ⟨callee, args, argTypes⟩ := c
  cases callee <;> (try simp only [astep] at h ⊢) <;> (try exact h)
  rename_i b
  cases b <;> (try simp only [astep] at h ⊢) <;> (try exact h)
  case clear =>
   split at h
   ·rename_i s t hargs hts
    try simp only [hargs, hts]
    cases hb : aClear P t (ρ s) H with
    | none => simp [hb] at h
    | some us =>
     simp [hb] at h
     subst h
     rw [aClear_congr hb (fun k hkk => hg k (by simpa [Sr.keys] using hkk))]
     rfl
   ·cases h
  split at h
  ·rename_i s x t t' hargs hts
   try simp only [hargs, hts]
   split at h
   ·rename_i htt
    try rw [if_pos htt]
    cases hb : aAppend P t (ρ s) (ρ x) H id with
    | none => simp [hb] at h
    | some p =>
     obtain ⟨v, us, rs⟩ := p
     simp [hb] at h
     subst h
     rw [aAppend_congr hb (fun k hkk => hl k (by simp [Sr.keys, hkk])) (fun k hkk => hg k (by simpa [Sr.keys] using hkk))]
     rfl
   ·cases h
  ·cases h
theorem aWanted_congr {ops : Array Oper} {e e' : List AV} {o : Oper} (h : ∀ d, d ∈ o.looksAt ops → gget .bad e' d = gget .bad e d) : aWanted ops e' o = aWanted ops e o := by
 unfold aWanted
 cases hg : o.guard with
 | none => rfl
 | some p =>
  obtain ⟨j, want⟩ := p
  simp only
  cases hd : (ops[j]?).bind (·.dst) with
  | none => rfl
  | some d => simp only; rw [h d (by simp [Oper.looksAt, hg, hd])]
theorem aeval_congr {ops : Array Oper} {e e' : List AV} {o : Oper} (h : ∀ d, d ∈ o.looksAt ops → gget .bad e' d = gget .bad e d) (x : Operand) (hx : x ∈ o.op.operands) : aeval e' x = aeval e x := by
 cases x with
 | tmp t =>
  refine h t ?_
  unfold Oper.looksAt
  exact List.mem_append_left _ (List.mem_filterMap.2 ⟨.tmp t, by simpa using hx, rfl⟩)
 | _ => rfl
/-- What is known of operation number i. -/
def Spec (P : Program) (K : Calling) (imp : FuncId → Bool) (ops : Array Oper) (base : Nat) (o : Oper) (i : Nat) (L : List AV) (G : Heap) (pk : Option (Nat × AV × Heap)) : Tr → Prop
 | .dead => ∃ k x, pk = some (k, x) ∧ anc ops k i = true
 | .pan => ∃ v Hp, pk = some (i, v, Hp) ∧ aWanted ops L o = some true ∧
   ((astepD P (imp hoF) (aeval L) G (base + i) o.op = some (.pan v) ∧ Hp = G) ∨ ∃ f args, astepD P (imp hoF) (aeval L) G (base + i) o.op = some (.call f args) ∧ imp f = true ∧ K f args G = some (.pan v Hp))
 | .val v us rs => (aWanted ops L o = some false ∧ v = .tup [] ∧ us = [] ∧ rs = []) ∨ (aWanted ops L o = some true ∧ (astepD P (imp hoF) (aeval L) G (base + i) o.op = some (.val v us rs) ∨
   ∃ f args H', astepD P (imp hoF) (aeval L) G (base + i) o.op = some (.call f args) ∧ imp f = false ∧ K f args G = some (.ret v H') ∧ us = [] ∧ rs = []))
 | .call v Hb Ha => aWanted ops L o = some true ∧ Hb = G ∧ ∃ f args, astepD P (imp hoF) (aeval L) G (base + i) o.op = some (.call f args) ∧ imp f = true ∧ K f args G = some (.ret v Ha)
theorem runTr_spec {P : Program} {K : Calling} {imp : FuncId → Bool} {ops : Array Oper} {base : Nat} {op : Nat → Oper} {t : Nat → Tr} {e0 : List AV} {H0 : Heap} (hop : ∀ j o, ops[j]? = some o → op j = o) :
  ∀ (os : List Oper) (i : Nat) (pk : Option (Nat × AV × Heap)) (e : List AV) (H : Heap) (tr : List Tr) (pk' : Option (Nat × AV × Heap)) (e' : List AV) (H' : Heap),
  runTr P K imp ops base os i pk e H = some (tr, pk', e', H') → os = ops.toList.drop i → (∀ j, j < os.length → t (i + j) = tr.getD j .dead) → e = eAt op t full e0 i → H = hAt t full H0 i →
  (∀ k x, pk = some (k, x) → k < i) →
  (∀ j, i ≤ j → j < i + os.length → Spec P K imp ops base (op j) j (eAt op t full e0 j) (hAt t full H0 j) pk' (t j) ∧ (∀ k x, pk' = some (k, x) → k < j → loud (t j) = false)) ∧
   e' = eAt op t full e0 (i + os.length) ∧ H' = hAt t full H0 (i + os.length) ∧ (∀ x, pk = some x → pk' = some x) ∧
   (∀ k x, pk' = some (k, x) → pk = some (k, x) ∨ (i ≤ k ∧ k < i + os.length ∧ t k = .pan)) := by
 intro os
 induction os with
 | nil =>
  intro i pk e H tr pk' e' H' h _ _ he hH _
  simp only [runTr, Option.some.injEq, Prod.mk.injEq] at h
  obtain ⟨rfl, rfl, rfl, rfl⟩ := h
  exact ⟨fun j h1 h2 => absurd h2 (by simp; omega), by simpa using he, by simpa using hH, fun x h => h, fun k x h => .inl h⟩
 | cons o os ih =>
  intro i pk e H tr pk' e' H' h hos ht he hH hpk
  have hoi : op i = o := by
   refine hop i o ?_
   have : (ops.toList.drop i)[0]? = some o := by rw [← hos]; rfl
   simpa using this
  have hos' : os = ops.toList.drop (i + 1) := by
   have : (o :: os).tail = (ops.toList.drop i).tail := by rw [hos]
   simpa using this
  have hlen : (o :: os).length = os.length + 1 := rfl
  -- one step, then the rest
  have go : ∀ (t0 : Tr) (pk1 : Option (Nat × AV × Heap)) (tr1 : List Tr), runTr P K imp ops base os (i + 1) pk1 (putT o t0 e) (appT t0 H) = some (tr1, pk', e', H') → tr = t0 :: tr1 →
    (∀ k x, pk1 = some (k, x) → k < i + 1) → (∀ x, pk = some x → pk1 = some x) → (∀ k x, pk1 = some (k, x) → pk = some (k, x) ∨ (k = i ∧ t0 = .pan)) →
    ((∀ x, pk1 = some x → pk' = some x) → (∀ k x, pk' = some (k, x) → k < i → pk = some (k, x)) → Spec P K imp ops base o i e H pk' t0 ∧ (∀ k x, pk' = some (k, x) → k < i → loud t0 = false)) →
    (∀ j, i ≤ j → j < i + (o :: os).length → Spec P K imp ops base (op j) j (eAt op t full e0 j) (hAt t full H0 j) pk' (t j) ∧ (∀ k x, pk' = some (k, x) → k < j → loud (t j) = false)) ∧
     e' = eAt op t full e0 (i + (o :: os).length) ∧ H' = hAt t full H0 (i + (o :: os).length) ∧ (∀ x, pk = some x → pk' = some x) ∧
     (∀ k x, pk' = some (k, x) → pk = some (k, x) ∨ (i ≤ k ∧ k < i + (o :: os).length ∧ t k = .pan)) := by
   intro t0 pk1 tr1 hrun htr hp1 hp2 hp3 hspec
   have hti : t i = t0 := by have := ht 0 (by simp); rw [htr] at this; simpa using this
   have h1 : putT o t0 e = eAt op t full e0 (i + 1) := by
    simp only [eAt]
    rw [if_pos (full_eq i), hti, hoi, ← he]
   have h2 : appT t0 H = hAt t full H0 (i + 1) := by
    simp only [hAt]
    rw [if_pos (full_eq i), hti, ← hH]
   obtain ⟨q1, q2, q3, q4, q5⟩ := ih (i + 1) pk1 _ _ tr1 pk' e' H' hrun hos' (fun j hj => by
    have := ht (j + 1) (by simp; omega)
    rw [htr] at this
    rw [show i + 1 + j = i + (j + 1) by omega, this]
    simp) h1 h2 hp1
   obtain ⟨s1, s2⟩ := hspec q4 (fun k x hx hk => by
    rcases q5 k x hx with h3 | ⟨h3, _⟩
    ·rcases hp3 k x h3 with h4 | ⟨h4, _⟩
     ·exact h4
     ·omega
    ·omega)
   refine ⟨?_, by rw [hlen, q2]; congr 1; omega, by rw [hlen, q3]; congr 1; omega, fun x hx => q4 x (hp2 x hx), ?_⟩
   ·intro j hj1 hj2
    by_cases hji : j = i
    ·subst hji
     rw [hti, hoi, ← he, ← hH]
     exact ⟨s1, s2⟩
    ·exact q1 j (by omega) (by rw [hlen] at hj2; omega)
   ·intro k x hx
    rcases q5 k x hx with h3 | ⟨h3, h4, h5⟩
    ·rcases hp3 k x h3 with h4 | ⟨h4, h5⟩
     ·exact .inl h4
     ·exact .inr ⟨by omega, by rw [hlen]; omega, by rw [h4, hti, h5]⟩
    ·exact .inr ⟨by omega, by rw [hlen]; omega, h5⟩
  simp only [runTr] at h
  -- an operation that leaves 'pk' alone
  have stay : ∀ (t0 : Tr) (tr1 : List Tr), runTr P K imp ops base os (i + 1) pk (putT o t0 e) (appT t0 H) = some (tr1, pk', e', H') → tr = t0 :: tr1 → (pk.isSome = true → loud t0 = false) →
    ((∀ x, pk = some x → pk' = some x) → Spec P K imp ops base o i e H pk' t0) → _ :=
   fun t0 tr1 hrun htr hld hsp => go t0 pk tr1 hrun htr (fun k x hx => Nat.lt_succ_of_lt (hpk k x hx)) (fun x hx => hx) (fun k x hx => .inl hx)
    (fun q4 q5 => ⟨hsp q4, fun k x hx hk => hld (by rw [q5 k x hx hk]; rfl)⟩)
  -- one that panics
  have stop : ∀ (v : AV) (Hp : Heap) (tr1 : List Tr), pk = none → runTr P K imp ops base os (i + 1) (some (i, v, Hp)) e H = some (tr1, pk', e', H') → tr = .pan :: tr1 →
    (pk' = some (i, v, Hp) → Spec P K imp ops base o i e H pk' .pan) → _ :=
   fun v Hp tr1 hn hrun htr hsp => go .pan (some (i, v, Hp)) tr1 hrun htr (fun k x hx => by simp at hx; omega) (fun x hx => by rw [hn] at hx; cases hx)
    (fun k x hx => by simp at hx; exact .inr ⟨hx.1.symm, rfl⟩) (fun q4 _ => ⟨hsp (q4 _ rfl), fun _ _ _ _ => rfl⟩)
  by_cases hdead : behind ops pk i = true
  ·-- dead
   rw [if_pos hdead] at h
   split at h
   ·rename_i tr1 r1 hrun
    simp only [Option.some.injEq, Prod.mk.injEq] at h
    obtain ⟨rfl, rfl⟩ := h
    refine stay .dead tr1 hrun rfl (fun _ => rfl) (fun q4 => ?_)
    cases hpk0 : pk with
    | none => rw [hpk0] at hdead; simp [behind] at hdead
    | some y =>
     obtain ⟨k, x⟩ := y
     rw [hpk0] at hdead
     exact ⟨k, x, q4 _ hpk0, hdead⟩
   ·cases h
  ·rw [if_neg hdead] at h
   cases hw : aWanted ops e o with
   | none => simp [hw] at h
   | some b =>
    simp only [hw] at h
    cases b with
    | false =>
     simp only at h
     split at h
     ·rename_i tr1 r1 hrun
      simp only [Option.some.injEq, Prod.mk.injEq] at h
      obtain ⟨rfl, rfl⟩ := h
      exact stay (.val (.tup []) [] []) tr1 hrun rfl (fun _ => rfl) (fun _ => .inl ⟨hw, rfl, rfl, rfl⟩)
     ·cases h
    | true =>
     simp only at h
     cases hst : astepD P (imp hoF) (aeval e) H (base + i) o.op with
     | none => simp [hst] at h
     | some r =>
      simp only [hst] at h
      cases r with
      | val v us rs =>
       simp only at h
       split at h
       ·cases h
       ·rename_i hnl
        split at h
        ·rename_i tr1 r1 hrun
         simp only [Option.some.injEq, Prod.mk.injEq] at h
         obtain ⟨rfl, rfl⟩ := h
         refine stay (.val v us rs) tr1 hrun rfl (fun hs => ?_) (fun _ => .inr ⟨hw, .inl hst⟩)
         simp only [loud, Bool.not_eq_false']
         cases hus : us.isEmpty with
         | true => rfl
         | false => exact absurd ⟨hs, hus⟩ hnl
        ·cases h
      | pan v =>
       simp only at h
       split at h
       ·cases h
       ·rename_i hnone
        have hn : pk = none := by cases hq : pk with | none => rfl | some y => rw [hq] at hnone; exact absurd rfl hnone
        split at h
        ·rename_i tr1 r1 hrun
         simp only [Option.some.injEq, Prod.mk.injEq] at h
         obtain ⟨rfl, rfl⟩ := h
         exact stop v H tr1 hn hrun rfl (fun hp => ⟨v, H, hp, hw, .inl ⟨hst, rfl⟩⟩)
        ·cases h
      | call f args =>
       simp only at h
       split at h
       ·rename_i himp
        split at h
        ·cases h
        ·rename_i hnone
         have hn : pk = none := by cases hq : pk with | none => rfl | some y => rw [hq] at hnone; exact absurd rfl hnone
         cases hc : K f args H with
         | none => simp [hc] at h
         | some c =>
          simp only [hc] at h
          cases c with
          | ret v H1 =>
           simp only at h
           split at h
           ·rename_i tr1 r1 hrun
            simp only [Option.some.injEq, Prod.mk.injEq] at h
            obtain ⟨rfl, rfl⟩ := h
            exact stay (.call v H H1) tr1 hrun rfl (fun hs => by rw [hn] at hs; cases hs) (fun _ => ⟨hw, rfl, f, args, hst, himp, hc⟩)
           ·cases h
          | pan v H1 =>
           simp only at h
           split at h
           ·rename_i tr1 r1 hrun
            simp only [Option.some.injEq, Prod.mk.injEq] at h
            obtain ⟨rfl, rfl⟩ := h
            exact stop v H1 tr1 hn hrun rfl (fun hp => ⟨v, H1, hp, hw, .inr ⟨f, args, hst, himp, hc⟩⟩)
           ·cases h
       ·rename_i himp
        have himp' : imp f = false := by simpa using himp
        split at h
        ·rename_i v H1 hc
         split at h
         ·rename_i tr1 r1 hrun
          simp only [Option.some.injEq, Prod.mk.injEq] at h
          obtain ⟨rfl, rfl⟩ := h
          exact stay (.val v [] []) tr1 hrun rfl (fun _ => rfl) (fun _ => .inr ⟨hw, .inr ⟨f, args, H1, hst, himp', hc, rfl, rfl⟩⟩)
         ·cases h
        ·cases h
end Go.Proofs.YtnoahchdmkpleaaGreat.VA

/-! Vb6 -/
namespace Go.Proofs.YtnoahchdmkpleaaGreat.VA
open Go Go.RowKit
set_option linter.unusedSimpArgs false

theorem astep_quiet {P : Program} {ρ : Operand → AV} {H : Heap} {id : Nat} {o : Oper} {r : Sr} (ht : touchy o = false) (h : astep P ρ H id o.op = some r) : ∃ v, r = .val v [] [] := by
 obtain ⟨dst, op, type, pos, after, guard⟩ := o
 have pure : ∀ {x : Option AV}, x.map (fun v => Sr.val v [] []) = some r → ∃ v, r = .val v [] [] := by
  intro x hx
  cases x with
  | none => cases hx
  | some v => simp at hx; exact ⟨v, hx.symm⟩
 cases op <;> simp only [touchy, Bool.true_eq_false] at ht <;> simp only [astep] at h <;> try exact pure h
 case makeMap t n =>
  cases n with
  | none => simp [touchy] at ht
  | some n => simp only [astep] at h; exact pure h
 case call c =>
  obtain ⟨callee, args, argTypes⟩ := c
  cases callee <;> (try simp only [touchy, Bool.true_eq_false] at ht) <;> (try exact pure h)
  rename_i b
  cases b <;> (try simp only [touchy, Bool.true_eq_false] at ht) <;> exact pure h
theorem mem_unord {ops : Array Oper} {i j : Nat} (hij : i < j) (hj : j < ops.size) (hi : touchy (ops.getD i default) = true) (hjt : touchy (ops.getD j default) = true) (ha : anc ops i j = false) : (i, j) ∈ unord ops := by
 unfold unord
 simp only [List.mem_flatMap, List.mem_filter, List.mem_range, List.mem_map, Bool.and_eq_true, decide_eq_true_eq, Bool.not_eq_true']
 exact ⟨j, ⟨hj, hjt⟩, i, ⟨⟨by omega, hi⟩, hij, ha⟩, rfl⟩
def isVal : Tr → Bool
 | .val _ _ _ | .call _ _ _ => true
 | _ => false
theorem drawOk_spec {ops : Array Oper} (h : drawOk ops = true) : (∀ j, j < ops.size → ∀ e, e ∈ (ops.getD j default).after → Region.binds .any e = true → e.on < j) ∧
  (∀ i j, i < j → j < ops.size → anc ops i j = true ∨ (ops.getD i default).apart ops (ops.getD j default) = true) := by
 simp only [drawOk, List.all_eq_true, List.mem_range, Bool.and_eq_true, Bool.or_eq_true] at h
 constructor
 ·intro j hj e he hb
  have := (h j hj).1
  rw [Array.all_eq_true_iff_forall_mem] at this
  have := this e he
  simp [hb] at this
  exact this
 ·intro i j hij hj
  exact (h j hj).2 i hij
theorem getD_of {ops : Array Oper} {i : Nat} {o : Oper} (h : ops[i]? = some o) : ops.getD i default = o := by simp [h]
theorem of_lt {ops : Array Oper} {i : Nat} (h : i < ops.size) : ops[i]? = some (ops.getD i default) := by simp [h]
theorem astepH_cases {P : Program} {ρ : Operand → AV} {H : Heap} {id : Nat} {op : Op} {r : Sr} (h : astepH P ρ H id op = some r) :
  astep P ρ H id op = some r ∧ (∀ t, op ≠ .alloc t) ∨ ∃ t z, op = .alloc t ∧ tZero P t = some z ∧ H.get id = some z ∧ r = .val (.ptr id 0) [] [id] := by
 unfold astepH at h
 split at h
 ·rename_i t
  right
  split at h
  ·rename_i z cs hz hcs
   split at h
   ·rename_i he
    simp only [Option.some.injEq] at h
    exact ⟨t, z, rfl, hz, by rw [hcs, eqL_sound _ _ he], h.symm⟩
   ·cases h
  ·cases h
 ·rename_i hne
  exact .inl ⟨h, fun t ht => hne t ht⟩
theorem astepD_quiet {P : Program} {ho : Bool} {ρ : Operand → AV} {H : Heap} {id : Nat} {o : Oper} {r : Sr} (ht : touchy o = false) (h : astepD P ho ρ H id o.op = some r) : ∃ v, r = .val v [] [] := by
 cases ho with
 | false => exact astep_quiet ht h
 | true =>
  rcases astepH_cases h with ⟨h, _⟩ | ⟨t, z, h, _⟩
  ·exact astep_quiet ht h
  ·unfold touchy at ht; rw [h] at ht; cases ht
theorem astepD_congr {P : Program} {ho : Bool} {ρ ρ' : Operand → AV} {H : Heap} {id : Nat} {op : Op} (h : ∀ x, x ∈ op.operands → ρ x = ρ' x) : astepD P ho ρ H id op = astepD P ho ρ' H id op := by
 have h1 := astep_congr (P := P) (H := H) (id := id) h
 cases ho with
 | false => exact h1
 | true =>
  simp only [astepD]
  unfold astepH
  split
  ·rfl
  ·exact h1
theorem astepD_heap {P : Program} {ho : Bool} {ρ : Operand → AV} {H H' : Heap} {id : Nat} {op : Op} {r : Sr} (h : astepD P ho ρ H id op = some r) (hk : ∀ k, k ∈ r.keys → obs H' k = obs H k) : astepD P ho ρ H' id op = some r := by
 cases ho with
 | false => exact astep_heap h hk
 | true =>
  rcases astepH_cases h with ⟨h1, h2⟩ | ⟨t, z, h1, h2, h3, h4⟩
  ·have := astep_heap h1 hk
   simp only [astepD]
   unfold astepH
   split
   ·rename_i t; exact absurd rfl (h2 t)
   ·exact this
  ·subst h1
   subst h4
   have hg : H'.get id = H.get id := by
    have := hk id (by simp [Sr.keys])
    simp only [obs, Prod.mk.injEq] at this
    rw [Heap.get, Heap.get, this.1]
   have hh : astepH P ρ H id (.alloc t) = some (.val (.ptr id 0) [] [id]) := h
   simp only [astepD, astepH] at hh ⊢
   rw [hg]
   exact hh
theorem oper_soundD {P : Program} {C : Cond} {K : Calling} {imp : FuncId → Bool} (hK : KOk P C K imp) {ho : Bool} {e : List AV} {H : Heap} {g : Gh} {a : Act} {w : World} {o : Oper} {id N : Nat} {r : Sr}
  (h : astepD P ho (aeval e) H id o.op = some r) (hC : g.cond = C) (hi : Inv g H w) (he : EnvRel g w e a.tmps) (ht : Top g H.next) (hf : Fresh g H id) (hN : N ≤ H.next) (hid : N ≤ id) (hidt : id < H.next)
  (hd : ∀ d, o.dst = some d → d < a.tmps.size) {next : Act → World → Prop} {Q : Exit → Act → World → Prop}
  (hval : ∀ v us rs, r = .val v us rs → ∀ g' u w', Past N g w g' (appU H us) w' → (∀ k, k ≠ id → g'.box k = g.box k ∧ g'.own k = g.own k) → EnvRel g' w' (aput e o.dst v) (a.put o.dst u).tmps → next (a.put o.dst u) w')
  (hcall : ∀ f args, r = .call f args → ∃ c, K f args H = some c ∧
   (∀ v H', c = .ret v H' → ∀ g' u w', Past H.next g w g' H' w' → EnvRel g' w' (aput e o.dst v) (a.put o.dst u).tmps → next (a.put o.dst u) w') ∧
   (∀ v H', c = .pan v H' → ∀ g' u w', Past H.next g w g' H' w' → Rel g' w' v u → Q (.panic (oneEntry u)) a w'))
  (hpan : ∀ v, r = .pan v → ∀ u, Rel g w v u → Q (.panic (oneEntry u)) a w) : o.wp P a w next Q := by
 cases ho with
 | false => exact oper_sound hK h hC hi he ht hf hN hid hidt hd hval hcall hpan
 | true =>
  rcases astepH_cases h with ⟨h1, h2⟩ | ⟨t, z, h1, h2, h3, h4⟩
  ·exact oper_sound hK h1 hC hi he ht hf hN hid hidt hd hval hcall hpan
  ·subst h4
   have h5 : astep P (aeval e) H id o.op = some (.val (.ptr id 0) [.box id z] []) := by rw [h1]; simp only [astep, h2]
   refine oper_sound hK h5 hC hi he ht hf hN hid hidt hd ?_ (fun f args h => by cases h) (fun v h => by cases h)
   intro v us rs hv g' u w' hp hk hen
   simp only [Sr.val.injEq] at hv
   obtain ⟨rfl, rfl, rfl⟩ := hv
   have hho : H.ho id = some (.bx z) := HO.cells_some.1 h3
   have hg : ∀ r, H.ho r = (appU H [.box id z]).ho r := fun r => by
    show _ = (H.put id z).ho r
    simp only [Heap.put, Heap.ho_set]
    split
    ·rename_i hr; rw [← hr, hho]
    ·rfl
   exact hval (.ptr id 0) [] [id] rfl g' u w' ⟨hp.ext, hp.inv.next hg (fun _ => rfl), hp.top, hp.new, hp.next⟩ hk hen
/-- Variables may be named ahead. -/
theorem inv_unborn {g : Gh} {H : Heap} {w : World} (hi : Inv g H w) {r : Nat} (hr : g.box r = none) (cs : List AV) : Inv g (H.put r cs) w := by
 have lv : ∀ {i b}, ((H.put r cs).ho i).isSome = true → g.box i = some b → (H.ho i).isSome = true := fun {i b} h hb => by
  rcases Heap.live_set h with rfl | h
  ·rw [hr] at hb; cases hb
  ·exact h
 have gt : ∀ {i b} {ds : List AV}, (H.put r cs).get i = some ds → g.box i = some b → H.get i = some ds := fun {i b ds} h hb => by
  rw [Heap.get_put] at h
  split at h
  ·rename_i hri; subst hri; rw [hr] at hb; cases hb
  ·exact h
 refine ⟨hi.lo, hi.fresh, hi.boxS, fun i b h hb => hi.boxB i b (lv h hb) hb, fun i j b h k h1 h2 => hi.boxI i j b (lv h h1) (lv k h2) h1 h2, fun i ds b h hb => hi.box i ds b (gt h hb) hb, ?_, hi.liveI, fun i ks vs h => hi.map i ks vs (getM_of_put h), ?_, hi.cond⟩
 ·intro s hs
  obtain ⟨b, m, cap, e, sz, us, h1, h2, h3, h4, h5, h6, h7, h8⟩ := hi.live s hs
  exact ⟨b, m, cap, e, sz, us, h1, h2, h3, h4, h5, h6, h7, fun i hl hb => h8 i (lv hl hb) hb⟩
 ·intro i b n cap e sz h h1 h2
  refine hi.arr i b n cap e sz ?_ h1 h2
  rw [Heap.get_put] at h
  split at h
  ·rename_i hri; subst hri; rw [hr] at h1; cases h1
  ·exact h
theorem hoH_ok {P : Program} {g : Gh} {w : World} {base : Nat} : ∀ (os : List Oper) (i : Nat) (H : Heap), Inv g H w → (∀ j, g.box (base + j) = none) → Inv g (hoH P base os i H) w ∧ (hoH P base os i H).next = H.next := by
 intro os
 induction os with
 | nil => intro i H hi _; exact ⟨hi, rfl⟩
 | cons o os ih =>
  intro i H hi hb
  unfold hoH
  split
  ·split
   ·exact ih (i + 1) _ (inv_unborn hi (hb i) _) hb
   ·exact ih (i + 1) _ hi hb
  ·exact ih (i + 1) _ hi hb
theorem startH_ok {P : Program} {imp : FuncId → Bool} {ops : Array Oper} {g : Gh} {H : Heap} {w : World} (hi : Inv g { H with next := H.next + ops.size } w) (hb : ∀ j, g.box (H.next + j) = none) :
  Inv g (startH P imp ops H) w ∧ (startH P imp ops H).next = H.next + ops.size := by
 unfold startH
 cases imp hoF with
 | false => exact ⟨hi, rfl⟩
 | true => exact hoH_ok _ _ _ hi hb
set_option maxHeartbeats 2000000 in
theorem draw_sound {P : Program} {C : Cond} {K : Calling} {imp : FuncId → Bool} (hK : KOk P C K imp) (hm : P.follows .mixedOrders = true) {ops : Array Oper} {n rid : Nat} (hd : drawOk ops = true) (hds : ∀ o, o ∈ ops.toList → dstOk n o = true)
  {e e' : List AV} {H H2 : Heap} {tr : List Tr} {pk : Option (Nat × AV × Heap)} (hrun : runTr P K imp ops H.next ops.toList 0 none e (startH P imp ops H) = some (tr, pk, e', H2)) (hok : TrOk ops tr)
  {g : Gh} {a : Act} {w : World} (hC : g.cond = C) (hi : Inv g H w) (he : EnvRel g w e a.tmps) (hn : a.tmps.size = n) (htop : Top g H.next) (Q : Exit → Act → World → Prop)
  (hQn : pk = none → ∀ g' a' w', Past H.next g w g' H2 w' → KeptL ops.toList a a' → a'.tmps.size = n → EnvRel g' w' e' a'.tmps → Q .normal a' w')
  (hQp : ∀ k v Hp, pk = some (k, v, Hp) → ∀ g' a' w' u, Past H.next g w g' Hp w' → KeptL ops.toList a a' → a'.tmps.size = n → Rel g' w' v u → Q (.panic (oneEntry u)) a' w') :
  (Code.region rid ops true).wp P Q a w := by
 obtain ⟨hback, hslot⟩ := drawOk_spec hd
 obtain ⟨hdx, hdi0⟩ := hi.drew
 obtain ⟨hdi, hnx0⟩ := startH_ok (P := P) (imp := imp) (ops := ops) (g := g) (H := H) (w := w.drew) (hdi0.next (fun _ => rfl) (fun _ => rfl)) (fun j => (htop (H.next + j) (by omega)).1)
 generalize hbase : H.next = base at *
 generalize hH0 : startH P imp ops H = H0 at *
 let op : Nat → Oper := fun j => ops.getD j default
 let t : Nat → Tr := fun j => tr.getD j .dead
 have hop : ∀ j o, ops[j]? = some o → op j = o := fun j o h => getD_of h
 obtain ⟨hspec, hE, hHH, _, hpk⟩ := runTr_spec (P := P) (K := K) (imp := imp) (ops := ops) (base := base) (op := op) (t := t) (e0 := e) (H0 := H0) hop ops.toList 0 none e H0 tr pk e' H2 hrun (by simp) (fun j _ => by rw [Nat.zero_add]) rfl rfl (fun k x h => by cases h)
 simp only [Nat.zero_le, true_implies, Nat.zero_add, Array.length_toList] at hspec hE hHH hpk
 -- whoever waits for nobody lets alone
 have hquiet : ∀ i, i < ops.size → touchy (op i) = false → (∃ v, t i = .val v [] []) ∨ t i = .dead := by
  intro i hil ht
  have hs := (hspec i hil).1
  generalize t i = ti at hs
  cases ti with
  | dead => exact .inr rfl
  | pan =>
   obtain ⟨v, Hp, _, _, h | ⟨f, args, h, _⟩⟩ := hs
   ·obtain ⟨v', hv⟩ := astepD_quiet ht h.1; cases hv
   ·obtain ⟨v', hv⟩ := astepD_quiet ht h; cases hv
  | val v us rs =>
   left
   rcases hs with ⟨_, _, rfl, rfl⟩ | ⟨_, h | ⟨f, args, H', _, _, _, rfl, rfl⟩⟩
   ·exact ⟨v, rfl⟩
   ·obtain ⟨v', hv⟩ := astepD_quiet ht h
    simp only [Sr.val.injEq] at hv
    obtain ⟨rfl, rfl, rfl⟩ := hv
    exact ⟨v, rfl⟩
   ·exact ⟨v, rfl⟩
  | call v Hb Ha =>
   obtain ⟨_, _, f, args, h, _⟩ := hs
   obtain ⟨v', hv⟩ := astepD_quiet ht h; cases hv
 have hNC : ∀ i j, i < j → j < ops.size → anc ops i j = false → NoConf (t i) (t j) := by
  intro i j hij hj ha
  have q1 : ∀ (x : Tr) (v : AV), NoConf (.val v [] []) x := by intro x v; cases x <;> simp [NoConf]
  have q2 : ∀ (x : Tr) (v : AV), NoConf x (.val v [] []) := by intro x v; cases x <;> simp [NoConf]
  have q3 : ∀ (x : Tr), NoConf .dead x := by intro x; cases x <;> simp [NoConf]
  have q4 : ∀ (x : Tr), NoConf x .dead := by intro x; cases x <;> simp [NoConf]
  cases h1 : touchy (op i) with
  | false =>
   rcases hquiet i (by omega) h1 with ⟨v, h⟩ | h
   ·rw [h]; exact q1 _ _
   ·rw [h]; exact q3 _
  | true =>
   cases h2 : touchy (op j) with
   | false =>
    rcases hquiet j hj h2 with ⟨v, h⟩ | h
    ·rw [h]; exact q2 _ _
    ·rw [h]; exact q4 _
   | true => exact hok (i, j) (mem_unord hij hj h1 h2 ha)
 have hHb : ∀ i v Hb Ha, i < ops.size → t i = .call v Hb Ha → Hb = hAt t full H0 i := by
  intro i v Hb Ha hil hti
  have hs := (hspec i hil).1
  rw [hti] at hs
  exact hs.2.1
 have hpan : ∀ k x, pk = some (k, x) → k < ops.size ∧ t k = .pan := by
  intro k x hx
  rcases hpk k x hx with h | ⟨_, h2, h3⟩
  ·cases h
  ·exact ⟨h2, h3⟩
 refine wp_region_any hm ?_
 have main : ∀ (fuel : Nat) (listed : Array Bool) (a1 : Act) (w1 : World) (S : Nat → Bool), listed.size = ops.size → (∀ j, S j = listed.getD j false) → Shut ops S → (∀ j, S j = true → isVal (t j) = true) →
   ((List.range ops.size).filter fun j => !S j).length ≤ fuel →
   (∃ g1, Past base g w g1 (hAt t S H0 ops.size) w1 ∧ EnvRel g1 w1 (eAt op t S e ops.size) a1.tmps ∧ (∀ j, j < ops.size → S j = false → Fresh g1 (hAt t S H0 ops.size) (base + j)) ∧ base + ops.size ≤ (hAt t S H0 ops.size).next) →
   a1.tmps.size = n → KeptL ops.toList a a1 → wpAny P .any ops Q fuel listed a1 w1 := by
  intro fuel
  induction fuel with
  | zero =>
   intro listed a1 w1 S hsz hS hshut hval hcnt hst hn1 hd1
   have hall : ∀ j, j < ops.size → S j = true := by
    intro j hj
    cases hSj : S j with
    | true => rfl
    | false =>
     exfalso
     have : j ∈ (List.range ops.size).filter fun j => !S j := by simp [hj, hSj]
     have := List.length_pos_of_mem this
     omega
   have hnone : pk = none := by
    cases hp : pk with
    | none => rfl
    | some kx =>
     exfalso
     obtain ⟨h1, h2⟩ := hpan kx.1 kx.2 hp
     have := hval kx.1 (hall kx.1 h1)
     rw [h2] at this; cases this
   have hr : Region.ready .any ops listed = [] := by
    rw [List.eq_nil_iff_forall_not_mem]
    intro j hj
    obtain ⟨h0, o, ho, _⟩ := mem_ready.1 hj
    have hlt := (Array.getElem?_eq_some_iff.1 ho).1
    have := hall j hlt
    rw [hS] at this
    simp only [Array.getD_eq_getD_getElem?] at this h0
    rw [Array.getElem?_eq_getElem (by omega)] at this h0
    simp at this h0
    rw [this] at h0; cases h0
   refine wpAny_done hr ?_ 0
   obtain ⟨g1, hp, hen, _, _⟩ := hst
   rw [eAt_all ops.size hall, ← hE] at hen
   rw [hAt_eq (S' := full) ops.size (fun j hj _ => by rw [hall j hj]; rfl), ← hHH] at hp
   exact hQn hnone g1 a1 w1 hp hd1 hn1 hen
  | succ fuel ih =>
   intro listed a1 w1 S hsz hS hshut hval hcnt hst hn1 hd1
   by_cases hr : Region.ready .any ops listed = []
   ·-- nothing is left
    have hall : ∀ j, j < ops.size → S j = true := by
     intro j
     induction j using Nat.strongRecOn with
     | _ j ihj =>
      intro hj
      cases hSj : S j with
      | true => rfl
      | false =>
       exfalso
       have : j ∈ Region.ready .any ops listed := by
        refine mem_ready.2 ⟨?_, op j, of_lt hj, fun ed hed hb => ?_⟩
        ·rw [hS] at hSj
         simp only [Array.getD_eq_getD_getElem?] at hSj ⊢
         rw [Array.getElem?_eq_getElem (by omega)] at hSj ⊢
         simpa using hSj
        ·have hlt := hback j hj ed hed hb
         rw [← hS]
         exact ihj ed.on hlt (by omega)
       rw [hr] at this; cases this
    have hnone : pk = none := by
     cases hp : pk with
     | none => rfl
     | some kx =>
      exfalso
      obtain ⟨h1, h2⟩ := hpan kx.1 kx.2 hp
      have := hval kx.1 (hall kx.1 h1)
      rw [h2] at this; cases this
    refine wpAny_done hr ?_ (fuel + 1)
    obtain ⟨g1, hp, hen, _, _⟩ := hst
    rw [eAt_all ops.size hall, ← hE] at hen
    rw [hAt_eq (S' := full) ops.size (fun j hj _ => by rw [hall j hj]; rfl), ← hHH] at hp
    exact hQn hnone g1 a1 w1 hp hd1 hn1 hen
   ·refine ⟨fun h => absurd h hr, fun i hir => ?_⟩
    obtain ⟨g1, hp, hen, hfr, hnx⟩ := hst
    obtain ⟨hun, o, ho, hpre⟩ := mem_ready.1 hir
    have hil := (Array.getElem?_eq_some_iff.1 ho).1
    have hoi : op i = o := hop i o ho
    have hSi : S i = false := by
     rw [hS]
     simp only [Array.getD_eq_getD_getElem?] at hun ⊢
     rw [Array.getElem?_eq_getElem (by omega)] at hun ⊢
     simpa using hun
    have hpre' : ∀ ed, ed ∈ o.after → Region.binds .any ed = true → S ed.on = true := fun ed h1 h2 => by rw [hS]; exact hpre ed h1 h2
    have before : ∀ j, anc ops j i = true → S j = true := fun j h => anc_shut hshut ho hpre' h
    have later : ∀ j, j < ops.size → anc ops i j = true → S j = false := by
     intro j hj h
     cases hSj : S j with
     | false => rfl
     | true =>
      have := anc_shut hshut (of_lt hj) (hshut j _ (of_lt hj) hSj) h
      rw [hSi] at this; cases this
    have hcl : ∀ (S1 : Nat → Bool), Shut ops S1 → CL t S1 ops.size := by
     intro S1 hsh k v Hb Ha hk htk hSk j hj hld
     cases ha : anc ops j k with
     | true => exact anc_shut hsh (of_lt hk) (hsh k _ (of_lt hk) hSk) ha
     | false =>
      exfalso
      have := hNC j k hj hk ha
      rw [htk] at this
      cases htj : t j with
      | val v us rs =>
       rw [htj] at this hld
       obtain ⟨h, _⟩ := this
       subst h
       cases hld
      | call v Hb Ha => rw [htj] at this; exact this
      | pan => rw [htj] at hld; cases hld
      | dead => rw [htj] at hld; cases hld
    have hup : ∀ m, m ≤ ops.size → Shut ops (upTo m) := by
     intro m hm k o' ho' hk ed hed hb
     have hkl := (Array.getElem?_eq_some_iff.1 ho').1
     have hkm : k < m := by simpa [upTo] using hk
     have : op k = o' := hop k o' ho'
     exact upTo_lt (by have := hback k hkl ed (by rw [getD_of ho']; exact hed) hb; omega)
    have hlook : ∀ d, d ∈ o.looksAt ops → gget .bad (eAt op t S e ops.size) d = gget .bad (eAt op t full e i) d := by
     intro d hdl
     rw [← eAt_upTo (op := op) (t := t) (e := e) (i := i) ops.size (by omega)]
     refine eAt_congr ops.size (fun j hj hdj => ?_)
     rcases Nat.lt_trichotomy j i with h | h | h
     ·rw [upTo_lt h]
      rcases hslot j i h hil with h1 | h1
      ·exact before j h1
      ·exact absurd (by rw [getD_of ho]; exact hdl) ((Oper.apart_spec h1).1 d hdj)
     ·subst h; rw [hSi]; exact (Bool.not_eq_true _ ▸ upTo_ge (Nat.le_refl j) : upTo j j = false).symm
     ·rw [show upTo i j = false by simpa using upTo_ge (i := i) (n := j) (by omega)]
      rcases hslot i j h hj with h1 | h1
      ·exact later j hj h1
      ·exact absurd (by rw [getD_of ho]; exact hdl) ((Oper.apart_spec h1).2.2 d hdj)
    have hwant : aWanted ops (eAt op t S e ops.size) o = aWanted ops (eAt op t full e i) o := aWanted_congr hlook
    have hdo : ∀ d, o.dst = some d → d < a1.tmps.size := by
     rw [hn1]; exact dstOk_spec (hds o (by rw [← Array.mem_def]; exact Array.mem_of_getElem? ho))
    -- the next state
    generalize hS' : (fun j => if j = i then true else S j) = S'
    have hS'i : S' i = true := by rw [← hS']; simp
    have hS'o : ∀ j, j ≠ i → S' j = S j := fun j hj => by rw [← hS']; simp [hj]
    have hlist' : ∀ j, S' j = (listed.setIfInBounds i true).getD j false := by
     intro j
     by_cases hji : j = i
     ·subst hji; rw [hS'i]; simp [show j < listed.size by omega]
     ·rw [hS'o j hji, hS, getD_set_ne false (Ne.symm hji)]
    have hshut' : Shut ops S' := by
     intro k o' ho' hk ed hed hb
     by_cases hki : k = i
     ·subst hki
      rw [ho] at ho'
      simp only [Option.some.injEq] at ho'
      subst ho'
      have h1 := hback k hil ed (by rw [getD_of ho]; exact hed) hb
      rw [hS'o _ (by omega)]
      exact hpre' ed hed hb
     ·rw [hS'o k hki] at hk
      have := hshut k o' ho' hk ed hed hb
      by_cases hei : ed.on = i
      ·rw [hei]; exact hS'i
      ·rw [hS'o _ hei]; exact this
    have hcnt' : ((List.range ops.size).filter fun j => !S' j).length ≤ fuel := by
     have hsub : ((List.range ops.size).filter fun j => !S' j) = ((List.range ops.size).filter fun j => !S j).filter fun j => decide (j ≠ i) := by
      rw [List.filter_filter]
      refine List.filter_congr fun j _ => ?_
      by_cases hji : j = i
      ·subst hji; simp [hS'i]
      ·simp [hS'o j hji, hji]
     rw [hsub]
     have hmem : i ∈ (List.range ops.size).filter fun j => !S j := by simp [hil, hSi]
     have := List.length_filter_lt_length_iff_exists (p := fun j => decide (j ≠ i)) (l := (List.range ops.size).filter fun j => !S j) |>.2 ⟨i, hmem, by simp⟩
     omega
    have hsz' : (listed.setIfInBounds i true).size = ops.size := by simpa using hsz
    have henv : ∀ v, isVal (t i) = true → (∀ e'', putT o (t i) e'' = aput e'' o.dst v) → ∀ s, gget .bad (eAt op t S' e ops.size) s = gget .bad (aput (eAt op t S e ops.size) o.dst v) s := by
     intro v _ hput s
     rw [gget_aput]
     by_cases hds' : o.dst = some s
     ·rw [if_pos hds']
      refine eAt_last (i := i) hS'i (by rw [hoi]; exact hds') (fun e'' => by rw [hoi, hput, gget_aput, if_pos hds']) ops.size hil (fun j h1 h2 h3 h4 => ?_)
      rcases hslot i j h1 h2 with h5 | h5
      ·have := later j h2 h5
       rw [hS'o j (by omega)] at h3
       rw [this] at h3; cases h3
      ·exact (Oper.apart_spec h5).2.1 s (by rw [getD_of ho]; exact hds') h4
     ·rw [if_neg hds']
      refine eAt_congr ops.size (fun j hj hdj => hS'o j (fun h => hds' (by rw [h, hoi] at hdj; exact hdj)))
    have hs := (hspec i hil).1
    rw [hoi] at hs
    -- all that is loud agrees with the text's order, at a call or a panic
    have hloudEq : (t i = .pan ∨ ∃ v Hb Ha, t i = .call v Hb Ha) → ∀ j, j < ops.size → j ≠ i → loud (t j) = true → S j = upTo i j := by
     intro hti j hj hji hld
     have noConf : ∀ x y, (x = .pan ∨ ∃ v Hb Ha, x = .call v Hb Ha) → loud y = true → ¬ NoConf x y ∧ ¬ NoConf y x := by
      intro x y hx hy
      rcases hx with rfl | ⟨v, Hb, Ha, rfl⟩
      ·cases y with
       | val v us rs => cases us <;> simp [loud] at hy <;> simp [NoConf]
       | call v Hb Ha => simp [NoConf]
       | pan => simp [loud] at hy
       | dead => simp [loud] at hy
      ·cases y with
       | val v us rs => cases us <;> simp [loud] at hy <;> simp [NoConf]
       | call v Hb Ha => simp [NoConf]
       | pan => simp [loud] at hy
       | dead => simp [loud] at hy
     rcases Nat.lt_trichotomy j i with h | h | h
     ·rw [upTo_lt h]
      cases ha : anc ops j i with
      | true => exact before j ha
      | false => exact absurd (hNC j i h hil ha) (noConf _ _ hti hld).2
     ·exact absurd h hji
     ·rw [show upTo i j = false by simpa using upTo_ge (i := i) (n := j) (by omega)]
      cases ha : anc ops i j with
      | true => exact later j hj ha
      | false => exact absurd (hNC i j h hj ha) (noConf _ _ hti hld).1
    have hmemEq : (t i = .pan ∨ ∃ v Hb Ha, t i = .call v Hb Ha) → hAt t S H0 ops.size = hAt t full H0 i := by
     intro hti
     rw [← hAt_upTo (t := t) (H := H0) (i := i) ops.size (by omega)]
     refine hAt_eq ops.size (fun j hj hld => ?_)
     by_cases hji : j = i
     ·subst hji; rw [hSi]; exact (show upTo j j = false by simpa using upTo_ge (Nat.le_refl j)).symm
     ·exact hloudEq hti j hj hji hld
    unfold wpOp
    rw [ho]
    simp only
    have hstepE : ∀ r, astepD P (imp hoF) (aeval (eAt op t full e i)) (hAt t full H0 i) (base + i) o.op = some r → astepD P (imp hoF) (aeval (eAt op t S e ops.size)) (hAt t full H0 i) (base + i) o.op = some r := by
     intro r hr'
     rw [← hr']
     exact astepD_congr (fun x hx => aeval_congr hlook x hx)
    have hfri := hfr i hil hSi
    cases hti : t i with
    | dead =>
     rw [hti] at hs
     obtain ⟨k, x, hkx, hak⟩ := hs
     exfalso
     have h1 := before k hak
     have h2 := hval k h1
     rw [(hpan k x hkx).2] at h2; cases h2
    | pan =>
     rw [hti] at hs
     obtain ⟨v, Hp, hkx, hwt, hcase⟩ := hs
     rw [aWanted_sound (hwant.trans hwt) hen, if_pos rfl]
     left
     have hm' := hmemEq (.inl hti)
     rcases hcase with ⟨hst, rfl⟩ | ⟨f, args, hst, himp, hc⟩
     ·have hst' := hstepE _ hst
      rw [← hm'] at hst'
      refine oper_soundD hK (N := base) hst' (hp.ext.cond.trans hC) hp.inv hen hp.top hfri (by omega) (by omega) (by omega) hdo (fun v us rs h => by cases h) (fun f args h => by cases h) ?_
      intro v' hv' u hrel
      simp only [Sr.pan.injEq] at hv'
      subst hv'
      refine hQp i v _ hkx g1 a1 w1 u ?_ hd1 hn1 hrel
      rw [← hm']; exact hp
     ·have hst' := hstepE _ hst
      rw [← hm'] at hst' hc
      refine oper_soundD hK (N := base) hst' (hp.ext.cond.trans hC) hp.inv hen hp.top hfri (by omega) (by omega) (by omega) hdo (fun v us rs h => by cases h) ?_ (fun v h => by cases h)
      intro f' args' hfa
      simp only [Sr.call.injEq] at hfa
      obtain ⟨rfl, rfl⟩ := hfa
      refine ⟨_, hc, (fun v H' h => by cases h), ?_⟩
      intro v' H' hv' g2 u w2 hp2 hrel
      simp only [CR.pan.injEq] at hv'
      obtain ⟨rfl, rfl⟩ := hv'
      exact hQp i v _ hkx g2 a1 w2 u (hp.trans hp2 (by omega)) hd1 hn1 hrel
    | call v Hb Ha =>
     rw [hti] at hs
     obtain ⟨hwt, _, f, args, hst, himp, hc⟩ := hs
     rw [aWanted_sound (hwant.trans hwt) hen, if_pos rfl]
     left
     have hm' := hmemEq (.inr ⟨v, Hb, Ha, hti⟩)
     have hst' := hstepE _ hst
     rw [← hm'] at hst' hc
     refine oper_soundD hK (N := base) hst' (hp.ext.cond.trans hC) hp.inv hen hp.top hfri (by omega) (by omega) (by omega) hdo (fun v us rs h => by cases h) ?_ (fun v h => by cases h)
     intro f' args' hfa
     simp only [Sr.call.injEq] at hfa
     obtain ⟨rfl, rfl⟩ := hfa
     refine ⟨_, hc, ?_, (fun v H' h => by cases h)⟩
     intro v' H' hv' g2 u w2 hp2 hrel
     simp only [CR.ret.injEq] at hv'
     obtain ⟨rfl, rfl⟩ := hv'
     have hmem' : hAt t S' H0 ops.size = Ha := by
      have h1 : hAt t S' H0 ops.size = hAt t (upTo (i + 1)) H0 ops.size := by
       refine hAt_eq ops.size (fun j hj hld => ?_)
       by_cases hji : j = i
       ·subst hji; rw [hS'i, upTo_lt (by omega)]
       ·rw [hS'o j hji, hloudEq (.inr ⟨v, Hb, Ha, hti⟩) j hj hji hld]
        simp only [upTo]
        exact decide_eq_decide.2 (by omega)
      rw [h1, hAt_upTo ops.size (by omega)]
      simp only [hAt]
      rw [if_pos (full_eq i), hti]
      rfl
     refine ih _ (a1.put o.dst u) w2 S' hsz' hlist' hshut' ?_ hcnt' ⟨g2, ?_, ?_, ?_, ?_⟩ (by rw [size_put]; exact hn1) (hd1.put (by rw [← Array.mem_def]; exact Array.mem_of_getElem? ho) _)
     ·intro j hj
      by_cases hji : j = i
      ·subst hji; rw [hti]; rfl
      ·exact hval j (by rw [← hS'o j hji]; exact hj)
     ·rw [hmem']; exact hp.trans hp2 (by omega)
     ·intro s
      rw [henv v (by rw [hti]; rfl) (fun e'' => by rw [hti]; rfl) s]
      exact hrel s
     ·intro j hj hSj
      have hji : j ≠ i := fun h => by subst h; rw [hS'i] at hSj; cases hSj
      rw [hmem']
      obtain ⟨q1, q2, _⟩ := hfr j hj (by rw [← hS'o j hji]; exact hSj)
      have := hp2.new (base + j) (by omega)
      exact hp2.inv.fresh_of (by rw [this.1]; exact q1) (by rw [this.2]; exact q2)
     ·rw [hmem']; have := hp2.next; omega
    | val v us rs =>
     rw [hti] at hs
     have hval' : ∀ j, S' j = true → isVal (t j) = true := by
      intro j hj
      by_cases hji : j = i
      ·subst hji; rw [hti]; rfl
      ·exact hval j (by rw [← hS'o j hji]; exact hj)
     have hnotcall : ∀ j v' Hb Ha, j < ops.size → t j = .call v' Hb Ha → S' j = S j := fun j v' Hb Ha _ hj => hS'o j (fun h => by subst h; rw [hti] at hj; cases hj)
     have hnext' : (hAt t S' H0 ops.size).next = (hAt t S H0 ops.size).next := hAt_next ops.size hnotcall
     -- who touches what operation i touches
     have htouch : ∀ k, (k ∈ rs ∨ ∃ u, u ∈ us ∧ u.key = k) → ∀ j, j < ops.size → j ≠ i →
       (∀ v' us' rs', t j = .val v' us' rs' → (∃ u, u ∈ us' ∧ u.key = k) → S j = upTo i j) ∧ (∀ v' Hb Ha, t j = .call v' Hb Ha → S j = upTo i j ∨ obs Hb k = obs Ha k) := by
      intro k hk j hj hji
      rcases Nat.lt_or_gt_of_ne hji with h | h
      ·rw [upTo_lt h]
       cases ha : anc ops j i with
       | true => exact ⟨fun _ _ _ _ _ => before j ha, fun _ _ _ _ => .inl (before j ha)⟩
       | false =>
        have hnc := hNC j i h hil ha
        rw [hti] at hnc
        refine ⟨fun v' us' rs' htj hu => ?_, fun v' Hb Ha htj => ?_⟩
        ·exfalso
         rw [htj] at hnc
         obtain ⟨u, hu1, hu2⟩ := hu
         rcases hk with hk | ⟨u', hu1', hu2'⟩
         ·exact (hnc.1 u hu1).2 (by rw [hu2]; exact hk)
         ·exact (hnc.1 u hu1).1 u' hu1' (by rw [hu2, hu2'])
        ·rw [htj] at hnc
         obtain ⟨rfl, hkp⟩ := hnc
         rcases hk with hk | ⟨u', hu1', _⟩
         ·have := hkp k hk
          exact .inr (by simp only [obs, this.1, this.2])
         ·cases hu1'
      ·rw [show upTo i j = false by simpa using upTo_ge (i := i) (n := j) (by omega)]
       cases ha : anc ops i j with
       | true => exact ⟨fun _ _ _ _ _ => later j hj ha, fun _ _ _ _ => .inl (later j hj ha)⟩
       | false =>
        have hnc := hNC i j h hj ha
        rw [hti] at hnc
        refine ⟨fun v' us' rs' htj hu => ?_, fun v' Hb Ha htj => ?_⟩
        ·exfalso
         rw [htj] at hnc
         obtain ⟨u, hu1, hu2⟩ := hu
         rcases hk with hk | ⟨u', hu1', hu2'⟩
         ·exact hnc.2 u hu1 (by rw [hu2]; exact hk)
         ·exact (hnc.1 u' hu1').1 u hu1 (by rw [hu2, hu2'])
        ·rw [htj] at hnc
         obtain ⟨rfl, hkp⟩ := hnc
         rcases hk with hk | ⟨u', hu1', _⟩
         ·have := hkp k hk
          exact .inr (by simp only [obs, this.1, this.2])
         ·cases hu1'
     have hupi : upTo i i = false := by simpa using upTo_ge (Nat.le_refl i)
     have hobs : ∀ k, (k ∈ rs ∨ ∃ u, u ∈ us ∧ u.key = k) → obs (hAt t S H0 ops.size) k = obs (hAt t full H0 i) k := by
      intro k hk
      rw [← hAt_upTo (t := t) (H := H0) (i := i) ops.size (by omega)]
      refine hAt_congr ops.size S (upTo i) (hcl S hshut) (hcl _ (hup i (by omega))) hHb ?_ ?_
      ·intro j v' us' rs' hj htj hu
       by_cases hji : j = i
       ·subst hji; rw [hSi, hupi]
       ·exact (htouch k hk j hj hji).1 v' us' rs' htj hu
      ·intro j v' Hb Ha hj htj
       by_cases hji : j = i
       ·subst hji; rw [hti] at htj; cases htj
       ·exact (htouch k hk j hj hji).2 v' Hb Ha htj
     have hobs' : ∀ k, obs (hAt t S' H0 ops.size) k = obs (appU (hAt t S H0 ops.size) us) k := by
      intro k
      by_cases hk : ∃ u, u ∈ us ∧ u.key = k
      ·have h1 : obs (hAt t S' H0 ops.size) k = obs (hAt t full H0 (i + 1)) k := by
        rw [← hAt_upTo (t := t) (H := H0) (i := i + 1) ops.size (by omega)]
        refine hAt_congr ops.size S' (upTo (i + 1)) (hcl S' hshut') (hcl _ (hup (i + 1) (by omega))) hHb ?_ ?_
        ·intro j v' us' rs' hj htj hu
         by_cases hji : j = i
         ·subst hji; rw [hS'i, upTo_lt (by omega)]
         ·rw [hS'o j hji, (htouch k (.inr hk) j hj hji).1 v' us' rs' htj hu]
          simp only [upTo]
          exact decide_eq_decide.2 (by omega)
        ·intro j v' Hb Ha hj htj
         by_cases hji : j = i
         ·subst hji; rw [hti] at htj; cases htj
         ·rcases (htouch k (.inr hk) j hj hji).2 v' Hb Ha htj with h | h
          ·left
           rw [hS'o j hji, h]
           simp only [upTo]
           exact decide_eq_decide.2 (by omega)
          ·exact .inr h
       rw [h1]
       simp only [hAt]
       rw [if_pos (full_eq i), hti]
       exact obs_appU_congr us _ _ _ (hobs k (.inr hk)).symm
      ·rw [obs_appU_other us _ _ (fun u hu h => hk ⟨u, hu, h⟩)]
       refine hAt_congr ops.size S' S (hcl S' hshut') (hcl S hshut) hHb ?_ ?_
       ·intro j v' us' rs' hj htj hu
        by_cases hji : j = i
        ·subst hji
         rw [hti] at htj
         simp only [Tr.val.injEq] at htj
         obtain ⟨_, rfl, _⟩ := htj
         exact absurd hu hk
        ·exact hS'o j hji
       ·intro j v' Hb Ha hj htj
        exact .inl (hnotcall j v' Hb Ha hj htj)
     -- the state behind it
     have next : ∀ g2 u w2, Past base g1 w1 g2 (appU (hAt t S H0 ops.size) us) w2 → (∀ j, j < ops.size → j ≠ i → S j = false → g2.box (base + j) = g1.box (base + j) ∧ g2.own (base + j) = g1.own (base + j)) →
       EnvRel g2 w2 (aput (eAt op t S e ops.size) o.dst v) (a1.put o.dst u).tmps → wpAny P .any ops Q fuel (listed.setIfInBounds i true) (a1.put o.dst u) w2 := by
      intro g2 u w2 hp2 hk hrel
      have hg : ∀ r, (hAt t S' H0 ops.size).ho r = (appU (hAt t S H0 ops.size) us).ho r := fun r => by have := hobs' r; simp only [obs, Prod.mk.injEq] at this; exact this.1
      have hl : ∀ r, (hAt t S' H0 ops.size).isLive r = (appU (hAt t S H0 ops.size) us).isLive r := fun r => by have := hobs' r; simp only [obs, Prod.mk.injEq] at this; exact this.2
      have hinv := hp2.inv.next hg hl
      have hp3 := hp.trans hp2 (Nat.le_refl _)
      refine ih _ (a1.put o.dst u) w2 S' hsz' hlist' hshut' hval' hcnt' ⟨g2, ⟨hp3.ext, hinv, ?_, hp3.new, ?_⟩, ?_, ?_, ?_⟩ (by rw [size_put]; exact hn1) (hd1.put (by rw [← Array.mem_def]; exact Array.mem_of_getElem? ho) _)
      ·have := hp2.top
       rw [appU_next] at this
       rw [hnext']; exact this
      ·rw [hnext']; omega
      ·intro s
       rw [henv v (by rw [hti]; rfl) (fun e'' => by rw [hti]; rfl) s]
       exact hrel s
      ·intro j hj hSj
       have hji : j ≠ i := fun h => by subst h; rw [hS'i] at hSj; cases hSj
       have hSj' : S j = false := by rw [← hS'o j hji]; exact hSj
       obtain ⟨q1, q2, _⟩ := hfr j hj hSj'
       have := hk j hj hji hSj'
       exact hinv.fresh_of (by rw [this.1]; exact q1) (by rw [this.2]; exact q2)
      ·rw [hnext']; exact hnx
     rcases hs with ⟨hwt, rfl, rfl, rfl⟩ | ⟨hwt, hst | ⟨f, args, H', hst, himp, hc, rfl, rfl⟩⟩
     ·rw [aWanted_sound (hwant.trans hwt) hen, if_neg (by simp)]
      exact next g1 undef w1 ⟨Ext.refl _ _, hp.inv, hp.top, New.refl _ _, hp.next⟩ (fun _ _ _ _ => ⟨rfl, rfl⟩) (hen.put hdo (.tup [] #[] rfl (by simp)))
     ·rw [aWanted_sound (hwant.trans hwt) hen, if_pos rfl]
      left
      have hst' := astepD_heap (H' := hAt t S H0 ops.size) (hstepE _ hst) (fun k hk => hobs k (by
       simp only [Sr.keys, List.mem_append, List.mem_map] at hk
       exact hk))
      refine oper_soundD hK (N := base) hst' (hp.ext.cond.trans hC) hp.inv hen hp.top hfri (by omega) (by omega) (by omega) hdo ?_ (fun f args h => by cases h) (fun v h => by cases h)
      intro v' us' rs' hv' g2 u w2 hp2 hk hrel
      simp only [Sr.val.injEq] at hv'
      obtain ⟨rfl, rfl, rfl⟩ := hv'
      exact next g2 u w2 hp2 (fun j hj hji _ => hk (base + j) (by omega)) hrel
     ·rw [aWanted_sound (hwant.trans hwt) hen, if_pos rfl]
      left
      have hst' := astepD_heap (H' := hAt t S H0 ops.size) (hstepE _ hst) (fun k hk => by simp [Sr.keys] at hk)
      obtain ⟨v1, hv1, hall⟩ := hK.pure f args _ _ himp hc
      simp only [CR.ret.injEq] at hv1
      obtain ⟨rfl, _⟩ := hv1
      refine oper_soundD hK (N := base) hst' (hp.ext.cond.trans hC) hp.inv hen hp.top hfri (by omega) (by omega) (by omega) hdo (fun v us rs h => by cases h) ?_ (fun v h => by cases h)
      intro f' args' hfa
      simp only [Sr.call.injEq] at hfa
      obtain ⟨rfl, rfl⟩ := hfa
      refine ⟨_, hall _, ?_, fun v H' h => by cases h⟩
      intro v' H'' hv' g2 u w2 hp2 hrel
      simp only [CR.ret.injEq] at hv'
      obtain ⟨rfl, rfl⟩ := hv'
      exact next g2 u w2 ⟨hp2.ext, hp2.inv, hp2.top, hp2.new.mono (by omega), by have := hp2.next; simp only [appU] at this ⊢; omega⟩
       (fun j hj _ _ => hp2.new (base + j) (by omega)) hrel
 have hno : ∀ j, (Array.replicate ops.size false).getD j false = false := fun j => by
  by_cases h : j < ops.size <;> simp [h]
 have hE0 : ∀ m, eAt op t (fun _ => false) e m = e := by intro m; induction m with | zero => rfl | succ m ih => simp [eAt, ih]
 have hH0' : ∀ m, hAt t (fun _ => false) H0 m = H0 := by intro m; induction m with | zero => rfl | succ m ih => simp [hAt, ih]
 refine main ops.size (Array.replicate ops.size false) a _ (fun _ => false) (by simp) (fun j => (hno j).symm) (fun _ _ _ h => by cases h) (fun _ h => by cases h) (Nat.le_trans (List.length_filter_le _ _) (by simp)) ⟨g, ?_, ?_, ?_, ?_⟩ hn (KeptL.refl _ _)
 ·rw [hH0']
  exact ⟨hdx, hdi, htop.mono (by omega), New.refl _ _, by omega⟩
 ·rw [hE0]; exact he.ext hdx
 ·intro j hj _
  rw [hH0']
  have := htop (base + j) (by omega)
  exact hdi.fresh_of this.1 this.2
 ·rw [hH0']; omega
end Go.Proofs.YtnoahchdmkpleaaGreat.VA
