/- What is proved: appending in the abstract interpreter (VA) against the model's own append; and so one step of it. No condition. -/
import Derived.Test.YtiiaajajhkdemaaVa7
namespace Go.Proofs.Ytiiaajajhkdemaa.VA
open Go Go.RowKit

theorem run_append_zero {P : Program} {w : World} {t e : TypeId} (ty : TypeId) {sz : Nat} (hu : P.underlying t = some (.slice e)) (hs : (sizeOf e).run P w = .ok sz w)
    {a a' : Option Addr} {n cap c' : Nat} (hc : n ≤ cap) : (Builtin.append_ #[t, t] ty #[.slice a n cap, .slice a' 0 c']).run P w = .ok (.slice a n cap) w := by
  have h1 : (Builtin.firstCells sz 0 (.slice a' 0 c')).run P w = .ok #[] w := by
    cases a' <;> simp [Builtin.firstCells, loadCells, loadCellsFrom]
  cases a <;> simp [Builtin.append_, run_underlying hu, hs, Builtin.lenOf, hc, h1, storeCells]

/-- What an append leaves: the old elements' cells, and behind them the new ones'. -/
theorem rel_own {g' : Gh} {w' : World} {id b cap sz : Nat} {e : TypeId} {es xs : List (List AV)} {F : Nat → Value} (ho : g'.own id = some (b, es.length + xs.length, cap, e, sz))
    (hv : g'.vis b = (es.length + xs.length) * sz) (hcap : es.length + xs.length ≤ cap) (hes : ∀ x, x ∈ es → x.length = sz) (hxs : ∀ x, x ∈ xs → x.length = sz)
    (hc : ∀ k, k < (es.length + xs.length) * sz → w'.cell? ⟨b, k, none⟩ = some (F k)) (h1 : ∀ k, k < (es.length + xs.length) * sz → (F k).oneCell' = true)
    (hre : ∀ (i : Nat) (el : List AV) (j : Nat) (x : AV), es[i]? = some el → el[j]? = some x → Rel g' w' x (F (i * sz + j)))
    (hrx : ∀ (i : Nat) (el : List AV) (j : Nat) (x : AV), xs[i]? = some el → el[j]? = some x → Rel g' w' (san x) (F ((es.length + i) * sz + j))) :
    Rel g' w' (.sl (.own id e sz) (es ++ sanLL xs)) (.slice (some ⟨b, 0, none⟩) (es.length + xs.length) cap) := by
  refine .sl _ _ _ _ _ sz F (by simp) (by simp [length_sanLL]) hcap (by simp) ?_ ?_ h1 ?_ ?_
  · intro s t z hs
    simp only [Own.own.injEq] at hs
    obtain ⟨rfl, rfl, rfl⟩ := hs
    exact ⟨rfl, b, rfl, ho⟩
  · intro x hx
    rcases List.mem_append.1 hx with hx | hx
    · exact hes x hx
    · rw [sanLL_map] at hx
      obtain ⟨y, hy, rfl⟩ := List.mem_map.1 hx
      rw [length_sanL]
      exact hxs y hy
  · intro _
    exact ⟨b, 0, rfl, by rw [hv]; omega, fun k hk => by rw [Nat.zero_add]; exact hc k hk⟩
  · intro i el j x hel hx
    by_cases hi : i < es.length
    · rw [List.getElem?_append_left hi] at hel
      exact hre i el j x hel hx
    · rw [List.getElem?_append_right (by omega)] at hel
      obtain ⟨el', hel', rfl⟩ := getElem?_sanLL hel
      obtain ⟨x', hx', rfl⟩ := getElem?_sanL hx
      have := hrx _ el' j x' hel' hx'
      rwa [show es.length + (i - es.length) = i by omega] at this

theorem zeroOk_spec {P : Program} {e : TypeId} {sz : Nat} (h : zeroOk P e sz = true) : ∃ i z, P.info? e = some i ∧ i.zero = some z ∧ z.cells.size = sz := by
  unfold zeroOk at h
  split at h
  · rename_i z hz
    unfold tZero at hz
    cases hi : P.info? e with
    | none => simp [hi] at hz
    | some i =>
      cases hiz : i.zero with
      | none => simp [hi, hiz] at hz
      | some zv =>
        simp [hi, hiz] at hz
        refine ⟨i, zv, rfl, hiz, ?_⟩
        subst hz
        simpa using h
  · cases h

/-- The news of an append, as a list. -/
theorem news_of {g : Gh} {w : World} {o : Own} {xs : List (List AV)} {v : Value} (h : Rel g w (.sl o xs) v) (hne : xs ≠ []) :
    ∃ ad cap sz f, v = .slice (some ad) xs.length cap ∧ (∀ x, x ∈ xs → x.length = sz) ∧ (∀ j u, ((List.range (xs.length * sz)).map f)[j]? = some u → w.cell? (ad.add j) = some u) ∧
      (∀ k, k < xs.length * sz → (f k).oneCell' = true) ∧ (∀ (i : Nat) (el : List AV) (j : Nat) (x : AV), xs[i]? = some el → el[j]? = some x → Rel g w x (f (i * sz + j))) := by
  cases h with
  | nil => exact absurd rfl hne
  | sl o es a n cap sz f ho hn hcap hex hown hsz hone ha hr =>
    subst hn
    obtain ⟨b, off, rfl, hv, hc⟩ := ha (fun h => hne (List.length_eq_zero_iff.1 h))
    refine ⟨⟨b, off, none⟩, cap, sz, f, rfl, hsz, ?_, hone, hr⟩
    intro j u hu
    rw [addr_add]
    simp only [List.getElem?_map, Option.map_eq_some_iff] at hu
    obtain ⟨a, h1, rfl⟩ := hu
    have hj : j < xs.length * sz := by have := (List.getElem?_eq_some_iff.1 h1).1; simpa using this
    rw [List.getElem?_range hj] at h1
    simp at h1; subst h1
    exact hc j hj

theorem aAppend_sound {P : Program} {g : Gh} {H : Heap} {w : World} {t : TypeId} (ty : TypeId) {s x z : AV} {u v : Value} {us : List U} {rs : List Nat} {id : Nat} (h : aAppend P t s x H id = some (z, us, rs))
    (hi : Inv g H w) (hf : Fresh g H id) (hs : Rel g w s u) (hx : Rel g w x v) :
    ∃ g' w' r, (Builtin.append_ #[t, t] ty #[u, v]).run P w = .ok r w' ∧ Ext g w g' w' ∧ Inv g' (appU H us) w' ∧ Rel g' w' z r ∧ (∀ r, r ≠ id → g'.box r = g.box r ∧ g'.own r = g.own r) := by
  unfold aAppend at h
  split at h
  · rename_i e sz by_ o es ox xs het
    obtain ⟨hu, i, hinfo, hsz, hby⟩ := tElem_spec het
    have hsize : (sizeOf e).run P w = .ok sz w := by simp [sizeOf, typeInfo, hinfo, hsz]
    split at h
    · simp only [Option.some.injEq, Prod.mk.injEq] at h
      obtain ⟨rfl, rfl, rfl⟩ := h
      obtain ⟨a, cap, rfl, hcap, _⟩ := hs.sl_inv
      obtain ⟨a', cap', rfl, _⟩ := hx.sl_inv
      exact ⟨g, w, _, run_append_zero ty hu hsize hcap, Ext.refl g w, hi, hs, fun _ _ => ⟨rfl, rfl⟩⟩
    · rename_i x0 xs'
      split at h
      · rename_i hcond
        obtain ⟨hx0, hpos, hzok, hbytes, hlen⟩ := hcond
        obtain ⟨i', zv, hinfo', hiz, hzsz⟩ := zeroOk_spec hzok
        rw [hinfo] at hinfo'
        simp only [Option.some.injEq] at hinfo'
        subst hinfo'
        obtain ⟨ad, cx, sz', f, rfl, hxsz, hnews, hone, hrx⟩ := news_of hx (by simp)
        have hsz' : sz' = sz := by rw [← hx0]; exact (hxsz x0 (List.mem_cons_self ..)).symm
        subst hsz'
        generalize hxs : x0 :: xs' = xs at *
        have hm : xs'.length + 1 = xs.length := by rw [← hxs]; rfl
        rw [hm] at hbytes hlen
        have hm0 : 0 < xs.length := by omega
        have hmaxm : maxLen = 9223372036854775807 := rfl
        have hnl : ((List.range (xs.length * sz')).map f).length = xs.length * i.size := by simp [hsz]
        have hbm : xs.length * i.bytes ≤ 281474976710656 := by
          rw [hby]
          have := Nat.mul_le_mul_right by_ (show xs.length ≤ es.length + xs.length by omega)
          omega
        -- a new row: what both growing cases come to
        have grow : ∀ (olds : List Value) (cap : Nat) (oldCap : Nat), olds.length = es.length * sz' → (∀ el, el ∈ es → el.length = sz') → (∀ u, u ∈ olds → u.oneCell' = true) →
            (∀ (i : Nat) (el : List AV) (j : Nat) (x : AV), es[i]? = some el → el[j]? = some x → ∃ u, olds[i * sz' + j]? = some u ∧ Rel g w x u) →
            cap = grownCap w (es.length + xs.length) oldCap e → ∀ H1 : Heap, (∀ r, H1.get r = H.get r) → (∀ k, H1.isLive k = true → k = id ∨ H.isLive k = true) →
            ∃ g', Ext g w g' (w.drew.alloc (.cells (olds.toArray ++ ((List.range (xs.length * sz')).map f).toArray ++ Builtin.zeroCells zv.cells (cap - (es.length + xs.length))) e)) ∧
              Inv g' H1 (w.drew.alloc (.cells (olds.toArray ++ ((List.range (xs.length * sz')).map f).toArray ++ Builtin.zeroCells zv.cells (cap - (es.length + xs.length))) e)) ∧
              Rel g' (w.drew.alloc (.cells (olds.toArray ++ ((List.range (xs.length * sz')).map f).toArray ++ Builtin.zeroCells zv.cells (cap - (es.length + xs.length))) e))
                (.sl (.own id e sz') (es ++ sanLL xs)) (.slice (some ⟨w.heap.size, 0, none⟩) (es.length + xs.length) cap) ∧ (∀ r, r ≠ id → g'.box r = g.box r ∧ g'.own r = g.own r) := by
          intro olds cap oldCap hol hes holdone hre hcapeq H1 hg1 hl1
          have hge := grownCap_ge w (es.length + xs.length) oldCap e
          have hle := grownCap_le_maxLen w (es.length + xs.length) oldCap e (by rw [hmaxm]; omega)
          rw [← hcapeq] at hge hle
          obtain ⟨hd1, hd2⟩ := hi.drew
          have hvs : (olds.toArray ++ ((List.range (xs.length * sz')).map f).toArray ++ Builtin.zeroCells zv.cells (cap - (es.length + xs.length))).size = cap * sz' := by
            simp only [Array.size_append, List.size_toArray, List.length_map, List.length_range, size_zeroCells, hzsz, hol, ← Nat.add_mul]
            congr 1
            omega
          obtain ⟨he, hinv⟩ := inv_ownNew (vs := olds.toArray ++ ((List.range (xs.length * sz')).map f).toArray ++ Builtin.zeroCells zv.cells (cap - (es.length + xs.length))) (e := e)
            hd2 hf hge hle hvs hg1 hl1
          have he2 := hd1.trans he
          refine ⟨_, he2, hinv, ?_, fun r hr => ⟨rfl, by simp only [Gh.addOwn]; rw [if_neg hr]⟩⟩
          have hval : ∀ k, k < (es.length + xs.length) * sz' →
              (olds.toArray ++ ((List.range (xs.length * sz')).map f).toArray ++ Builtin.zeroCells zv.cells (cap - (es.length + xs.length)))[k]? =
                some (if k < es.length * sz' then olds.getD k undef else f (k - es.length * sz')) := by
            intro k hk
            rw [Nat.add_mul] at hk
            rw [Array.getElem?_append_left (by simp [hol]; omega)]
            by_cases hk2 : k < es.length * sz'
            · rw [if_pos hk2, Array.getElem?_append_left (by simp [hol]; omega)]
              simp [show k < olds.length by omega]
            · rw [if_neg hk2, Array.getElem?_append_right (by simp [hol]; omega)]
              simp only [List.size_toArray, hol, List.getElem?_toArray, List.getElem?_map]
              rw [List.getElem?_range (by omega)]
              rfl
          refine rel_own (F := fun k => if k < es.length * sz' then olds.getD k undef else f (k - es.length * sz')) (by simp [Gh.addOwn]) (by simp [Gh.addOwn]) hge hes hxsz ?_ ?_ ?_ ?_
          · intro k hk
            have := World.cell?_alloc_new w.drew (olds.toArray ++ ((List.range (xs.length * sz')).map f).toArray ++ Builtin.zeroCells zv.cells (cap - (es.length + xs.length))) e k
            rw [World.size_drew] at this
            rw [this]
            exact hval k hk
          · intro k hk
            rw [Nat.add_mul] at hk
            show Value.oneCell' (if k < es.length * sz' then olds.getD k undef else f (k - es.length * sz')) = true
            split
            · have hlt : k < olds.length := by omega
              exact holdone _ (by simp [hlt])
            · exact hone _ (by omega)
          · intro i el j x hel hx
            obtain ⟨u, h1, h2⟩ := hre i el j x hel hx
            have hil : i < es.length := (List.getElem?_eq_some_iff.1 hel).1
            have hjl : j < sz' := by rw [← hes el (List.mem_of_getElem? hel)]; exact (List.getElem?_eq_some_iff.1 hx).1
            have hb := Nat.mul_le_mul_right sz' (show i + 1 ≤ es.length by omega)
            rw [Nat.add_mul] at hb
            show Rel _ _ x (if i * sz' + j < es.length * sz' then olds.getD (i * sz' + j) undef else f (i * sz' + j - es.length * sz'))
            rw [if_pos (by omega), List.getD_eq_getElem?_getD, h1]
            exact h2.ext he2
          · intro i el j x hel hx
            show Rel _ _ (san x) (if (es.length + i) * sz' + j < es.length * sz' then olds.getD ((es.length + i) * sz' + j) undef else f ((es.length + i) * sz' + j - es.length * sz'))
            rw [show (es.length + i) * sz' = es.length * sz' + i * sz' from Nat.add_mul .., if_neg (by omega), show es.length * sz' + i * sz' + j - es.length * sz' = i * sz' + j by omega]
            exact ((hrx i el j x hel hx).ext he2).san (fun _ => Nat.le_refl _)
        split at h
        · -- nil
          simp only [Option.some.injEq, Prod.mk.injEq] at h
          obtain ⟨rfl, rfl, rfl⟩ := h
          cases hs with
          | sl o es a n cap sz f ho hn => exact absurd rfl ho
          | nil =>
            have hr := run_append_nil (P := P) w t ty e i zv hu hinfo hiz ad xs.length cx _ hnl hnews hm0 (by omega) hbm
            simp only [List.length_nil, Nat.zero_add] at grow
            obtain ⟨g', h1, h2, h3, h4⟩ := grow [] (grownCap w xs.length 0 e) 0 (by simp) (by simp) (by simp) (by simp) rfl (H.setLive id true) (fun _ => rfl)
              (fun k hk => by rw [Heap.isLive_setLive] at hk; split at hk <;> simp_all)
            refine ⟨g', _, _, hr, ?_, ?_, ?_, h4⟩
            · simpa using h1
            · simpa [appU, U.app] using h2
            · simpa using h3
        · -- ex
          split at h
          · rename_i hfl
            simp only [Option.some.injEq, Prod.mk.injEq] at h
            obtain ⟨rfl, rfl, rfl⟩ := h
            have hlive : ∀ k, (H.setLive id true).isLive k = true → k = id ∨ H.isLive k = true := fun k hk => by rw [Heap.isLive_setLive] at hk; split at hk <;> simp_all
            cases hs with
            | sl o es a n cap sz0 f0 ho hn hcap hex hown hsz0 hone0 ha hr0 =>
              subst hn
              have hcn := hex rfl
              subst hcn
              have hszn : ∀ el, el ∈ es → el.length = sz' := by
                cases hes : es with
                | nil => simp
                | cons e1 es1 =>
                  rw [hes] at hfl
                  simp only [firstLen, beq_iff_eq] at hfl
                  intro el hel
                  rw [hsz0 el (by rw [hes]; exact hel), ← hfl]
                  exact (hsz0 e1 (by rw [hes]; exact List.mem_cons_self ..)).symm
              have hfit : Builtin.nextslicecap (es.length + xs.length) es.length * i.bytes ≤ 281474976710656 := by rw [hby]; exact growslice_fits (by omega) hbytes
              by_cases hz0 : es.length = 0
              · have hnil : es = [] := List.length_eq_zero_iff.1 hz0
                subst hnil
                simp only [List.length_nil, Nat.zero_add] at grow
                obtain ⟨g', h1, h2, h3, h4⟩ := grow [] (grownCap w xs.length 0 e) 0 (by simp) (by simp) (by simp) (by simp) rfl (H.setLive id true) (fun _ => rfl) hlive
                cases a with
                | none =>
                  have hr := run_append_nil (P := P) w t ty e i zv hu hinfo hiz ad xs.length cx _ hnl hnews hm0 (by omega) hbm
                  refine ⟨g', _, _, hr, ?_, ?_, ?_, h4⟩
                  · simpa using h1
                  · simpa [appU, U.app] using h2
                  · simpa using h3
                | some a0 =>
                  have hr := run_append_grow (P := P) w t ty e i zv hu hinfo hiz a0 0 0 [] (by simp) (by simp) ad xs.length cx _ hnl hnews (by omega) (by omega) (by simpa using hfit)
                  simp only [Nat.zero_add] at hr
                  refine ⟨g', _, _, hr, ?_, ?_, ?_, h4⟩
                  · simpa using h1
                  · simpa [appU, U.app] using h2
                  · simpa using h3
              · obtain ⟨b, off, rfl, hvis, hcell⟩ := ha hz0
                have hsz1 : sz0 = sz' := by
                  cases hes : es with
                  | nil => rw [hes] at hz0; exact absurd rfl hz0
                  | cons e1 es1 =>
                    have h1 := hsz0 e1 (by rw [hes]; exact List.mem_cons_self ..)
                    have h2 := hszn e1 (by rw [hes]; exact List.mem_cons_self ..)
                    omega
                subst hsz1
                have holds : ∀ j v, ((List.range (es.length * sz0)).map f0)[j]? = some v → w.cell? ((⟨b, off, none⟩ : Addr).add j) = some v := by
                  intro j v hv
                  rw [addr_add]
                  simp only [List.getElem?_map, Option.map_eq_some_iff] at hv
                  obtain ⟨a, h1, rfl⟩ := hv
                  have hj : j < es.length * sz0 := by have := (List.getElem?_eq_some_iff.1 h1).1; simpa using this
                  rw [List.getElem?_range hj] at h1
                  simp at h1; subst h1
                  exact hcell j hj
                obtain ⟨g', h1, h2, h3, h4⟩ := grow ((List.range (es.length * sz0)).map f0) (grownCap w (es.length + xs.length) es.length e) es.length (by simp) hszn
                  (fun u hu => by
                    obtain ⟨k, hk, rfl⟩ := List.mem_map.1 hu
                    exact hone0 k (by simpa using hk))
                  (fun i el j x hel hx => by
                    have hil : i < es.length := (List.getElem?_eq_some_iff.1 hel).1
                    have hjl : j < sz0 := by rw [← hszn el (List.mem_of_getElem? hel)]; exact (List.getElem?_eq_some_iff.1 hx).1
                    have hb := Nat.mul_le_mul_right sz0 (show i + 1 ≤ es.length by omega)
                    rw [Nat.add_mul] at hb
                    refine ⟨f0 (i * sz0 + j), ?_, hr0 i el j x hel hx⟩
                    rw [List.getElem?_map, List.getElem?_range (by omega)]
                    rfl) rfl (H.setLive id true) (fun _ => rfl) hlive
                have hr := run_append_grow (P := P) w t ty e i zv hu hinfo hiz ⟨b, off, none⟩ es.length es.length _ (by simp [hsz]) holds ad xs.length cx _ hnl hnews (by omega) (by omega) hfit
                exact ⟨g', _, _, hr, h1, by simpa [appU, U.app] using h2, h3, h4⟩
          · cases h
        · -- own
          rename_i k e' sz''
          split at h
          · rename_i hcc
            obtain ⟨rfl, rfl, hlv⟩ := hcc
            simp only [Option.some.injEq, Prod.mk.injEq] at h
            obtain ⟨rfl, rfl, rfl⟩ := h
            cases hs with
            | sl o es a n cap sz0 f0 ho hn hcap hex hown hsz0 hone0 ha hr0 =>
              subst hn
              obtain ⟨rfl, b, rfl, hgo⟩ := hown k e' sz'' rfl
              obtain ⟨b', n', cap', e2, sz2, vs, q1, q2, q3, q4, q5, q6, q7, q8⟩ := hi.live k hlv
              rw [hgo] at q1
              simp only [Option.some.injEq, Prod.mk.injEq] at q1
              obtain ⟨rfl, rfl, rfl, rfl, rfl⟩ := q1
              have hkid := hf.live_ne hlv
              have hlive : ∀ k', ((H.setLive k false).setLive id true).isLive k' = true → k' = id ∨ (k' ≠ k ∧ H.isLive k' = true) := by
                intro k' hk'
                simp only [Heap.isLive_setLive] at hk'
                by_cases h1 : id = k'
                · exact .inl h1.symm
                · rw [if_neg h1] at hk'
                  by_cases h2 : k = k'
                  · rw [if_pos h2] at hk'; cases hk'
                  · rw [if_neg h2] at hk'; exact .inr ⟨fun h => h2 h.symm, hk'⟩
              have hcells : ∀ j, j < es.length * sz'' → w.cell? ⟨b, j, none⟩ = some (f0 j) := by
                intro j hj
                have hne : es.length ≠ 0 := by intro h0; rw [h0] at hj; simp at hj
                obtain ⟨b1, off1, h1, _, h3⟩ := ha hne
                simp only [Option.some.injEq, Addr.mk.injEq] at h1
                obtain ⟨rfl, rfl, _⟩ := h1
                have := h3 j hj
                rwa [Nat.zero_add] at this
              have hvs0 : ∀ j, j < es.length * sz'' → vs[j]? = some (f0 j) := by
                intro j hj
                have := hcells j hj
                rwa [cell_of_row w b j vs e' (0, 0) q3] at this
              by_cases hroom : es.length + xs.length ≤ cap
              · -- in place
                have hcm := Nat.mul_le_mul_right sz'' hroom
                rw [Nat.add_mul] at hcm
                have hr := run_append_room (P := P) w t ty e' i hu hinfo b es.length cap vs q3 ad xs.length cx _ hnl hnews
                  (fun u hu => by
                    obtain ⟨k, hk, rfl⟩ := List.mem_map.1 hu
                    exact hone k (by simpa using hk)) hroom (by rw [hsz, q6]; simp; omega)
                generalize hvs' : (vs.toList.take (es.length * i.size) ++ (List.range (xs.length * sz'')).map f ++ vs.toList.drop (es.length * i.size + ((List.range (xs.length * sz'')).map f).length)).toArray = vs' at hr
                have hval : ∀ k, k < (es.length + xs.length) * sz'' → vs'[k]? = some (if k < es.length * sz'' then f0 k else f (k - es.length * sz'')) := by
                  intro k hk
                  rw [Nat.add_mul] at hk
                  rw [← hvs', hsz]
                  simp only [List.getElem?_toArray]
                  have hvl : es.length * sz'' ≤ vs.toList.length := by simp; omega
                  rw [List.getElem?_append_left (by simp; omega)]
                  by_cases hk2 : k < es.length * sz''
                  · rw [if_pos hk2, List.getElem?_append_left (by simp; omega), List.getElem?_take, if_pos hk2, Array.getElem?_toList]
                    exact hvs0 k hk2
                  · have hlt : (vs.toList.take (es.length * sz'')).length = es.length * sz'' := by rw [List.length_take]; omega
                    rw [if_neg hk2, List.getElem?_append_right (by rw [hlt]; omega), hlt, List.getElem?_map, List.getElem?_range (by omega)]
                    rfl
                have hsize' : vs'.size = cap * sz'' := by
                  rw [← hvs', hsz]
                  simp
                  omega
                obtain ⟨he, hinv⟩ := inv_ownRoom (H1 := (H.setLive k false).setLive id true) hi hf hlv hgo q3 (show es.length ≤ es.length + xs.length by omega) hroom hsize'
                  (fun o ho => by
                    have h2 := Nat.mul_le_mul_right sz'' (show es.length ≤ es.length + xs.length by omega)
                    rw [hval o (by omega), if_pos ho, hvs0 o ho])
                  (fun _ => rfl) hlive
                refine ⟨_, _, _, hr, he, by simpa [appU, U.app] using hinv, ?_, fun r hr' => ⟨rfl, by simp only [Gh.addOwn]; rw [if_neg hr']⟩⟩
                refine rel_own (F := fun k => if k < es.length * sz'' then f0 k else f (k - es.length * sz'')) (by simp [Gh.addOwn]) (by simp [Gh.addOwn]) hroom hsz0 hxsz ?_ ?_ ?_ ?_
                · intro k hk
                  rw [cell_of_row _ b k vs' e' (0, 0) (setRow_heap w b vs vs' e' (0, 0) q3)]
                  exact hval k hk
                · intro k hk
                  rw [Nat.add_mul] at hk
                  show Value.oneCell' (if k < es.length * sz'' then f0 k else f (k - es.length * sz'')) = true
                  split
                  · exact hone0 _ (by omega)
                  · exact hone _ (by omega)
                · intro i el j x hel hx
                  have hil : i < es.length := (List.getElem?_eq_some_iff.1 hel).1
                  have hjl : j < sz'' := by rw [← hsz0 el (List.mem_of_getElem? hel)]; exact (List.getElem?_eq_some_iff.1 hx).1
                  have hb := Nat.mul_le_mul_right sz'' (show i + 1 ≤ es.length by omega)
                  rw [Nat.add_mul] at hb
                  show Rel _ _ x (if i * sz'' + j < es.length * sz'' then f0 (i * sz'' + j) else f (i * sz'' + j - es.length * sz''))
                  rw [if_pos (by omega)]
                  exact (hr0 i el j x hel hx).ext he
                · intro i el j x hel hx
                  show Rel _ _ (san x) (if (es.length + i) * sz'' + j < es.length * sz'' then f0 ((es.length + i) * sz'' + j) else f ((es.length + i) * sz'' + j - es.length * sz''))
                  rw [show (es.length + i) * sz'' = es.length * sz'' + i * sz'' from Nat.add_mul .., if_neg (by omega), show es.length * sz'' + i * sz'' + j - es.length * sz'' = i * sz'' + j by omega]
                  exact ((hrx i el j x hel hx).ext he).san (fun _ => Nat.le_refl _)
              · -- it grows
                have holds : ∀ j v, ((List.range (es.length * sz'')).map f0)[j]? = some v → w.cell? ((⟨b, 0, none⟩ : Addr).add j) = some v := by
                  intro j v hv
                  rw [addr_add, Nat.zero_add]
                  simp only [List.getElem?_map, Option.map_eq_some_iff] at hv
                  obtain ⟨a, h1, rfl⟩ := hv
                  have hj : j < es.length * sz'' := by have := (List.getElem?_eq_some_iff.1 h1).1; simpa using this
                  rw [List.getElem?_range hj] at h1
                  simp at h1; subst h1
                  exact hcells j hj
                obtain ⟨g', h1, h2, h3, h4⟩ := grow ((List.range (es.length * sz'')).map f0) (grownCap w (es.length + xs.length) cap e') cap (by simp) hsz0
                  (fun u hu => by
                    obtain ⟨k, hk, rfl⟩ := List.mem_map.1 hu
                    exact hone0 k (by simpa using hk))
                  (fun i el j x hel hx => by
                    have hil : i < es.length := (List.getElem?_eq_some_iff.1 hel).1
                    have hjl : j < sz'' := by rw [← hsz0 el (List.mem_of_getElem? hel)]; exact (List.getElem?_eq_some_iff.1 hx).1
                    have hb := Nat.mul_le_mul_right sz'' (show i + 1 ≤ es.length by omega)
                    rw [Nat.add_mul] at hb
                    refine ⟨f0 (i * sz'' + j), ?_, hr0 i el j x hel hx⟩
                    rw [List.getElem?_map, List.getElem?_range (by omega)]
                    rfl) rfl ((H.setLive k false).setLive id true) (fun _ => rfl) (fun k' hk' => (hlive k' hk').imp (fun h => h) (fun h => h.2))
                have hfit : Builtin.nextslicecap (es.length + xs.length) cap * i.bytes ≤ 281474976710656 := by rw [hby]; exact growslice_fits (by omega) hbytes
                have hr := run_append_grow (P := P) w t ty e' i zv hu hinfo hiz ⟨b, 0, none⟩ es.length cap _ (by simp [hsz]) holds ad xs.length cx _ hnl hnews (by omega) (by omega) hfit
                exact ⟨g', _, _, hr, h1, by simpa [appU, U.app] using h2, h3, h4⟩
          · cases h
        · cases h
      · cases h
  · cases h
end Go.Proofs.Ytiiaajajhkdemaa.VA
