/- Append and copy, whole, held against the model's. -/
import Derived.Test.YtcjfjfhggfcnfaaAmOpsI
set_option linter.unusedSimpArgs false
set_option linter.unusedVariables false
namespace Go.Proofs.Ytcjfjfhggfcnfaa.Am
open Go
variable {P : Program} {w : World} {e : Env} {H H' : AHeap}

theorem slCells_len {n esz : Nat} {x : AV} {cs : List AV} (hI : Inv e H w) (h : slCells n esz x H = some cs) : cs.length = n * esz := by
  cases x <;> simp only [slCells] at h <;> try (cases h; done)
  · split at h
    · rename_i h1 h2
      obtain rfl := Nat.eq_of_beq_eq_true h1
      rw [ble_iff, llen_eq] at h2
      cases h
      rw [lmap_eq, ltake_eq, List.length_map, List.length_take, Nat.mul_one]; omega
    · cases h
  · cases n with
    | zero => cases h; simp
    | succ n => cases h
  · rename_i id ver off len esz' cap
    split at h
    · rename_i h1 h2
      obtain rfl := Nat.eq_of_beq_eq_true h1
      cases ho : H.get id with
      | none => rw [ho] at h; cases h
      | some o =>
        simp only [ho] at h
        obtain ⟨cells, low, cur, exts, rfl, g1, g2, g3, rfl⟩ := rdArr_some h
        obtain ⟨b, m, c, t, f, k⟩ := (hI.obj _ _ ho).2.2 ver g1 g2
        have := k.len
        have g3 : off + n * esz ≤ extOf exts cur ver := g3
        show ((cells.drop off).take (n * esz)).length = _
        rw [List.length_take, List.length_drop]; omega
    · cases h
  · split at h
    · rename_i h1 h2
      rw [ble_iff, llen_eq] at h2
      have h2 : n * esz ≤ _ := h2
      cases h
      rw [ltake_eq]
      show (List.take (n * esz) _).length = _
      rw [List.length_take]; omega
    · cases h
theorem one_of {xs : List AV} {vs : List Value} (h : VRs e w xs vs) (h1 : xs.all oneCell = true) : ∀ u ∈ vs, oneCellV u = true := by
  intro u hu
  obtain ⟨i, hi, rfl⟩ := List.getElem_of_mem hu
  have hlt : i < xs.length := by rw [← h.length]; exact hi
  obtain ⟨z, hz, hr⟩ := h.get i xs[i] (by simp)
  rw [List.getElem?_eq_getElem hi] at hz
  cases hz
  exact oneCell_ok (List.all_eq_true.mp h1 _ (List.getElem_mem _)) hr
theorem first0 {x : AV} {v : Value} {n esz : Nat} (hv : VR e w x v) (hl : slLen x = some n) : ∃ arr : Array Value, (Builtin.firstCells esz 0 v).run P w = .ok arr w ∧ arr.toList = [] := by
  have hload : ∀ a : Addr, (loadCells a (0 * esz)).run P w = .ok #[] w := by intro a; rw [Nat.zero_mul]; rfl
  cases x <;> simp only [slLen] at hl <;> try (cases hl; done)
  · simp only [VR] at hv
    obtain ⟨t, rfl, _⟩ := hv
    refine ⟨_, rfl, ?_⟩
    rw [Array.toList_map, Lib.extract_data]; simp
  · simp only [VR] at hv
    subst hv
    exact ⟨#[], rfl, rfl⟩
  · simp only [VR] at hv
    obtain ⟨b', N, X, o, c', hβ, rfl, _⟩ := hv
    exact ⟨#[], hload _, rfl⟩
  · simp only [VR] at hv
    obtain ⟨b, o, sp, c, rfl, _⟩ := hv
    exact ⟨#[], hload _, rfl⟩
theorem room_of {x : AV} {v : Value} {n : Nat} (hv : VR e w x v) (hl : slLen x = some n) (hx : ∀ t, x ≠ .str t) : ∃ a c, v = .slice a n c ∧ n ≤ c := by
  cases x <;> simp only [slLen] at hl <;> try (cases hl; done)
  · exact absurd rfl (hx _)
  · cases hl; simp only [VR] at hv; exact ⟨_, _, hv, Nat.le_refl _⟩
  · cases hl; simp only [VR] at hv
    obtain ⟨b', N, X, o, c', hβ, he, hlen, _⟩ := hv
    exact ⟨_, _, he, hlen⟩
  · cases hl; simp only [VR] at hv
    obtain ⟨b, o, sp, c, he, _, hlen, _⟩ := hv
    exact ⟨_, _, he, hlen⟩
/-- what has grown into a block of its own -/
theorem fresh_ok {s : Sem Value} {el : TypeId} {cs : List AV} {old arr rest : Array Value} {m cap esz : Nat} (hI : Inv e H w)
    (hrun : s.run P w = .ok (.slice (some ⟨w.heap.size, 0, none⟩) m cap) (pushBlock (drewW w) (.cells (old ++ arr ++ rest) el)))
    (hcs : VRs e (drewW w) cs (old.toList ++ arr.toList)) (hlen : cs.length = m * esz) (hrest : rest.size = (cap - m) * esz) (hcap : m ≤ cap) :
    Goes P e w s (.sl H.next 0 0 m esz none) (newArr H cs) := by
  have hl := hcs.length
  rw [List.length_append] at hl
  have hl' : old.size + arr.size = cs.length := by simpa using hl
  have hsize : (old ++ arr ++ rest).size = cap * esz := by
    rw [Array.size_append, Array.size_append, hl', hlen, hrest, ← Nat.add_mul]; congr 1; omega
  have hle1 : m * esz ≤ cap * esz := Nat.mul_le_mul_right _ hcap
  obtain ⟨hle, hinv, hβ⟩ := newArr_ok (drew_inv hI) cs (old ++ arr ++ rest) el (by omega) fun i y hy => by
    obtain ⟨u, hu, hr⟩ := hcs.get i y hy
    refine ⟨u, ?_, hr⟩
    have hi : i < (old.toList ++ arr.toList).length := (List.getElem?_eq_some_iff.mp hu).1
    rw [← Array.getElem?_toList, Array.toList_append, Array.toList_append, List.getElem?_append_left hi]
    exact hu
  refine ⟨_, _, _, hrun, (drew_le e w).trans hle, hinv, ?_⟩
  simp only [VR]
  exact ⟨_, _, _, 0, cap, hβ, rfl, hcap, by omega, by simp, .inl ⟨rfl, by omega⟩⟩
theorem growFam_some {xs : List AV} {n len id ver off l esz : Nat} {cap : Option Nat} {o : AObj} {y : AV} (h : growFam xs n len (.sl id ver off l esz cap) H o = some (y, H')) :
    ∃ cells low exts, o = .arr cells low ver exts ∧ off + len * esz = cells.length ∧ (cap = none → off = 0) ∧ y = .sl id (ver + 1) off (len + n) esz cap ∧ H' = H.put id (.arr (cells ++ xs) low (ver + 1) ((cells.length + xs.length) :: exts)) := by
  cases o <;> simp only [growFam] at h <;> try (cases h; done)
  rename_i cells low cur exts
  split at h
  · rename_i h1 h2 h3
    obtain rfl := Nat.eq_of_beq_eq_true h1
    have h2 : off + len * esz = llen cells := Nat.eq_of_beq_eq_true h2
    rw [llen_eq] at h2
    refine ⟨cells, low, exts, rfl, h2, fun hc => ?_, ?_⟩
    · subst hc; exact Nat.eq_of_beq_eq_true h3
    · cases h
      refine ⟨rfl, ?_⟩
      rw [lapp_eq, llen_eq]
      show H.put id (.arr _ _ _ ((off + len * esz + xs.length) :: exts)) = _
      rw [h2]
  · cases h
/-- n elements behind a slice, wherever they come from -/
theorem putOn_ok {S : Sem Value} {s : AV} {base : Option Addr} {len n esz sCap : Nat} {xs : List AV} {el : TypeId} {arr arr' : Array Value} {y : AV} (hI : Inv e H w) (hs : VR e w s (.slice base len sCap)) (hls : slLen s = some len) (hn0 : n ≠ 0)
    (harr : VRs e (drewW w) xs arr.toList) (harr' : VRs e w xs arr'.toList) (hxl : xs.length = n * esz)
    (hin : len + n ≤ sCap → ∀ w', (match base with
      | some a => storeCells (a.add (len * esz)) arr'.toList
      | none => pure () : Sem Unit).run P w = .ok () w' → S.run P w = .ok (.slice base (len + n) sCap) w')
    (hgrow : ∀ old, (Builtin.firstCells esz len (.slice base len sCap)).run P (drewW w) = .ok old (drewW w) → ¬ len + n ≤ sCap → ∃ cap rest, len + n ≤ cap ∧ rest.size = (cap - (len + n)) * esz ∧
      S.run P w = .ok (.slice (some ⟨w.heap.size, 0, none⟩) (len + n) cap) (pushBlock (drewW w) (.cells (old ++ arr ++ rest) el)))
    (h : putOn len n esz xs s H = some (y, H')) : Goes P e w S y H' := by
  unfold putOn at h
  split at h
  · cases h
  rename_i hone
  rw [lall_eq] at hone
  have hI1 := drew_inv hI
  have hs1 := VR.mono (drew_le e w) _ _ hs
  -- a block of its own, for whatever was there
  have grown : ∀ (oldA : List AV) (old : Array Value), VRs e (drewW w) oldA old.toList → oldA.length = len * esz →
      (Builtin.firstCells esz len (.slice base len sCap)).run P (drewW w) = .ok old (drewW w) → ¬ len + n ≤ sCap →
      Goes P e w S (.sl H.next 0 0 (len + n) esz none) (newArr H (oldA ++ xs)) := by
    intro oldA old hold hol hro hneed
    obtain ⟨cap, rest, hcap, hrest, hrun⟩ := hgrow old hro hneed
    exact fresh_ok hI hrun (hold.append harr) (by rw [List.length_append, hol, hxl, Nat.add_mul]) hrest hcap
  split at h
  · -- nil
    simp only [slLen, Option.some.injEq] at hls
    subst hls
    simp only [VR, Value.slice.injEq] at hs
    obtain ⟨rfl, _, rfl⟩ := hs
    cases h
    have := grown [] #[] (by simp only [VRs]) (by simp) rfl (by omega)
    simp only [Nat.zero_add, List.nil_append] at this
    exact this
  · -- one that stays
    rename_i cells l capped fresh
    split at h
    · rename_i hcp hcl
      have hcl : llen cells = l * esz := Nat.eq_of_beq_eq_true hcl
      rw [llen_eq] at hcl
      simp only [slLen, Option.some.injEq] at hls
      subst hls
      cases h
      obtain ⟨old, hro, hold⟩ := slCells_ok (P := P) (n := l) (esz := esz) (cs := cells) hI1 hs1 (by
        show (match Nat.ble l l, Nat.ble (l * esz) (llen cells) with
          | true, true => some (ltake (l * esz) cells)
          | _, _ => none) = _
        rw [ble_iff.mpr (Nat.le_refl _), llen_eq, ble_iff.mpr (by omega), ltake_eq, List.take_of_length_le (by omega)])
      simp only [VR] at hs
      obtain ⟨b, o, sp, c, hc, _, hlen, hcap, _⟩ := hs
      simp only [Value.slice.injEq] at hc
      obtain ⟨_, _, rfl⟩ := hc
      have hcc := hcap trivial
      rw [lapp_eq]
      exact grown cells old hold hcl hro (by omega)
    · cases h
  · -- a family's
    rename_i id ver off l esz' cap
    simp only [slLen, Option.some.injEq] at hls
    subst hls
    split at h
    · cases h
    · rename_i hee
      obtain rfl := Nat.eq_of_beq_eq_true hee
      have hs0 := hs
      simp only [VR] at hs
      obtain ⟨b, N, X, o, c, hβ, hc, hlen, hX, hcap, ho⟩ := hs
      simp only [Value.slice.injEq] at hc
      obtain ⟨rfl, _, rfl⟩ := hc
      -- written on in its block
      have inplace : ∀ (o' : AObj), H.get id = some o' → growFam xs n l (.sl id ver off l esz cap) H o' = some (y, H') → l + n ≤ sCap → Goes P e w S y H' := by
        intro o' ho' hg hle
        obtain ⟨cells, low, exts, rfl, hcl, hoff, rfl, rfl⟩ := growFam_some hg
        have hoo : o = off ∧ off + sCap * esz ≤ N := by
          rcases ho with h | ⟨h3, h4⟩
          · exact h
          · omega
        obtain ⟨rfl, hN⟩ := hoo
        have hmul : (l + n) * esz ≤ sCap * esz := Nat.mul_le_mul_right _ hle
        rw [Nat.add_mul] at hmul
        obtain ⟨w', hst, hle', hinv', hnew⟩ := grow_in (P := P) hI ho' hβ harr' (one_of harr' hone) (by omega)
        refine ⟨_, w', _, hin hle _ (by simp only [add_eq, hcl]; exact hst), hle', hinv', ?_⟩
        simp only [VR]
        refine ⟨b, N, cells.length + xs.length, o, sCap, hnew, rfl, hle, ?_, hcap, .inl ⟨rfl, hN⟩⟩
        rw [hxl, ← hcl, Nat.add_mul]; omega
      split at h
      · -- its capacity is known
        rename_i c0
        have hc0 := hcap c0 rfl
        subst hc0
        split at h
        · rename_i hle
          rw [ble_iff] at hle
          cases hg : H.get id with
          | none => rw [hg] at h; cases h
          | some o' =>
            rw [hg] at h
            exact inplace o' hg h hle
        · rename_i hle
          have hle : ¬ l + n ≤ sCap := by intro hc; have hc' : Nat.ble (Nat.add l n) sCap = true := ble_iff.mpr hc; rw [hc'] at hle; cases hle
          split at h
          · rename_i oldA hold
            obtain ⟨old, hro, hr⟩ := slCells_ok (P := P) hI1 hs1 hold
            cases h
            rw [lapp_eq]
            exact grown oldA old hr (slCells_len hI hold) hro hle
          · cases h
      · cases hg : H.get id with
        | none => rw [hg] at h; cases h
        | some o' =>
          simp only [hg] at h
          by_cases hle : l + n ≤ sCap
          · exact inplace o' hg h hle
          · obtain ⟨cells, low, exts, rfl, hcl, hoff, rfl, rfl⟩ := growFam_some h
            have h00 := hoff rfl
            subst h00
            have hok := hI.obj _ _ hg
            obtain ⟨b2, N2, c2, t2, f2, k2⟩ := hok.2.2 ver hok.1 (Nat.le_refl _)
            have htop := k2.top rfl
            have hcl' : l * esz = cells.length := by omega
            have hcs : slCells l esz (.sl id ver 0 l esz none) H = some cells := by
              show (match Nat.beq esz esz, Nat.ble l l with
                | true, true => Option.casesOn (motive := fun _ => Option (List AV)) (H.get id) none (rdArr ver 0 (l * esz))
                | _, _ => none) = _
              rw [hg, Nat.beq_refl, ble_iff.mpr (Nat.le_refl _)]
              show arrRead cells low ver exts ver 0 (l * esz) = _
              unfold arrRead
              rw [ble_iff.mpr hok.1, ble_iff.mpr (Nat.le_refl _), ble_iff.mpr (show Nat.add 0 (l * esz) ≤ extOf exts ver ver by rw [htop]; show 0 + l * esz ≤ _; omega)]
              simp only [ldrop_eq, ltake_eq, List.drop_zero]
              rw [List.take_of_length_le (by omega)]
            obtain ⟨old, hro, hold⟩ := slCells_ok (P := P) hI1 hs1 hcs
            obtain ⟨cap', rest', hcap', hrest', hrun⟩ := hgrow _ hro hle
            have hboth := hold.append harr
            have hl1 := hold.length
            have hl2 := harr.length
            have hsz1 : old.size = cells.length := by simpa using hl1
            have hsz2 : arr.size = xs.length := by simpa using hl2
            have hsize : (old ++ arr ++ rest').size = cap' * esz := by
              rw [Array.size_append, Array.size_append, hsz1, hsz2, hxl, ← hcl', hrest', ← Nat.add_mul, ← Nat.add_mul]; congr 1; omega
            have hmul : (l + n) * esz ≤ cap' * esz := Nat.mul_le_mul_right _ hcap'
            rw [Nat.add_mul] at hmul
            obtain ⟨hle2, hinv2, hnew2⟩ := grow_out (t := el) (c := old ++ arr ++ rest') hI1 hg (xs := xs) (by omega) (fun j q hq => by
              obtain ⟨u, hu', hr⟩ := hboth.get j q hq
              refine ⟨u, ?_, hr⟩
              have hj : j < (old.toList ++ arr.toList).length := (List.getElem?_eq_some_iff.mp hu').1
              rw [← Array.getElem?_toList, Array.toList_append, Array.toList_append, List.getElem?_append_left hj]
              exact hu')
            refine ⟨_, _, _, hrun, (drew_le e w).trans hle2, hinv2, ?_⟩
            simp only [VR]
            refine ⟨_, _, _, 0, cap', hnew2, rfl, hcap', ?_, by simp, .inl ⟨rfl, by omega⟩⟩
            rw [hxl, ← hcl', Nat.add_mul]; omega
  · cases h
theorem appendA_ok {ts : Array TypeId} {ty : TypeId} {as : List AV} {vs : Array Value} {y : AV} (hI : Inv e H w) (hv : VRs e w as vs.toList) (h : appendA P H ts.toList as = some (y, H')) :
    Goes P e w (Builtin.append_ ts ty vs) y H' := by
  obtain ⟨ts⟩ := ts
  obtain ⟨vs⟩ := vs
  simp only at h hv
  unfold appendA at h
  split at h
  · rename_i t ts' s x rest
    simp only [VRs] at hv
    obtain ⟨sv, us, rfl, hs, xv, us', rfl, hx, _⟩ := hv
    split at h
    · rename_i el esz bytes len hsi hls hstr
      obtain ⟨hu, i, hi, rfl, rfl⟩ := sliceInfo_some hsi
      obtain ⟨base, sCap, rfl, hlc⟩ := room_of hs hls (fun t ht => by subst ht; cases hstr)
      split at h
      · rename_i hnz
        split at h
        · cases h
        · rename_i n hlx
          have hl := slLen_ok (P := P) hx hlx
          split at h
          · -- nothing is added
            rename_i h0 h1
            obtain rfl := Nat.eq_of_beq_eq_true h0
            cases h
            obtain ⟨arr, hrun, harr⟩ := first0 (P := P) (esz := i.size) hx hlx
            refine ⟨e, w, _, append_in (w' := w) hu hnz (szOf_info hi) hl hrun (by omega) (by rw [harr]; cases base <;> rfl), Le.refl e w, hI, hs⟩
          · rename_i z h0 h1 h2 hz
            have hn0 : n ≠ 0 := by intro hc; subst hc; cases h0
            split at h
            · rename_i xs hzl hxs
              have hzl := Nat.eq_of_beq_eq_true hzl
              rw [llen_eq] at hzl
              obtain ⟨i', v, hi', hzv, rfl, hnq⟩ := zeroOf_some hz
              have hzr : ∀ w, (zeroValue el).run P w = .ok v w := by
                intro w
                unfold zeroValue
                rw [bind_ok (run_typeInfo hi'), hzv]; rfl
              have hz0 := VRs_cells (e := e) (w := w) hnq (cv_ok v)
              have hvsz : v.cells.size = i.size := by have := hz0.length; rw [hzl] at this; simpa using this
              have hx1 := VR.mono (drew_le e w) _ _ hx
              obtain ⟨arr, hrunx, harr⟩ := slCells_ok (P := P) (drew_inv hI) hx1 hxs
              obtain ⟨arr', hrunx', harr'⟩ := slCells_ok (P := P) hI hx hxs
              exact putOn_ok (el := el) hI hs hls hn0 harr harr' (slCells_len hI hxs) (fun hle w' hst => append_in hu hnz (szOf_info hi) hl hrunx' hle hst)
                (fun old hro hne => append_grow hu hnz hi rfl hl hro hrunx hne h2 hzr hvsz) h
            · cases h
          · cases h
      · split at h
        · rename_i n hzt hmn
          split at h
          · rename_i z h0 h1 h2 hz
            have hn0 : n ≠ 0 := by intro hc; subst hc; cases h0
            rw [ble_iff] at h1
            split at h
            · rename_i hzl
              have hzl := Nat.eq_of_beq_eq_true hzl
              rw [llen_eq] at hzl
              obtain ⟨i', v, hi', hzv, rfl, hnq⟩ := zeroOf_some hz
              have hzr : ∀ w, (zeroValue el).run P w = .ok v w := by
                intro w
                unfold zeroValue
                rw [bind_ok (run_typeInfo hi'), hzv]; rfl
              have hz0 := fun w => VRs_cells (e := e) (w := w) hnq (cv_ok v)
              have hvsz : v.cells.size = i.size := by have := (hz0 w).length; rw [hzl] at this; simpa using this
              have hcop : ∀ w, VRs e w (lcopies n (cellsOf (cv v))) (Builtin.zeroCells v.cells n).toList := fun w => by
                have := copies_ok (m := n) (hz0 w) hzl h1
                unfold Builtin.zeroCells; rw [hvsz] at this ⊢; exact this
              have hmul : n * i.size ≠ 0 := Nat.mul_ne_zero hn0 (by omega)
              cases x <;> simp only [madeN] at hmn <;> try (cases hmn; done)
              rename_i k m
              cases m <;> simp only [madeN] at hmn <;> try (cases hmn; done)
              cases hmn
              simp only [VR] at hx
              subst hx
              exact putOn_ok (el := el) hI hs hls hn0 (hcop _) (hcop _) (by rw [lcopies_length, hzl]) (fun hle w' hst => append_in0 hu hzt hi rfl hmul h2 hzr hle hst)
                (fun old hro hne => append_grow0 hu hzt hi rfl hmul hro hne h2 hzr hvsz) h
            · cases h
          · cases h
        · cases h
    · cases h
  · cases h
theorem copyA_ok {ts : Array TypeId} {ty : TypeId} {as : List AV} {vs : Array Value} {y : AV} (hI : Inv e H w) (hv : VRs e w as vs.toList) (h : copyA P H ts.toList as = some (y, H')) :
    Goes P e w (Builtin.copy_ ts ty vs) y H' := by
  obtain ⟨ts⟩ := ts
  obtain ⟨vs⟩ := vs
  simp only at h hv
  unfold copyA at h
  split at h
  · rename_i t ts' d x rest
    simp only [VRs] at hv
    obtain ⟨dv, us, rfl, hd, xv, us', rfl, hx, _⟩ := hv
    split at h
    · rename_i el esz bytes len n hsi hls hlx
      obtain ⟨hu, i, hi, rfl, rfl⟩ := sliceInfo_some hsi
      split at h
      · cases h
      · rename_i hstr
        obtain ⟨base, sCap, rfl, hlc⟩ := room_of hd hls (fun t ht => hstr t ht)
        have hl := slLen_ok (P := P) hx hlx
        rw [minN_eq] at h
        split at h
        · cases h
        · rename_i xs hxs
          obtain ⟨arr, hrun, harr⟩ := slCells_ok (P := P) hI hx hxs
          have body : ∀ w', (match base with
              | some a => storeCells a arr.toList
              | none => pure () : Sem Unit).run P w = .ok () w' → (Builtin.copy_ ⟨t :: ts'⟩ ty ⟨.slice base len sCap :: xv :: us'⟩).run P w = .ok (goInt (min n len : Nat)) w' := by
            intro w' hst
            unfold Builtin.copy_
            simp only [List.getElem?_toArray, List.getElem?_cons_zero, List.getElem?_cons_succ]
            rw [bind_ok (run_underlying hu)]
            simp only
            rw [bind_ok hl, bind_ok (run_sizeOf (szOf_info hi)), bind_ok (s := Builtin.firstCells _ _ _) (a := arr) (w' := w) hrun]
            cases base with
            | none => simp only at hst ⊢; cases hst; rfl
            | some a => simp only at hst ⊢; rw [bind_ok hst]; rfl
          split at h
          · simp only [VR, Value.slice.injEq] at hd
            obtain ⟨rfl, rfl, rfl⟩ := hd
            cases h
            refine .same hI (body w rfl) ?_
            simp only [VR, goInt, Nat.min_zero]; rfl
          · rename_i id ver off l esz' cap
            split at h
            · rename_i H2 hee hone hw
              obtain rfl := Nat.eq_of_beq_eq_true hee
              rw [lall_eq] at hone
              cases h
              simp only [VR] at hd
              obtain ⟨b, N, X, o, c, hβ, hc, hlen, hX, hcap, ho⟩ := hd
              simp only [Value.slice.injEq] at hc
              obtain ⟨rfl, rfl, rfl⟩ := hc
              have hptr : VR e w (.ptr id ver off) (.pointer (some ⟨b, off, none⟩)) := by simp only [VR]; exact ⟨b, N, X, hβ, rfl⟩
              obtain ⟨b', o', w', he, hst, hle, hinv⟩ := wrMem_ok (P := P) hI hw hptr harr (one_of harr hone)
              simp only [Value.pointer.injEq, Option.some.injEq, Addr.mk.injEq] at he
              obtain ⟨rfl, rfl, _⟩ := he
              have hst' : (storeCells ⟨b, o, none⟩ arr.toList).run P w = .ok () w' := by
                rcases ho with ⟨rfl, _⟩ | ⟨rfl, _⟩
                · exact hst
                · have hz : arr.toList = [] := by
                    have h1 := harr.length
                    rw [slCells_len hI hxs, Nat.min_zero, Nat.zero_mul] at h1
                    exact List.length_eq_zero_iff.mp h1
                  rw [hz] at hst ⊢
                  exact hst
              refine ⟨e, w', _, body w' hst', hle, hinv, ?_⟩
              simp only [VR, goInt]; rfl
            · cases h
          · cases h
    · cases h
  · cases h
theorem mm_ok {big : Bool} {x y r : AV} {u v : Value} (hu : VR e w x u) (hv : VR e w y v) (h : mm big x y = some r) : ∃ z, ((if big then Builtin.max2 else Builtin.min2) u v).run P w = .ok z w ∧ VR e w r z := by
  cases x <;> cases y <;> simp only [mm] at h <;> try (cases h; done)
  simp only [VR] at hu hv
  subst hu hv
  rename_i k m k' n
  split at h
  · rename_i hk _
    subst hk
    cases h
    cases big
    · refine ⟨_, rfl, ?_⟩
      simp only [VR, ltI_eq]
      congr 1
      by_cases h1 : n < m
      · rw [if_pos h1, decide_eq_true h1]
      · rw [if_neg h1, decide_eq_false h1]
    · refine ⟨_, rfl, ?_⟩
      simp only [VR, ltI_eq]
      congr 1
      by_cases h1 : m < n
      · rw [if_pos h1, decide_eq_true h1]
      · rw [if_neg h1, decide_eq_false h1]
  · cases h
theorem mmFold_ok {big : Bool} : ∀ (xs : List AV) (x r : AV) (u : Value) (us : List Value), VR e w x u → VRs e w xs us →
    listRec (β := AV → Option AV) (fun x => some x) (fun y _ r x => match mm big x y with
      | some z => r z
      | none => none) xs x = some r → ∃ z, (us.foldlM (if big then Builtin.max2 else Builtin.min2) u).run P w = .ok z w ∧ VR e w r z
  | [], x, r, u, us, hx, hxs, h => by
    simp only [VRs] at hxs
    subst hxs
    simp only [listRec_nil, Option.some.injEq] at h
    subst h
    exact ⟨u, rfl, hx⟩
  | y :: xs, x, r, u, us, hx, hxs, h => by
    simp only [VRs] at hxs
    obtain ⟨v, us, rfl, hy, hxs⟩ := hxs
    rw [listRec_cons] at h
    split at h
    · rename_i z hz
      obtain ⟨q, hq, hr⟩ := mm_ok (P := P) hx hy hz
      obtain ⟨z', hz', hr'⟩ := mmFold_ok xs z r q us hr hxs h
      refine ⟨z', ?_, hr'⟩
      rw [List.foldlM_cons, bind_ok hq]
      exact hz'
    · cases h
theorem mmA_ok {big : Bool} {ts : Array TypeId} {ty : TypeId} {as : List AV} {vs : Array Value} {y : AV} (hv : VRs e w as vs.toList) (h : mmA big as = some y) :
    ∃ z, ((if big then Builtin.max_ else Builtin.min_) ts ty vs).run P w = .ok z w ∧ VR e w y z := by
  cases as with
  | nil => cases h
  | cons x xs =>
    simp only [VRs] at hv
    obtain ⟨u, us, hus, hx, hxs⟩ := hv
    obtain ⟨z, hz, hr⟩ := mmFold_ok (P := P) xs x y u us hx hxs h
    refine ⟨z, ?_, hr⟩
    cases big
    · simp only [Bool.false_eq_true, if_false, Builtin.min_, hus] at hz ⊢; exact hz
    · simp only [if_true, Builtin.max_, hus] at hz ⊢; exact hz
end Go.Proofs.Ytcjfjfhggfcnfaa.Am
