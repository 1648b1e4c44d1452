/- Append and copy, held against the model's. -/
import Derived.Test.YtcjfjfhggfcnfaaAmOpsH
set_option linter.unusedSimpArgs false
set_option linter.unusedVariables false
namespace Go.Proofs.Ytcjfjfhggfcnfaa.Am
open Go
variable {P : Program} {w : World} {e : Env} {H H' : AHeap}

theorem growBy_le (newLen : Nat) : ∀ (r c : Nat), c ≤ newLen + (newLen + 768) / 4 → Builtin.growBy newLen r c ≤ newLen + (newLen + 768) / 4
  | 0, c, h => h
  | r + 1, c, h => by
    unfold Builtin.growBy
    split
    · exact h
    · exact growBy_le newLen r _ (by omega)
theorem nextcap_le {need old : Nat} (h : old < need) : Builtin.nextslicecap need old ≤ need + need + 1024 := by
  unfold Builtin.nextslicecap
  split
  · omega
  · split
    · omega
    · have := growBy_le need 4 old (by omega)
      omega
theorem notZeros_cons {u : TypeId} {us : List TypeId} (h : notZeros P (u :: us) = true) : ∃ d, P.underlying u = some d ∧ (d matches .int _) = false := by
  simp only [notZeros] at h
  split at h
  · cases h
  · rename_i d hnot hk
    refine ⟨d, hk, ?_⟩
    cases d <;> first
      | rfl
      | exact absurd rfl (hnot _)
  · cases h
theorem append_in {t ty el : TypeId} {ts' : List TypeId} {base : Option Addr} {sLen sCap n esz : Nat} {x : Value} {r : List Value} {arr : Array Value} {w' : World}
    (hu : P.underlying t = some (.slice el)) (hz : notZeros P ts' = true) (hs : szOf P el = some esz) (hl : (Builtin.lenOf x).run P w = .ok n w) (hx : (Builtin.firstCells esz n x).run P w = .ok arr w)
    (hneed : sLen + n ≤ sCap) (hst : (match base with
      | some a => storeCells (a.add (sLen * esz)) arr.toList
      | none => pure () : Sem Unit).run P w = .ok () w') :
    (Builtin.append_ ⟨t :: ts'⟩ ty ⟨.slice base sLen sCap :: x :: r⟩).run P w = .ok (.slice base (sLen + n) sCap) w' := by
  unfold Builtin.append_
  simp only [List.getElem?_toArray, List.getElem?_cons_zero, List.getElem?_cons_succ]
  rw [bind_ok (run_underlying hu)]
  simp only
  rw [bind_ok (run_sizeOf hs)]
  cases ts' with
  | nil =>
    simp only [List.getElem?_nil]
    rw [bind_ok (run_pure P false w)]
    simp only [Bool.false_eq_true, if_false]
    rw [bind_ok hl]
    simp only [hneed, if_true, Bool.not_false]
    rw [bind_ok hx]
    cases base with
    | none => simp only at hst ⊢; cases hst; rfl
    | some a => simp only at hst ⊢; rw [bind_ok hst]; rfl
  | cons u us =>
    obtain ⟨d, hk, hd⟩ := notZeros_cons hz
    simp only [List.getElem?_cons_zero]
    rw [bind_ok (run_underlying hk)]
    rw [bind_ok (run_pure P _ w)]
    cases d <;> first
      | exact Bool.noConfusion hd
      | (simp only [Bool.false_eq_true, if_false]
         rw [bind_ok hl]
         simp only [hneed, if_true, Bool.not_false]
         rw [bind_ok hx]
         cases base with
         | none => simp only at hst ⊢; cases hst; rfl
         | some a => simp only at hst ⊢; rw [bind_ok hst]; rfl)
theorem append_grow {t ty el : TypeId} {ts' : List TypeId} {base : Option Addr} {sLen sCap n esz : Nat} {x v : Value} {r : List Value} {old arr : Array Value} {i : TypeInfo}
    (hu : P.underlying t = some (.slice el)) (hz : notZeros P ts' = true) (hi : P.info? el = some i) (hs : i.size = esz) (hl : (Builtin.lenOf x).run P w = .ok n w)
    (hold : (Builtin.firstCells esz sLen (.slice base sLen sCap)).run P (drewW w) = .ok old (drewW w)) (hx : (Builtin.firstCells esz n x).run P (drewW w) = .ok arr (drewW w))
    (hneed : ¬ sLen + n ≤ sCap) (hroom : roomA (sLen + n) i.bytes = true) (hv : ∀ w, (zeroValue el).run P w = .ok v w) (hvs : v.cells.size = esz) :
    ∃ cap rest, sLen + n ≤ cap ∧ rest.size = (cap - (sLen + n)) * esz ∧
      (Builtin.append_ ⟨t :: ts'⟩ ty ⟨.slice base sLen sCap :: x :: r⟩).run P w = .ok (.slice (some ⟨w.heap.size, 0, none⟩) (sLen + n) cap) (pushBlock (drewW w) (.cells (old ++ arr ++ rest) el)) := by
  obtain ⟨cap, hch, hcap⟩ := run_choose (P := P) (w := w) (.appendCap (sLen + n) sCap el) rfl
  have hge : sLen + n ≤ cap := by rw [hcap]; exact cap_ge _ _ _ _
  refine ⟨cap, Builtin.zeroCells v.cells (cap - (sLen + n)), hge, by simp [Builtin.zeroCells, hvs], ?_⟩
  unfold roomA at hroom
  rw [nble] at hroom
  by_cases hn : sLen + n ≤ 70368744177664
  · rw [decide_eq_true hn] at hroom
    have hroom : (sLen + n + (sLen + n) + 1024) * i.bytes ≤ 281474976710656 := Nat.le_of_ble_eq_true hroom
    have hnext : Builtin.nextslicecap (sLen + n) sCap * i.bytes ≤ 281474976710656 := Nat.le_trans (Nat.mul_le_mul_right _ (nextcap_le (by omega))) hroom
    have h1 : ¬ (((sLen + n : Nat) : Int) > IntKind.i64.max ∧ (False ∨ i.bytes = 0)) := by
      rintro ⟨h, _⟩
      rw [show IntKind.i64.max = 9223372036854775807 from rfl] at h
      omega
    have h2 : ¬ (Builtin.nextslicecap (sLen + n) sCap * i.bytes > 2 ^ 48) := by
      have : (2 : Nat) ^ 48 = 281474976710656 := rfl
      omega
    unfold Builtin.append_
    simp only [List.getElem?_toArray, List.getElem?_cons_zero, List.getElem?_cons_succ]
    rw [bind_ok (run_underlying hu)]
    simp only
    rw [bind_ok (run_sizeOf (by rw [szOf_info hi, hs]))]
    cases ts' with
    | nil =>
      simp only [List.getElem?_nil]
      rw [bind_ok (run_pure P false w)]
      simp only [Bool.false_eq_true, if_false]
      rw [bind_ok hl]
      simp only [hneed, if_false]
      rw [bind_ok (run_typeInfo hi)]
      rw [if_neg h1, bind_ok (run_typeInfo hi), if_neg h2, bind_ok hch, bind_ok (run_typeInfo hi), bind_ok (run_askRoom _), bind_ok hold]
      simp only [Bool.not_false, if_true]
      rw [bind_ok hx, bind_ok (hv _)]
      rfl
    | cons u us =>
      obtain ⟨d, hk, hd⟩ := notZeros_cons hz
      simp only [List.getElem?_cons_zero]
      rw [bind_ok (run_underlying hk)]
      rw [bind_ok (run_pure P _ w)]
      cases d <;> first
        | exact Bool.noConfusion hd
        | (simp only [Bool.false_eq_true, if_false]
           rw [bind_ok hl]
           simp only [hneed, if_false]
           rw [bind_ok (run_typeInfo hi)]
           rw [if_neg h1, bind_ok (run_typeInfo hi), if_neg h2, bind_ok hch, bind_ok (run_typeInfo hi), bind_ok (run_askRoom _), bind_ok hold]
           simp only [Bool.not_false, if_true]
           rw [bind_ok hx, bind_ok (hv _)]
           rfl)
  · rw [decide_eq_false hn] at hroom; cases hroom
theorem zerosT_cons {ts : List TypeId} (h : zerosT P ts = true) : ∃ u us k, ts = u :: us ∧ P.underlying u = some (.int k) := by
  unfold zerosT at h
  split at h
  · cases h
  · split at h
    · exact ⟨_, _, _, rfl, by assumption⟩
    · cases h
theorem wrap_small {n : Nat} (h : n ≤ 70368744177664) : IntKind.i64.wrap (n : Int) = n := by
  rw [← wrapF_eq]
  show wrapF .i64 (.ofNat n) = _
  unfold wrapF
  have : inR .i64 (.ofNat n) = true := by
    show Nat.ble n 9223372036854775807 = true
    exact Nat.ble_eq.mpr (by omega)
  rw [this]; rfl
/-- zeros put on where there is room -/
theorem append_in0 {t ty el : TypeId} {ts' : List TypeId} {base : Option Addr} {sLen sCap n esz : Nat} {k : IntKind} {r : List Value} {v : Value} {i : TypeInfo} {w' : World}
    (hu : P.underlying t = some (.slice el)) (hz : zerosT P ts' = true) (hi : P.info? el = some i) (hs : i.size = esz) (hn : n * esz ≠ 0) (hroom : roomA (sLen + n) i.bytes = true) (hv : ∀ w, (zeroValue el).run P w = .ok v w)
    (hneed : sLen + n ≤ sCap) (hst : (match base with
      | some a => storeCells (a.add (sLen * esz)) (Builtin.zeroCells v.cells n).toList
      | none => pure () : Sem Unit).run P w = .ok () w') :
    (Builtin.append_ ⟨t :: ts'⟩ ty ⟨.slice base sLen sCap :: .int k (n : Int) :: r⟩).run P w = .ok (.slice base (sLen + n) sCap) w' := by
  obtain ⟨u, us, k', rfl, hk⟩ := zerosT_cons hz
  unfold roomA at hroom
  rw [nble] at hroom
  by_cases hn' : sLen + n ≤ 70368744177664
  · rw [decide_eq_true hn'] at hroom
    have hroom : (sLen + n + (sLen + n) + 1024) * i.bytes ≤ 281474976710656 := Nat.le_of_ble_eq_true hroom
    have h1 : ¬ ((n : Int) < 0) := by omega
    have h2 : ¬ ((n : Int) * (i.bytes : Int) > 2 ^ 48) := by
      have h3 : n * i.bytes ≤ (sLen + n + (sLen + n) + 1024) * i.bytes := Nat.mul_le_mul_right _ (by omega)
      have h4 : ((n * i.bytes : Nat) : Int) = (n : Int) * (i.bytes : Int) := Int.natCast_mul _ _
      have h5 : (2 : Int) ^ 48 = 281474976710656 := by decide
      rw [← h4, h5]; omega
    unfold Builtin.append_
    simp only [List.getElem?_toArray, List.getElem?_cons_zero, List.getElem?_cons_succ]
    rw [bind_ok (run_underlying hu)]
    simp only
    rw [bind_ok (run_sizeOf (by rw [szOf_info hi, hs]))]
    rw [bind_ok (run_underlying hk)]
    rw [bind_ok (run_pure P _ w)]
    simp only [if_true]
    rw [bind_ok (s := asInt _) (a := (n : Int)) (w' := w) rfl]
    rw [wrap_small (by omega), if_neg h1, bind_ok (run_typeInfo hi), if_neg h2]
    rw [bind_ok (run_pure P _ w)]
    simp only [Int.toNat_natCast, hneed, if_true, Bool.not_true, Bool.false_eq_true, if_false, hn]
    rw [bind_ok (s := do pure (Builtin.zeroCells (← zeroValue el).cells n)) (a := Builtin.zeroCells v.cells n) (w' := w) (by rw [bind_ok (hv w)]; rfl)]
    cases base with
    | none => simp only at hst ⊢; cases hst; rfl
    | some a => simp only at hst ⊢; rw [bind_ok hst]; rfl
  · rw [decide_eq_false hn'] at hroom; cases hroom
theorem append_grow0 {t ty el : TypeId} {ts' : List TypeId} {base : Option Addr} {sLen sCap n esz : Nat} {k : IntKind} {r : List Value} {v : Value} {old : Array Value} {i : TypeInfo}
    (hu : P.underlying t = some (.slice el)) (hz : zerosT P ts' = true) (hi : P.info? el = some i) (hs : i.size = esz) (hn : n * esz ≠ 0)
    (hold : (Builtin.firstCells esz sLen (.slice base sLen sCap)).run P (drewW w) = .ok old (drewW w))
    (hneed : ¬ sLen + n ≤ sCap) (hroom : roomA (sLen + n) i.bytes = true) (hv : ∀ w, (zeroValue el).run P w = .ok v w) (hvs : v.cells.size = esz) :
    ∃ cap rest, sLen + n ≤ cap ∧ rest.size = (cap - (sLen + n)) * esz ∧
      (Builtin.append_ ⟨t :: ts'⟩ ty ⟨.slice base sLen sCap :: .int k (n : Int) :: r⟩).run P w = .ok (.slice (some ⟨w.heap.size, 0, none⟩) (sLen + n) cap) (pushBlock (drewW w) (.cells (old ++ Builtin.zeroCells v.cells n ++ rest) el)) := by
  obtain ⟨cap, hch, hcap⟩ := run_choose (P := P) (w := w) (.appendCap (sLen + n) sCap el) rfl
  have hge : sLen + n ≤ cap := by rw [hcap]; exact cap_ge _ _ _ _
  refine ⟨cap, Builtin.zeroCells v.cells (cap - (sLen + n)), hge, by simp [Builtin.zeroCells, hvs], ?_⟩
  obtain ⟨u, us, k', rfl, hk⟩ := zerosT_cons hz
  unfold roomA at hroom
  rw [nble] at hroom
  by_cases hn' : sLen + n ≤ 70368744177664
  · rw [decide_eq_true hn'] at hroom
    have hroom : (sLen + n + (sLen + n) + 1024) * i.bytes ≤ 281474976710656 := Nat.le_of_ble_eq_true hroom
    have h1 : ¬ ((n : Int) < 0) := by omega
    have h2 : ¬ ((n : Int) * (i.bytes : Int) > 2 ^ 48) := by
      have h3 : n * i.bytes ≤ (sLen + n + (sLen + n) + 1024) * i.bytes := Nat.mul_le_mul_right _ (by omega)
      have h4 : ((n * i.bytes : Nat) : Int) = (n : Int) * (i.bytes : Int) := Int.natCast_mul _ _
      have h5 : (2 : Int) ^ 48 = 281474976710656 := by decide
      rw [← h4, h5]; omega
    have hnext : Builtin.nextslicecap (sLen + n) sCap * i.bytes ≤ 281474976710656 := Nat.le_trans (Nat.mul_le_mul_right _ (nextcap_le (by omega))) hroom
    have h3 : ¬ (((sLen + n : Nat) : Int) > IntKind.i64.max ∧ (True ∨ i.bytes = 0)) := by
      rintro ⟨h, _⟩
      rw [show IntKind.i64.max = 9223372036854775807 from rfl] at h
      omega
    have h4 : ¬ (Builtin.nextslicecap (sLen + n) sCap * i.bytes > 2 ^ 48) := by
      have : (2 : Nat) ^ 48 = 281474976710656 := rfl
      omega
    unfold Builtin.append_
    simp only [List.getElem?_toArray, List.getElem?_cons_zero, List.getElem?_cons_succ]
    rw [bind_ok (run_underlying hu)]
    simp only
    rw [bind_ok (run_sizeOf (by rw [szOf_info hi, hs]))]
    rw [bind_ok (run_underlying hk)]
    rw [bind_ok (run_pure P _ w)]
    simp only [if_true]
    rw [bind_ok (s := asInt _) (a := (n : Int)) (w' := w) rfl]
    rw [wrap_small (by omega), if_neg h1, bind_ok (run_typeInfo hi), if_neg h2]
    rw [bind_ok (run_pure P _ w)]
    simp only [Int.toNat_natCast, hneed, if_false, Bool.not_true, Bool.false_eq_true, hn]
    rw [bind_ok (run_typeInfo hi), if_neg h3, bind_ok (run_typeInfo hi), if_neg h4, bind_ok hch, bind_ok (run_typeInfo hi), bind_ok (run_askRoom _), bind_ok hold]
    rw [bind_ok (s := do pure (Builtin.zeroCells (← zeroValue el).cells n)) (a := Builtin.zeroCells v.cells n) (w' := drewW w) (by rw [bind_ok (hv _)]; rfl), bind_ok (hv _)]
    rfl
  · rw [decide_eq_false hn'] at hroom; cases hroom
theorem ver_le {e' : Env} {w w' : World} {id ver b n x : Nat} (hle : Le e w e w') (hnone : e.β id ver = none) (hb : e.own b ∨ w.heap.size ≤ b) : Le e w (e.add id ver (b, n, x)) w' where
  β := fun i v r h => by
    show (if i = id ∧ v = ver then _ else _) = _
    rw [if_neg (fun hh => by rw [hh.1, hh.2, hnone] at h; cases h)]; exact h
  new := fun b' hb' => by
    rcases add_own hb' with h | h
    · exact .inl h
    · rw [h]; exact hb
  out := rfl
  base := rfl
  size := hle.size
  keep := hle.keep
  low := hle.low
  os := hle.os
  tape := hle.tape
  output := hle.output
theorem extOf_succ (exts : List Nat) (X cur ver : Nat) (h : ver ≤ cur) : extOf (X :: exts) (cur + 1) ver = extOf exts cur ver := by
  unfold extOf
  have : Nat.sub (cur + 1) ver = Nat.sub cur ver + 1 := by show cur + 1 - ver = cur - ver + 1; omega
  rw [this]; rfl
theorem extOf_top (exts : List Nat) (X cur : Nat) : extOf (X :: exts) (cur + 1) (cur + 1) = X := by
  unfold extOf
  have : Nat.sub (cur + 1) (cur + 1) = 0 := Nat.sub_self _
  rw [this]; rfl
theorem setBlock_le {e : Env} {H : AHeap} {w : World} (hI : Inv e H w) {id ver b n x : Nat} (hb : e.β id ver = some (b, n, x)) (ob : Obj) : Le e w e (setBlock w b ob) := set_le hI hb ob

/-- a family is written on, in its block -/
theorem grow_in (hI : Inv e H w) {id cur b n X : Nat} {cells : List AV} {low : Nat} {exts : List Nat} (ho : H.get id = some (.arr cells low cur exts)) (hβ : e.β id cur = some (b, n, X))
    {xs : List AV} {vs : List Value} (hx : VRs e w xs vs) (h1 : ∀ u ∈ vs, oneCellV u = true) (hroom : cells.length + xs.length ≤ n) :
    ∃ w', (storeCells ⟨b, cells.length, none⟩ vs).run P w = .ok () w' ∧ Le e w (e.add id (cur + 1) (b, n, cells.length + xs.length)) w' ∧
      Inv (e.add id (cur + 1) (b, n, cells.length + xs.length)) (H.put id (.arr (cells ++ xs) low (cur + 1) ((cells.length + xs.length) :: exts))) w' ∧
      (e.add id (cur + 1) (b, n, cells.length + xs.length)).β id (cur + 1) = some (b, n, cells.length + xs.length) := by
  have hok := hI.obj _ _ ho
  obtain ⟨b', n', c, t, f, k⟩ := hok.2.2 cur hok.1 (Nat.le_refl _)
  have hkβ := k.β
  rw [hβ] at hkβ
  simp only [Option.some.injEq, Prod.mk.injEq] at hkβ
  obtain ⟨rfl, rfl, hX⟩ := hkβ
  have htop := k.top rfl
  have hxl := hx.length
  have hsz := k.size
  have hrun := run_storeCells (P := P) (o := cells.length) vs 0 c w k.heap (by rw [hsz]; exact k.free) (by omega) h1
  have hnone := hok.2.1 (cur + 1) (by omega)
  have hown : e.own b := ⟨_, _, _, _, hβ⟩
  have hle := ver_le (e' := e) (n := n) (x := cells.length + xs.length) (set_le hI hβ (.cells (cput c (cells.length + 0) vs) t f)) hnone (.inl hown)
  have hnew : (e.add id (cur + 1) (b, n, cells.length + xs.length)).β id (cur + 1) = some (b, n, cells.length + xs.length) := by
    show (if id = id ∧ cur + 1 = cur + 1 then _ else _) = _; rw [if_pos ⟨rfl, rfl⟩]
  have hblt : b < w.heap.size := (hI.own _ _ _ _ _ hβ).1
  have hset := set_le hI hβ (.cells (cput c (cells.length + 0) vs) t f)
  refine ⟨_, hrun, hle, ?_, hnew⟩
  refine step_inv hI hle id _ (AHeap.get_put H _ id) (Nat.le_refl _) (hI.own _ _ _ _ _ hβ).2.2.2
    (fun id' hi ver => by show (if id' = id ∧ ver = cur + 1 then _ else _) = _; rw [if_neg (fun hh => hi hh.1)])
    (fun id' hi ver' b' n' x' h => by rw [setBlock_get, if_neg (fun hh => hi (hI.inj _ _ _ _ _ _ _ _ _ h (by rw [hh.1]; exact hβ)))])
    (fun ver' b' n' x' h => ?_) ?_
  · have hb' : e.β id ver' = some (b', n', x') ∨ b' = b := by
      change (if id = id ∧ ver' = cur + 1 then _ else e.β id ver') = _ at h
      by_cases hv : id = id ∧ ver' = cur + 1
      · rw [if_pos hv] at h; simp only [Option.some.injEq, Prod.mk.injEq] at h; exact .inr h.1.symm
      · rw [if_neg hv] at h; exact .inl h
    rcases hb' with h | rfl
    · obtain ⟨g1, g2, g3, _⟩ := hI.own _ _ _ _ _ h
      refine ⟨by rw [setBlock_size]; exact g1, g2, g3, fun id' hi v'' n'' x'' h' => hi (hI.inj _ _ _ _ _ _ _ _ _ h' h)⟩
    · obtain ⟨g1, g2, g3, _⟩ := hI.own _ _ _ _ _ hβ
      refine ⟨by rw [setBlock_size]; exact g1, g2, g3, fun id' hi v'' n'' x'' h' => hi (hI.inj _ _ _ _ _ _ _ _ _ h' hβ)⟩
  · refine ⟨by have := hok.1; omega, fun ver hv => ?_, fun ver h2 h3 => ?_⟩
    · show (if id = id ∧ ver = cur + 1 then _ else _) = _
      rw [if_neg (by omega)]
      exact hok.2.1 ver (by omega)
    · by_cases hv : ver = cur + 1
      · subst hv
        refine ⟨b, n, cput c (cells.length + 0) vs, t, f, ?_⟩
        rw [extOf_top]
        exact {
          β := hnew
          len := by simp
          top := fun _ => by simp
          room := hroom
          heap := by rw [setBlock_get, if_pos ⟨rfl, hblt⟩]
          size := by rw [cput_size]; exact hsz
          free := k.free
          get := fun i y hi hy => by
            rw [cput_get _ _ _ (by omega)]
            rw [List.getElem?_append] at hy
            split at hy
            · rename_i hlt
              rw [if_neg (by omega)]
              obtain ⟨u, hu, hr⟩ := k.get i y (by omega) hy
              exact ⟨u, hu, VR.mono hle _ _ hr⟩
            · rw [if_pos (by omega)]
              obtain ⟨u, hu, hr⟩ := hx.get _ _ hy
              exact ⟨u, by simpa using hu, VR.mono hle _ _ hr⟩ }
      · obtain ⟨b2, n2, c2, t2, f2, k2⟩ := hok.2.2 ver h2 (by omega)
        rw [extOf_succ _ _ _ _ (by omega)]
        have hβ2 : (e.add id (cur + 1) (b, n, cells.length + xs.length)).β id ver = some (b2, n2, extOf exts cur ver) := by
          show (if id = id ∧ ver = cur + 1 then _ else _) = _
          rw [if_neg (fun hh => hv hh.2)]; exact k2.β
        have hlen2 := k2.len
        by_cases hbb : b2 = b
        · subst hbb
          have hh := k2.heap
          rw [k.heap] at hh
          simp only [Option.some.injEq, Obj.cells.injEq] at hh
          obtain ⟨rfl, rfl, rfl⟩ := hh
          refine ⟨b2, n2, cput c (cells.length + 0) vs, t, f, ?_⟩
          exact {
            β := hβ2
            len := by rw [List.length_append]; omega
            top := fun hc => absurd hc hv
            room := k2.room
            heap := by rw [setBlock_get, if_pos ⟨rfl, hblt⟩]
            size := by rw [cput_size]; exact k2.size
            free := k2.free
            get := fun i y hi hy => by
              rw [cput_get _ _ _ (by omega), if_neg (by omega)]
              rw [List.getElem?_append, if_pos (by omega)] at hy
              obtain ⟨u, hu, hr⟩ := k2.get i y hi hy
              exact ⟨u, hu, VR.mono hle _ _ hr⟩ }
        · refine ⟨b2, n2, c2, t2, f2, ?_⟩
          exact {
            β := hβ2
            len := by rw [List.length_append]; omega
            top := fun hc => absurd hc hv
            room := k2.room
            heap := by rw [setBlock_get, if_neg (fun hh => hbb hh.1)]; exact k2.heap
            size := k2.size
            free := k2.free
            get := fun i y hi hy => by
              rw [List.getElem?_append, if_pos (by omega)] at hy
              obtain ⟨u, hu, hr⟩ := k2.get i y hi hy
              exact ⟨u, hu, VR.mono hle _ _ hr⟩ }
/-- a family is written on, in a block of its own -/
theorem grow_out (hI : Inv e H w) {id cur : Nat} {cells : List AV} {low : Nat} {exts : List Nat} (ho : H.get id = some (.arr cells low cur exts))
    {xs : List AV} {c : Array Value} {t : TypeId} (hc : cells.length + xs.length ≤ c.size) (hx : ∀ (i : Nat) (y : AV), (cells ++ xs)[i]? = some y → ∃ u, c[i]? = some u ∧ VR e w y u) :
    Le e w (e.add id (cur + 1) (w.heap.size, c.size, cells.length + xs.length)) (pushBlock w (.cells c t)) ∧
      Inv (e.add id (cur + 1) (w.heap.size, c.size, cells.length + xs.length)) (H.put id (.arr (cells ++ xs) low (cur + 1) ((cells.length + xs.length) :: exts))) (pushBlock w (.cells c t)) ∧
      (e.add id (cur + 1) (w.heap.size, c.size, cells.length + xs.length)).β id (cur + 1) = some (w.heap.size, c.size, cells.length + xs.length) := by
  have hok := hI.obj _ _ ho
  have hnone := hok.2.1 (cur + 1) (by omega)
  obtain ⟨b0, n0, c0, t0, f0, k⟩ := hok.2.2 cur hok.1 (Nat.le_refl _)
  have hle := ver_le (e' := e) (n := c.size) (x := cells.length + xs.length) (push_le hI (.cells c t)) hnone (.inr (Nat.le_refl _))
  have hnew : (e.add id (cur + 1) (w.heap.size, c.size, cells.length + xs.length)).β id (cur + 1) = some (w.heap.size, c.size, cells.length + xs.length) := by
    show (if id = id ∧ cur + 1 = cur + 1 then _ else _) = _; rw [if_pos ⟨rfl, rfl⟩]
  refine ⟨hle, ?_, hnew⟩
  refine step_inv hI hle id _ (AHeap.get_put H _ id) (Nat.le_refl _) (hI.own _ _ _ _ _ k.β).2.2.2
    (fun id' hi ver => by show (if id' = id ∧ ver = cur + 1 then _ else _) = _; rw [if_neg (fun hh => hi hh.1)])
    (fun id' hi ver' b' n' x' h => by have := (hI.own _ _ _ _ _ h).1; rw [pushBlock_get, if_neg (by omega)])
    (fun ver' b' n' x' h => ?_) ?_
  · change (if id = id ∧ ver' = cur + 1 then _ else e.β id ver') = _ at h
    by_cases hv : id = id ∧ ver' = cur + 1
    · rw [if_pos hv] at h
      simp only [Option.some.injEq, Prod.mk.injEq] at h
      obtain ⟨rfl, _, _⟩ := h
      refine ⟨by rw [pushBlock_size]; omega, hI.base, fun ho => ?_, fun id' hi v'' n'' x'' h' => ?_⟩
      · have := hI.out _ ho; omega
      · have := (hI.own _ _ _ _ _ h').1; omega
    · rw [if_neg hv] at h
      obtain ⟨g1, g2, g3, _⟩ := hI.own _ _ _ _ _ h
      refine ⟨by rw [pushBlock_size]; omega, g2, g3, fun id' hi v'' n'' x'' h' => hi (hI.inj _ _ _ _ _ _ _ _ _ h' h)⟩
  · refine ⟨by have := hok.1; omega, fun ver hv => ?_, fun ver h2 h3 => ?_⟩
    · show (if id = id ∧ ver = cur + 1 then _ else _) = _
      rw [if_neg (by omega)]
      exact hok.2.1 ver (by omega)
    · by_cases hv : ver = cur + 1
      · subst hv
        refine ⟨w.heap.size, c.size, c, t, (0, 0), ?_⟩
        rw [extOf_top]
        exact {
          β := hnew
          len := by simp
          top := fun _ => by simp
          room := hc
          heap := by rw [pushBlock_get, if_pos rfl]
          size := rfl
          free := .inl rfl
          get := fun i y hi hy => let ⟨u, hu, hr⟩ := hx i y hy; ⟨u, hu, VR.mono hle _ _ hr⟩ }
      · obtain ⟨b2, n2, c2, t2, f2, k2⟩ := hok.2.2 ver h2 (by omega)
        rw [extOf_succ _ _ _ _ (by omega)]
        have hβ2 : (e.add id (cur + 1) (w.heap.size, c.size, cells.length + xs.length)).β id ver = some (b2, n2, extOf exts cur ver) := by
          show (if id = id ∧ ver = cur + 1 then _ else _) = _
          rw [if_neg (fun hh => hv hh.2)]; exact k2.β
        have hlen2 := k2.len
        have hb2 := (hI.own _ _ _ _ _ k2.β).1
        refine ⟨b2, n2, c2, t2, f2, ?_⟩
        exact {
          β := hβ2
          len := by rw [List.length_append]; omega
          top := fun hc => absurd hc hv
          room := k2.room
          heap := by rw [pushBlock_get, if_neg (by omega)]; exact k2.heap
          size := k2.size
          free := k2.free
          get := fun i y hi hy => by
            rw [List.getElem?_append, if_pos (by omega)] at hy
            obtain ⟨u, hu, hr⟩ := k2.get i y hi hy
            exact ⟨u, hu, VR.mono hle _ _ hr⟩ }
end Go.Proofs.Ytcjfjfhggfcnfaa.Am
