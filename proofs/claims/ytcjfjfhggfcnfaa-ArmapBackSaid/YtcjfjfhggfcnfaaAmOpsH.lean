/- What is made, lengths, append and copy, held against the model's. -/
import Derived.Test.YtcjfjfhggfcnfaaAmOpsG
set_option linter.unusedSimpArgs false
set_option linter.unusedVariables false
namespace Go.Proofs.Ytcjfjfhggfcnfaa.Am
open Go
variable {P : Program} {w : World} {e : Env} {H H' : AHeap}

theorem asInt_ok (k : IntKind) (n : Int) : (asInt (.int k n)).run P w = .ok n w := rfl
theorem run_askRoom (n : Nat) : (askRoom n).run P w = .ok () w := by
  unfold askRoom
  split <;> rfl
theorem wrap_nat (n : Nat) (h : n ≤ 70368744177664) : IntKind.i64.wrap (n : Int) = n :=
  wrap_signed _ _ rfl (by show -((18446744073709551616 : Nat) : Int) ≤ _; omega) (by show _ < ((18446744073709551616 : Nat) : Int); omega)

theorem makeSlice_run {t el : TypeId} {i : TypeInfo} {z : AV} {v : Value} {l c : Nat} {kl kc : IntKind} (hu : P.underlying t = some (.slice el)) (hi : P.info? el = some i) (hz : ∀ w, (zeroValue el).run P w = .ok v w) (hzz : z = cv v)
    (hlc : l ≤ c) (hbc : i.bytes * c ≤ 70368744177664) (hc : c ≤ 70368744177664) (hn : v.cells.size = i.size) (hpos : 1 ≤ i.size) :
    (Instr.makeSlice t (.int kl l) (.int kc c)).run P w = ((do pure (Value.slice (some (← newRow el ((Array.range (c * i.size)).map (v.cells[· % v.cells.size]!)))) l c)) : Sem Value).run P w := by
  unfold Instr.makeSlice
  rw [bind_ok (run_underlying hu)]
  simp only
  rw [bind_ok (asInt_ok _ _), bind_ok (asInt_ok _ _), bind_ok (run_typeInfo hi)]
  simp only [wrap_nat c hc, wrap_nat l (by omega)]
  have hb : ¬ ((i.bytes : Int) * (c : Int) > 2 ^ 48) := by
    have : ((i.bytes * c : Nat) : Int) ≤ 70368744177664 := by omega
    rw [Int.natCast_mul] at this
    have h48 : (2 : Int) ^ 48 = 281474976710656 := rfl
    omega
  have h2 : (decide ((c : Int) < 0) || decide ((i.bytes : Int) * (c : Int) > 2 ^ 48) || decide ((l : Int) < 0) || decide ((l : Int) > (c : Int))) = false := by
    rw [decide_eq_false (show ¬ (c : Int) < 0 by omega), decide_eq_false hb, decide_eq_false (show ¬ (l : Int) < 0 by omega), decide_eq_false (show ¬ (l : Int) > (c : Int) by omega)]; rfl
  simp only [h2, Bool.false_eq_true, if_false]
  rw [bind_ok (run_askRoom _), bind_ok (run_sizeOf (szOf_info hi))]
  simp only [Int.toNat_natCast]
  by_cases h0 : c * i.size = 0
  · rw [if_pos h0, bind_ok (run_pure P (#[] : Array Value) w)]
    have hr0 : ∀ f g : Nat → Value, (Array.range (c * i.size)).map f = (Array.range (c * i.size)).map g := by intro f g; rw [h0]; simp
    rw [hr0 _ (v.cells[· % v.cells.size]!)]
  · rw [if_neg h0, bind_ok (hz w), bind_ok (run_pure P v.cells w)]
theorem oMakeSlice_ok {t : TypeId} {l c y : AV} {vl vc : Value} (hI : Inv e H w) (hl : VR e w l vl) (hc : VR e w c vc) (h : oMakeSlice P t l c H = some (y, H')) : Goes P e w (Instr.makeSlice t vl vc) y H' := by
  unfold oMakeSlice at h
  split at h
  · rename_i el n b l' c' hs hl' hc'
    obtain ⟨hu, i, hi, rfl, rfl⟩ := sliceInfo_some hs
    obtain ⟨kl, rfl⟩ := natOfA_ok hl hl'
    obtain ⟨kc, rfl⟩ := natOfA_ok hc hc'
    split at h
    · rename_i z g1 g2 g3 hz g4
      rw [ble_iff] at g1 g2 g3 g4
      split at h
      · rename_i g5
        have g5 := Nat.eq_of_beq_eq_true g5
        rw [llen_eq] at g5
        cases h
        obtain ⟨i', v, hi', hzv, rfl, hn⟩ := zeroOf_some hz
        have hzr : ∀ w, (zeroValue el).run P w = .ok v w := by
          intro w
          unfold zeroValue
          rw [bind_ok (run_typeInfo hi'), hzv]; rfl
        have hz0 := VRs_cells (e := e) (w := w) hn (cv_ok v)
        have hvs : v.cells.size = i.size := by have := hz0.length; rw [g5] at this; simpa using this
        have hcop := copies_ok hz0 g5 g4 (m := l')
        have hbig : ∀ (j : Nat) (y : AV), (lcopies l' (cellsOf (cv v)))[j]? = some y → ∃ u, ((Array.range (c' * i.size)).map (v.cells[· % v.cells.size]!))[j]? = some u ∧ VR e w y u := by
          intro j y hy
          obtain ⟨u, hu', hr⟩ := hcop.get j y hy
          refine ⟨u, ?_, hr⟩
          have hj : j < l' * i.size := by
            have := (List.getElem?_eq_some_iff.mp hy).1
            rw [lcopies_length, g5] at this; exact this
          have hj' : j < c' * i.size := Nat.lt_of_lt_of_le hj (Nat.mul_le_mul_right _ g1)
          rw [Array.getElem?_toList, Array.getElem?_map, Array.getElem?_range, if_pos hj] at hu'
          rw [Array.getElem?_map, Array.getElem?_range, if_pos hj']
          exact hu'
        have hlen : (lcopies l' (cellsOf (cv v))).length = l' * i.size := by rw [lcopies_length, g5]
        have hmul : l' * i.size ≤ c' * i.size := Nat.mul_le_mul_right _ g1
        obtain ⟨hle, hinv, hβ⟩ := newArr_ok hI (lcopies l' (cellsOf (cv v))) ((Array.range (c' * i.size)).map (v.cells[· % v.cells.size]!)) el (by rw [hlen]; simpa using hmul) hbig
        refine ⟨_, _, .slice (some ⟨w.heap.size, 0, none⟩) l' c', (makeSlice_run hu hi hzr rfl g1 g2 g3 hvs g4).trans rfl, hle, hinv, ?_⟩
        simp only [VR]
        refine ⟨_, _, _, 0, c', hβ, rfl, g1, by rw [hlen]; omega, fun c'' hc'' => Option.some.inj hc'', .inl ⟨rfl, by simp⟩⟩
      · cases h
    · cases h
  · cases h

theorem newMap_ok (hI : Inv e H w) : ∃ e' w', (do pure (Value.map (some (← newObj (.map #[] 0)))) : Sem Value).run P w = .ok (.map (some w.heap.size)) w' ∧ Le e w e' w' ∧ Inv e' (H.new (.map [] 0)) w' ∧ VR e' w' (.map H.next) (.map (some w.heap.size)) := by
  have hβ : (e.add H.next 0 (w.heap.size, 0, 0)).β H.next 0 = some (w.heap.size, 0, 0) := by
    show (if H.next = H.next ∧ 0 = 0 then _ else _) = _; rw [if_pos ⟨rfl, rfl⟩]
  refine ⟨e.add H.next 0 (w.heap.size, 0, 0), pushBlock w (.map #[] 0), rfl, alloc_le hI _ 0 0, alloc_inv hI _ _ 0 0 ?_, by simp only [VR]; exact ⟨_, _, _, hβ, rfl⟩⟩
  exact ⟨w.heap.size, 0, 0, #[], hβ, by rw [pushBlock_get, if_pos rfl], rfl, fun i a c ha => by simp at ha⟩
theorem oMakeMap_ok {t : TypeId} {r : Option AV} {vr : Option Value} {y : AV} (hI : Inv e H w) (hr : OptOk e w r vr) (h : oMakeMap P t r H = some (y, H')) : Goes P e w (Instr.makeMap t vr) y H' := by
  unfold oMakeMap at h
  obtain ⟨e', w', hrun, hle, hinv, hv⟩ := newMap_ok (P := P) hI
  split at h
  · cases h
    have : vr = none := by cases vr with
      | none => rfl
      | some v => exact hr.elim
    subst this
    exact ⟨e', w', _, hrun, hle, hinv, hv⟩
  · rename_i v
    split at h
    · rename_i r' k n hm
      cases h
      cases vr with
      | none => exact hr.elim
      | some u =>
        have hr' : VR e w (.int k n) u := hr
        simp only [VR] at hr'
        subst hr'
        refine ⟨e', w', _, ?_, hle, hinv, hv⟩
        have hk : ∃ a b, P.underlying t = some (.map a b) := by
          unfold mapTypes at hm
          split at hm
          · rename_i hk; exact ⟨_, _, hk⟩
          · cases hm
        obtain ⟨a, b, hk⟩ := hk
        unfold Instr.makeMap
        simp only
        rw [bind_ok (run_underlying hk)]
        simp only
        rw [bind_ok (asInt_ok _ _)]
        exact hrun
    · cases h

theorem entriesA_ok {m : AV} {v : Value} {es : List AEntry} {clock : Nat} (hI : Inv e H w) (hv : VR e w m v) (h : entriesA m H = some (es, clock)) :
    ∃ id b n x cs, m = .map id ∧ H.get id = some (.map es clock) ∧ e.β id 0 = some (b, n, x) ∧ v = .map (some b) ∧ w.heap[b]? = some (.map cs clock) ∧ EntriesOk e w es cs.toList := by
  cases m <;> simp only [entriesA] at h <;> try (cases h; done)
  rename_i id
  split at h
  · rename_i es' clock' ho
    cases h
    obtain ⟨b, n, x, cs, h1, h2, h3⟩ := hI.obj _ _ ho
    simp only [VR] at hv
    obtain ⟨b', n', x', hb, rfl⟩ := hv
    rw [h1] at hb
    simp only [Option.some.injEq, Prod.mk.injEq] at hb
    obtain ⟨rfl, rfl, rfl⟩ := hb
    exact ⟨id, b, n, x, cs, rfl, ho, h1, rfl, h2, h3⟩
  · cases h
theorem run_getObj {b : Nat} {o : Obj} (h : w.heap[b]? = some o) (hn : ∀ c t f, o ≠ .cells c t f) : (getObj b).run P w = .ok o w := by
  unfold getObj
  cases o <;> first
    | exact absurd rfl (hn _ _ _)
    | simp only [Sem.run, h]
theorem run_setObj {b : Nat} {o o' : Obj} (h : w.heap[b]? = some o) (hn : ∀ c t f, o ≠ .cells c t f) : (setObj b o').run P w = .ok () (setBlock w b o') := by
  unfold setObj
  cases o <;> first
    | exact absurd rfl (hn _ _ _)
    | (simp only [Sem.run, h]; rfl)
theorem lenA_ok {ts : Array TypeId} {t : TypeId} {xs : List AV} {vs : Array Value} {y : AV} (hI : Inv e H w) (hv : VRs e w xs vs.toList) (h : lenA P H ts.toList xs = some y) : ∃ u, (Builtin.len_ ts t vs).run P w = .ok u w ∧ VR e w y u := by
  obtain ⟨ts⟩ := ts
  obtain ⟨vs⟩ := vs
  simp only at h hv
  unfold lenA at h
  split at h
  · rename_i ty ts' x xs'
    simp only [VRs] at hv
    obtain ⟨v, us, rfl, hx, _⟩ := hv
    split at h
    · rename_i s hk
      cases h
      simp only [VR] at hx
      obtain ⟨b, rfl, rfl⟩ := hx
      refine ⟨_, by unfold Builtin.len_; simp only [List.getElem?_toArray, List.getElem?_cons_zero]; rw [bind_ok (run_underlying hk)]; rfl, ?_⟩
      simp only [VR, llen_eq, str_size rfl]; rfl
    · rename_i el hk
      cases h
      simp only [VR] at hx
      subst hx
      exact ⟨_, by unfold Builtin.len_; simp only [List.getElem?_toArray, List.getElem?_cons_zero]; rw [bind_ok (run_underlying hk)]; rfl, by simp only [VR]; rfl⟩
    · rename_i el id ver off len esz cap hk
      cases h
      simp only [VR] at hx
      obtain ⟨b', N, X, o, c', hβ, rfl, _⟩ := hx
      exact ⟨_, by unfold Builtin.len_; simp only [List.getElem?_toArray, List.getElem?_cons_zero]; rw [bind_ok (run_underlying hk)]; rfl, by simp only [VR]; rfl⟩
    · rename_i el cells len cp fr hk
      cases h
      simp only [VR] at hx
      obtain ⟨b, o, sp, c, rfl, _⟩ := hx
      exact ⟨_, by unfold Builtin.len_; simp only [List.getElem?_toArray, List.getElem?_cons_zero]; rw [bind_ok (run_underlying hk)]; rfl, by simp only [VR]; rfl⟩
    · rename_i a b hk
      cases h
      simp only [VR] at hx
      subst hx
      exact ⟨_, by unfold Builtin.len_; simp only [List.getElem?_toArray, List.getElem?_cons_zero]; rw [bind_ok (run_underlying hk)]; rfl, by simp only [VR]; rfl⟩
    · rename_i a b id hk
      split at h
      · rename_i es clock he
        cases h
        obtain ⟨id', b', n, x, cs, _, ho, hβ, rfl, hb, hes⟩ := entriesA_ok hI hx he
        refine ⟨_, by
          unfold Builtin.len_
          simp only [List.getElem?_toArray, List.getElem?_cons_zero]
          rw [bind_ok (run_underlying hk)]
          simp only
          rw [bind_ok (run_getObj hb (by simp))]; rfl, ?_⟩
        · have := hes.1
          simp only [VR, llen_eq, this]
          simp [goInt]
      · cases h
    · rename_i n el hk
      cases h
      exact ⟨_, by unfold Builtin.len_; simp only [List.getElem?_toArray, List.getElem?_cons_zero]; rw [bind_ok (run_underlying hk)]; rfl, by simp only [VR]; rfl⟩
    · cases h
  · cases h
end Go.Proofs.Ytcjfjfhggfcnfaa.Am
