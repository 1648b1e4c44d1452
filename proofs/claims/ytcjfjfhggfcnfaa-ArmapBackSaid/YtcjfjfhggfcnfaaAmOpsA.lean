/- Operations on memory, held against the model's: loads, stores, new variables, structs and slices that are written out. -/
import Derived.Test.YtcjfjfhggfcnfaaAmBase
set_option linter.unusedSimpArgs false
set_option linter.unusedVariables false
namespace Go.Proofs.Ytcjfjfhggfcnfaa.Am
open Go
variable {P : Program} {w : World} {e : Env} {H H' : AHeap}

/-- The model's operation comes to what the abstract one told. -/
def Goes (P : Program) (e : Env) (w : World) (s : Sem Value) (x : AV) (H' : AHeap) : Prop :=
  ∃ e' w' v, s.run P w = .ok v w' ∧ Le e w e' w' ∧ Inv e' H' w' ∧ VR e' w' x v
theorem Goes.same {s : Sem Value} {x : AV} {v : Value} (hI : Inv e H w) (h : s.run P w = .ok v w) (hv : VR e w x v) : Goes P e w s x H :=
  ⟨e, w, v, h, Le.refl e w, hI, hv⟩

theorem arrRead_some {cells : List AV} {low cur ver off n : Nat} {exts : List Nat} {cs : List AV} (h : arrRead cells low cur exts ver off n = some cs) :
    low ≤ ver ∧ ver ≤ cur ∧ off + n ≤ extOf exts cur ver ∧ cs = (cells.drop off).take n := by
  unfold arrRead at h
  split at h
  · rename_i h1 h2 h3
    simp only [ldrop_eq, ltake_eq, Option.some.injEq] at h
    exact ⟨Nat.le_of_ble_eq_true h1, Nat.le_of_ble_eq_true h2, Nat.le_of_ble_eq_true h3, h.symm⟩
  · cases h
theorem VerOk.read {id : Nat} {cells : List AV} {cur ver x b n : Nat} {c : Array Value} {t : TypeId} {f : Nat × Nat} (k : VerOk e w id cells cur ver x b n c t f) {off m : Nat} (h : off + m ≤ x) :
    ∃ vs, vs.length = m ∧ (∀ (j : Nat) (u : Value), vs[j]? = some u → w.cell? ⟨b, off + j, none⟩ = some u) ∧ VRs e w ((cells.drop off).take m) vs := by
  have hx := k.len
  have hn := k.room
  have hs := k.size
  refine ⟨(c.toList.drop off).take m, by simp; omega, fun j u hj => ?_, VRs.of_get (by simp; omega) fun i y hy => ?_⟩
  · rw [List.getElem?_take] at hj
    split at hj
    · rw [List.getElem?_drop] at hj
      rw [cell_of k.heap]; simpa using hj
    · cases hj
  · rw [List.getElem?_take] at hy ⊢
    split at hy
    · rename_i hi
      rw [if_pos hi]
      rw [List.getElem?_drop] at hy ⊢
      obtain ⟨u, hu, hr⟩ := k.get (off + i) y (by omega) hy
      exact ⟨u, by simpa using hu, hr⟩
    · cases hy
theorem rdMem_ok {n : Nat} {a : AV} {v : Value} {cs : List AV} (hI : Inv e H w) (h : rdMem n a H = some cs) (hv : VR e w a v) :
    ∃ b o vs, v = .pointer (some ⟨b, o, none⟩) ∧ vs.length = n ∧ (∀ (j : Nat) (u : Value), vs[j]? = some u → w.cell? ⟨b, o + j, none⟩ = some u) ∧ VRs e w cs vs := by
  cases a <;> simp only [rdMem] at h <;> try (simp at h; done)
  · rename_i id ver off
    cases ho : H.get id with
    | none => rw [ho] at h; cases h
    | some o =>
      rw [ho] at h
      cases o <;> simp only [rdArr] at h <;> try (simp at h; done)
      rename_i cells low cur exts
      obtain ⟨h1, h2, h3, rfl⟩ := arrRead_some h
      obtain ⟨b, m, c, t, f, k⟩ := (hI.obj _ _ ho).2.2 ver h1 h2
      simp only [VR] at hv
      obtain ⟨b', n', x', hb, rfl⟩ := hv
      rw [k.β] at hb
      simp only [Option.some.injEq, Prod.mk.injEq] at hb
      obtain ⟨rfl, rfl, rfl⟩ := hb
      obtain ⟨vs, hl, hc, hr⟩ := k.read h3
      exact ⟨b, off, vs, rfl, hl, hc, hr⟩
  · rename_i cells
    rw [nble] at h
    by_cases hn : n ≤ cells.length
    · simp [hn] at h
      subst h
      simp only [VR] at hv
      obtain ⟨b, o, rfl, hm⟩ := hv
      have hg : ∀ i : Nat, i < n → ∃ u, w.cell? ⟨b, o + i, none⟩ = some u ∧ ∀ y, cells[i]? = some y → VR e w y u := by
        intro i hi
        obtain ⟨_, _, u, hu, hr⟩ := hm.get i cells[i] (by simp)
        exact ⟨u, hu, fun y hy => by rw [List.getElem?_eq_getElem (by omega)] at hy; cases hy; exact hr⟩
      refine ⟨b, o, (List.range n).map fun i => (w.cell? ⟨b, o + i, none⟩).getD undef, rfl, by simp, fun j u hj => ?_, VRs.of_get (by simp; omega) fun i y hy => ?_⟩
      · rw [List.getElem?_map] at hj
        by_cases hjn : j < n
        · rw [List.getElem?_range hjn] at hj
          obtain ⟨u', hu, _⟩ := hg j hjn
          simp [hu] at hj; subst hj; exact hu
        · rw [List.getElem?_eq_none (by simp; omega)] at hj; simp at hj
      · rw [List.getElem?_take] at hy
        split at hy
        · rename_i hi
          obtain ⟨u, hu, hr⟩ := hg i hi
          refine ⟨u, ?_, hr y hy⟩
          rw [List.getElem?_map, List.getElem?_range hi]; simp [hu]
        · cases hy
    · simp [hn] at h

theorem oLoad_ok {t : TypeId} {a x : AV} {v : Value} (hI : Inv e H w) (hv : VR e w a v) (h : oLoad P t a H = some (x, H')) : Goes P e w (Instr.loadAt t v) x H' := by
  unfold oLoad at h
  cases hA : aggOf P t with
  | none => rw [hA] at h; cases h
  | some b =>
    rw [hA] at h
    cases b
    · cases hr : rdMem 1 a H with
      | none => simp only [hr] at h; cases h
      | some cs =>
        simp only [hr] at h
        match cs, h with
        | [y], h =>
          simp only [Option.some.injEq, Prod.mk.injEq] at h
          obtain ⟨rfl, rfl⟩ := h
          obtain ⟨b, o, vs, rfl, hl, hc, hs⟩ := rdMem_ok hI hr hv
          simp only [VRs] at hs
          obtain ⟨u, us, rfl, hu, rfl⟩ := hs
          refine .same hI ?_ hu
          have hcell : w.cell? ⟨b, o, none⟩ = some u := hc 0 u rfl
          unfold Instr.loadAt loadVar
          rw [bind_ok (s := Instr.sureAddr _) (w' := w) (a := ⟨b, o, none⟩) rfl, bind_ok (run_isAgg hA)]
          simp only [Bool.false_eq_true, if_false, load, Sem.run, hcell]
        | [], h => cases h
        | _ :: _ :: _, h => cases h
    · cases hn : szOf P t with
      | none => simp only [hn] at h; cases h
      | some n =>
        simp only [hn] at h
        cases hr : rdMem n a H with
        | none => simp only [hr] at h; cases h
        | some cs =>
          simp only [hr, Option.some.injEq, Prod.mk.injEq] at h
          obtain ⟨rfl, rfl⟩ := h
          obtain ⟨b, o, vs, rfl, hl, hc, hs⟩ := rdMem_ok hI hr hv
          refine .same (v := .agg vs.toArray) hI ?_ (by simp only [VR]; exact ⟨_, rfl, by simpa using hs⟩)
          unfold Instr.loadAt loadVar
          rw [bind_ok (s := Instr.sureAddr _) (w' := w) (a := ⟨b, o, none⟩) rfl, bind_ok (run_isAgg hA)]
          simp only [if_true]
          rw [bind_ok (run_sizeOf hn), bind_ok (run_loadCells vs hl hc)]
          rfl

/-- a unit's operation: nothing is told -/
def GoesU (P : Program) (e : Env) (w : World) (s : Sem Unit) (H' : AHeap) : Prop :=
  ∃ e' w', s.run P w = .ok () w' ∧ Le e w e' w' ∧ Inv e' H' w'

theorem wrArr_some {ver off : Nat} {xs : List AV} {o o' : AObj} (h : wrArr ver off xs o = some o') :
    ∃ cells low cur exts, o = .arr cells low cur exts ∧ ver = cur ∧ off + xs.length ≤ cells.length ∧ o' = .arr (lput cells off xs) cur cur exts := by
  cases o <;> simp only [wrArr] at h <;> try (simp at h; done)
  rename_i cells low cur exts
  rw [nbeq, nble] at h
  by_cases h1 : ver = cur
  · by_cases h2 : off + xs.length ≤ cells.length
    · simp [h1, h2] at h
      exact ⟨cells, low, cur, exts, rfl, h1, h2, h.symm⟩
    · simp [h1, h2] at h
  · simp [h1] at h
theorem wrMem_ok {xs : List AV} {vs : List Value} {a : AV} {v : Value} (hI : Inv e H w) (h : wrMem xs a H = some H') (hv : VR e w a v) (hx : VRs e w xs vs) (h1 : ∀ u ∈ vs, oneCellV u = true) :
    ∃ b o w', v = .pointer (some ⟨b, o, none⟩) ∧ (storeCells ⟨b, o, none⟩ vs).run P w = .ok () w' ∧ Le e w e w' ∧ Inv e H' w' := by
  cases a <;> simp only [wrMem] at h <;> try (simp at h; done)
  rename_i id ver off
  cases ho : H.get id with
  | none => rw [ho] at h; cases h
  | some o =>
    simp only [ho] at h
    cases hw : wrArr ver off xs o with
    | none => rw [hw] at h; cases h
    | some o' =>
      simp only [hw, Option.some.injEq] at h
      subst h
      obtain ⟨cells, low, cur, exts, rfl, rfl, hl, rfl⟩ := wrArr_some hw
      have hok := hI.obj _ _ ho
      obtain ⟨b, n, c, t, f, k⟩ := hok.2.2 ver hok.1 (Nat.le_refl _)
      have htop := k.top rfl
      have hroom := k.room
      have hsize := k.size
      have hxl := hx.length
      simp only [VR] at hv
      obtain ⟨b', n', x', hb, rfl⟩ := hv
      rw [k.β] at hb
      simp only [Option.some.injEq, Prod.mk.injEq] at hb
      obtain ⟨rfl, rfl, rfl⟩ := hb
      have hrun := run_storeCells (P := P) (o := off) vs 0 c w k.heap (by rw [hsize]; exact k.free) (by omega) h1
      have hle := set_le hI k.β (.cells (cput c (off + 0) vs) t f)
      refine ⟨b, off, _, rfl, hrun, hle, set_inv hI k.β _ _ ?_⟩
      refine ⟨Nat.le_refl _, hok.2.1, fun ver' h2 h3 => ?_⟩
      obtain rfl : ver' = ver := by omega
      have hblt : b < w.heap.size := (hI.own _ _ _ _ _ k.β).1
      refine ⟨b, n, cput c (off + 0) vs, t, f, ?_⟩
      exact {
        β := k.β
        len := by rw [lput_length]; exact k.len
        top := fun _ => by rw [lput_length]; exact htop
        room := hroom
        heap := by rw [setBlock_get, if_pos ⟨rfl, hblt⟩]
        size := by rw [cput_size]; exact hsize
        free := k.free
        get := fun i y hi hy => by
          rw [lput_get] at hy
          split at hy
          · rw [cput_get _ _ _ (by omega)]
            split at hy
            · rename_i hin
              rw [if_pos (by omega)]
              obtain ⟨u, hu, hr⟩ := hx.get _ _ hy
              exact ⟨u, by simpa using hu, VR.mono hle _ _ hr⟩
            · rename_i hin
              rw [if_neg (by omega)]
              obtain ⟨u, hu, hr⟩ := k.get i y hi hy
              exact ⟨u, hu, VR.mono hle _ _ hr⟩
          · cases hy }
theorem oStore_ok {t : TypeId} {a x y : AV} {v u : Value} (hI : Inv e H w) (hv : VR e w a v) (hu : VR e w x u) (h : oStore P t a x H = some (y, H')) : y = .tup [] ∧ GoesU P e w (Instr.storeAt t v u) H' := by
  unfold oStore at h
  cases hn : szOf P t with
  | none => rw [hn] at h; cases h
  | some n =>
    simp only [hn, nbeq, llen_eq, lall_eq] at h
    by_cases h1 : (cellsOf x).length = n
    · by_cases h2 : (cellsOf x).all oneCell = true
      · simp only [h1, decide_true, h2] at h
        cases hw : wrMem (cellsOf x) a H with
        | none => simp only [hw] at h; cases h
        | some H2 =>
          simp only [hw, Option.some.injEq, Prod.mk.injEq] at h
          obtain ⟨rfl, rfl⟩ := h
          refine ⟨rfl, ?_⟩
          have hx0 : x ≠ .opq := by rintro rfl; simp [cellsOf, oneCell] at h2
          have hcs := VRs_cells hx0 hu
          have hone : ∀ u' ∈ u.cells.toList, oneCellV u' = true := by
            intro u' hu'
            obtain ⟨i, hi, rfl⟩ := List.getElem_of_mem hu'
            have hlt : i < (cellsOf x).length := by rw [← hcs.length]; exact hi
            obtain ⟨z, hz, hr⟩ := hcs.get i (cellsOf x)[i] (by simp)
            rw [List.getElem?_eq_getElem hi] at hz
            cases hz
            exact oneCell_ok (List.all_eq_true.mp h2 _ (List.getElem_mem _)) hr
          obtain ⟨b, o, w', rfl, hrun, hle, hinv⟩ := wrMem_ok (P := P) hI hw hv hcs hone
          refine ⟨e, w', ?_, hle, hinv⟩
          unfold Instr.storeAt storeVar
          have hsz : u.cells.size = n := by have := hcs.length; rw [h1] at this; simpa using this
          rw [bind_ok (s := Instr.sureAddr _) (w' := w) (a := ⟨b, o, none⟩) rfl, bind_ok (run_sizeOf hn)]
          simp only [hsz, ne_eq, not_true_eq_false, if_false]
          exact hrun
      · simp only [h1, decide_true] at h
        cases h3 : (cellsOf x).all oneCell
        · rw [h3] at h; cases h
        · exact absurd h3 h2
    · simp only [h1, decide_false] at h; cases h
end Go.Proofs.Ytcjfjfhggfcnfaa.Am
