/- Operations that make structs, variables and slices, held against the model's. -/
import Derived.Test.YtcjfjfhggfcnfaaAmOpsA
import Derived.Laws.Sem
set_option linter.unusedSimpArgs false
set_option linter.unusedVariables false
namespace Go.Proofs.Ytcjfjfhggfcnfaa.Am
open Go
variable {P : Program} {w : World} {e : Env} {H H' : AHeap}

theorem run_mapList {α β : Type} (f : α → Sem β) (g : α → β) : ∀ (l : List α), (∀ x ∈ l, (f x).run P w = .ok (g x) w) → (l.mapM f).run P w = .ok (l.map g) w
  | [], _ => by rw [List.mapM_nil]; rfl
  | x :: l, h => by
    rw [List.mapM_cons, bind_ok (h x (List.mem_cons_self ..)), bind_ok (run_mapList f g l fun y hy => h y (List.mem_cons_of_mem _ hy))]; rfl
theorem run_mapArray {α β : Type} (f : α → Sem β) (g : α → β) (l : Array α) (h : ∀ x ∈ l.toList, (f x).run P w = .ok (g x) w) : (l.mapM f).run P w = .ok (l.map g) w := by
  have h1 := run_mapList f g l.toList h
  rw [← Array.toList_mapM] at h1
  have h2 : (Array.toList <$> l.mapM f : Sem (List β)) = l.mapM f >>= fun a => pure a.toList := by rw [← bind_pure_comp]
  rw [h2, run_bind'] at h1
  cases hr : (l.mapM f).run P w with
  | halt x y => rw [hr] at h1; cases h1
  | ok a w' =>
    simp only [hr, run_pure, Result.ok.injEq] at h1
    obtain ⟨h3, rfl⟩ := h1
    congr 1
    apply Array.toList_inj.mp
    rw [h3]; simp

theorem oNew_ok {t : TypeId} {cs : List AV} {c : Array Value} (hI : Inv e H w) (h : VRs e w cs c.toList) : Goes P e w (do pure (.pointer (some (← newRow t c)))) (.ptr H.next 0 0) (newArr H cs) := by
  have hl := h.length
  have hl' : c.size = cs.length := by simpa using hl
  obtain ⟨hle, hinv, hβ⟩ := newArr_ok hI cs c t (by omega) fun i y hy => by
    obtain ⟨u, hu, hr⟩ := h.get i y hy
    exact ⟨u, by simpa using hu, hr⟩
  refine ⟨_, _, .pointer (some ⟨w.heap.size, 0, none⟩), rfl, hle, hinv, ?_⟩
  simp only [VR]
  exact ⟨_, _, _, hβ, rfl⟩
theorem oAlloc_ok {t : TypeId} {x : AV} (hI : Inv e H w) (h : oAlloc P t H = some (x, H')) : Goes P e w (Instr.alloc t true (.tuple #[])) x H' := by
  unfold oAlloc at h
  cases hz : zeroOf P t with
  | none => rw [hz] at h; cases h
  | some z =>
    simp only [hz, oNew, Option.some.injEq, Prod.mk.injEq] at h
    obtain ⟨rfl, rfl⟩ := h
    obtain ⟨v, hrun, rfl, hn⟩ := run_zeroValue (w := w) hz
    have hcs := VRs_cells (e := e) (w := w) hn (cv_ok v)
    obtain ⟨e', w', u, h1, h2⟩ := oNew_ok (P := P) (t := t) hI hcs
    refine ⟨e', w', u, ?_, h2⟩
    unfold Instr.alloc
    rw [bind_ok hrun]
    exact h1
theorem oBox_ok {t : TypeId} {x y : AV} {v : Value} (hI : Inv e H w) (hv : VR e w y v) (h : oBox y H = some (x, H')) : Goes P e w (Instr.box t v) x H' := by
  unfold oBox at h
  cases hk : known y with
  | none => rw [hk] at h; cases h
  | some y' =>
    obtain ⟨rfl, hn⟩ := known_some hk
    simp only [hk, oNew, Option.some.injEq, Prod.mk.injEq] at h
    obtain ⟨rfl, rfl⟩ := h
    exact oNew_ok hI (VRs_cells hn hv)

theorem foldl_cput (l : List Value) (k off : Nat) (c : Array Value) : (l.zipIdx k).foldl (fun cs (p : Value × Nat) => cs.setIfInBounds (off + p.2) p.1) c = cput c (off + k) l := by
  induction l generalizing k c with
  | nil => rfl
  | cons v l ih => rw [List.zipIdx_cons, List.foldl_cons, ih]; rfl
theorem zip_cput (vs c : Array Value) (off : Nat) : vs.zipIdx.foldl (fun cs (x : Value × Nat) => match x with | (c, j) => cs.setIfInBounds (off + j) c) c = cput c off vs.toList := by
  rw [← Array.foldl_toList, Array.toList_zipIdx]
  exact foldl_cput vs.toList 0 off c

def PartsOk (e : Env) (w : World) (ps : List (Nat × AV)) (vs : List (Nat × Value)) : Prop :=
  ps.length = vs.length ∧ ∀ (i : Nat) (p : Nat × AV) (v : Nat × Value), ps[i]? = some p → vs[i]? = some v → p.1 = v.1 ∧ VR e w p.2 v.2
theorem PartsOk.cons {p : Nat × AV} {ps : List (Nat × AV)} {vs : List (Nat × Value)} (h : PartsOk e w (p :: ps) vs) : ∃ v us, vs = v :: us ∧ p.1 = v.1 ∧ VR e w p.2 v.2 ∧ PartsOk e w ps us := by
  cases vs with
  | nil => exact absurd h.1 (by simp)
  | cons v us =>
    obtain ⟨h1, h2⟩ := h.2 0 p v rfl rfl
    exact ⟨v, us, rfl, h1, h2, by have := h.1; simpa using this, fun i a b ha hb => h.2 (i + 1) a b (by simpa using ha) (by simpa using hb)⟩
theorem VRs.put {cs xs : List AV} {c : Array Value} {vs : List Value} (h : VRs e w cs c.toList) (k : VRs e w xs vs) (off : Nat) (hl : off + xs.length ≤ cs.length) : VRs e w (lput cs off xs) (cput c off vs).toList := by
  have h1 : c.size = cs.length := by have := h.length; simpa using this
  have h2 := k.length
  refine VRs.of_get (by simp [cput_size, h1]) fun i y hy => ?_
  rw [lput_get] at hy
  split at hy
  · have hc := cput_get c off vs (by omega) i
    split at hy
    · rename_i hin
      rw [if_pos (by omega)] at hc
      obtain ⟨u, hu, hr⟩ := k.get _ _ hy
      exact ⟨u, by rw [Array.getElem?_toList, hc, hu], hr⟩
    · rename_i hin
      rw [if_neg (by omega)] at hc
      obtain ⟨u, hu, hr⟩ := h.get _ _ hy
      exact ⟨u, by rw [Array.getElem?_toList, hc, ← Array.getElem?_toList, hu], hr⟩
  · cases hy
theorem fillA_ok {pa pc : Nat → Option (Nat × Nat)} (hp : ∀ i r, pa i = some r → pc i = some r) : ∀ (ps : List (Nat × AV)) (vs : List (Nat × Value)) (cs cs' : List AV) (c : Array Value),
    PartsOk e w ps vs → VRs e w cs c.toList → fillA pa ps cs = some cs' → ∃ c', Instr.fill pc c vs = some c' ∧ VRs e w cs' c'.toList
  | [], vs, cs, cs', c, h, hc, hf => by
    have : vs = [] := by have := h.1; simpa using this.symm
    subst this
    simp only [fillA, listRec_nil, Option.some.injEq] at hf
    subst hf
    exact ⟨c, rfl, hc⟩
  | p :: ps, vs, cs, cs', c, h, hc, hf => by
    obtain ⟨v, us, rfl, h1, h2, h3⟩ := h.cons
    change (match pa p.1 with
      | none => none
      | some (off, size) => match known p.2 with
        | none => none
        | some _ => match Nat.beq (llen (cellsOf p.2)) size, Nat.ble (Nat.add off size) (llen cs) with
          | true, true => fillA pa ps (lput cs off (cellsOf p.2))
          | _, _ => none) = some cs' at hf
    cases hpa : pa p.1 with
    | none => rw [hpa] at hf; cases hf
    | some r =>
      obtain ⟨off, size⟩ := r
      simp only [hpa] at hf
      cases hk : known p.2 with
      | none => rw [hk] at hf; cases hf
      | some y =>
        simp only [hk] at hf
        obtain ⟨_, hn⟩ := known_some hk
        split at hf
        · rename_i he hb
          have he := Nat.eq_of_beq_eq_true he
          have hb : off + size ≤ llen cs := Nat.le_of_ble_eq_true hb
          rw [llen_eq] at he hb
          have hcs := VRs_cells hn h2
          have hl1 : v.2.cells.size = size := by have := hcs.length; rw [← he]; simpa using this
          have hl2 : c.size = cs.length := by have := hc.length; simpa using this
          have hput := hc.put hcs off (by omega)
          obtain ⟨c', hc', hr⟩ := fillA_ok hp ps us _ _ _ h3 hput hf
          refine ⟨c', ?_, hr⟩
          obtain ⟨i, v⟩ := v
          simp only at h1
          subst h1
          simp only [Instr.fill, hp _ _ hpa, hl1, hl2, ne_eq, not_true_eq_false, decide_false, Bool.false_or, decide_eq_true_eq, gt_iff_lt]
          rw [if_neg (by simp; omega), zip_cput]
          exact hc'
        · cases hf
theorem all_sizes {fs : Array Field} (h : sizesOk P fs = true) : ∀ f ∈ fs.toList, ∃ n, szOf P f.type = some n := by
  unfold sizesOk at h
  rw [lall_eq, List.all_eq_true] at h
  intro f hf
  have := h f hf
  cases hs : szOf P f.type with
  | none => rw [hs] at this; cases this
  | some n => exact ⟨n, rfl⟩
theorem buildA_ok {t : TypeId} {ps : List (Nat × AV)} {vs : Array (Nat × Value)} {x : AV} (hI : Inv e H w) (hp : PartsOk e w ps vs.toList) (h : buildA P t ps = some x) : Goes P e w (Instr.build t vs) x H := by
  unfold buildA at h
  cases hz : zeroOf P t with
  | none => rw [hz] at h; cases h
  | some z =>
    obtain ⟨v, hrun, rfl, hn⟩ := run_zeroValue (w := w) hz
    have hcs := VRs_cells (e := e) (w := w) hn (cv_ok v)
    cases hu : P.underlying t with
    | none => rw [hz, hu] at h; cases h
    | some d =>
      rw [hz, hu] at h
      cases d <;> try (cases h; done)
      · rename_i len el
        cases hs : szOf P el with
        | none => simp only [hs] at h; cases h
        | some n =>
          simp only [hs] at h
          cases hf : fillA (fun i => some (Nat.mul i n, n)) ps (cellsOf (cv v)) with
          | none => simp only [hf] at h; cases h
          | some cs =>
            simp only [hf, Option.some.injEq] at h
            subst h
            obtain ⟨c', hc', hr⟩ := fillA_ok (pc := fun i => some (i * n, n)) (fun i r hr => hr) ps vs.toList _ _ v.cells hp hcs hf
            refine .same (v := .agg c') hI ?_ (by simp only [VR]; exact ⟨_, rfl, hr⟩)
            unfold Instr.build
            rw [bind_ok hrun, bind_ok (run_underlying hu)]
            simp only
            rw [bind_ok (run_sizeOf hs)]
            simp only [hc']
            rfl
      · rename_i fs
        cases hso : sizesOk P fs with
        | false => simp only [hso] at h; cases h
        | true =>
          cases hf : fillA (fieldPlaces P fs) ps (cellsOf (cv v)) with
          | none => simp only [hso, hf] at h; cases h
          | some cs =>
            simp only [hso, hf, Option.some.injEq] at h
            subst h
            have hall := all_sizes hso
            have hpl : ∀ i r, fieldPlaces P fs i = some r → (fs.map fun f => (f.offset, (szOf P f.type).getD 0))[i]? = some r := by
              intro i r hr
              unfold fieldPlaces at hr
              cases hfi : fs[i]? with
              | none => rw [hfi] at hr; cases hr
              | some f =>
                simp only [hfi] at hr
                cases hsz : szOf P f.type with
                | none => rw [hsz] at hr; cases hr
                | some n =>
                  simp only [hsz, Option.some.injEq] at hr
                  subst hr
                  simp [hfi, hsz]
            obtain ⟨c', hc', hr⟩ := fillA_ok (pc := fun i => (fs.map fun f => (f.offset, (szOf P f.type).getD 0))[i]?) hpl ps vs.toList _ _ v.cells hp hcs hf
            refine .same (v := .agg c') hI ?_ (by simp only [VR]; exact ⟨_, rfl, hr⟩)
            unfold Instr.build
            rw [bind_ok hrun, bind_ok (run_underlying hu)]
            simp only
            rw [bind_ok (run_mapArray (P := P) (w := w) _ (fun f : Field => (f.offset, (szOf P f.type).getD 0)) fs fun f hf => by
              obtain ⟨n, hn⟩ := hall f hf
              rw [bind_ok (run_sizeOf hn), hn]; rfl)]
            simp only [hc']
            rfl

theorem sliceInfo_some {t el : TypeId} {n b : Nat} (h : sliceInfo P t = some (el, n, b)) : P.underlying t = some (.slice el) ∧ ∃ i, P.info? el = some i ∧ i.size = n ∧ i.bytes = b := by
  unfold sliceInfo Am.elemOf at h
  cases hu : P.underlying t with
  | none => rw [hu] at h; cases h
  | some d =>
    simp only [hu] at h
    cases d <;> try (cases h; done)
    rename_i el'
    simp only [elemD] at h
    cases hi : P.info? el' with
    | none => rw [hi] at h; cases h
    | some i =>
      simp only [hi, Option.some.injEq, Prod.mk.injEq] at h
      obtain ⟨rfl, h2, h3⟩ := h
      exact ⟨rfl, i, hi, h2, h3⟩
theorem szOf_info {t : TypeId} {i : TypeInfo} (h : P.info? t = some i) : szOf P t = some i.size := by unfold szOf; rw [h]
theorem lcopies_get {α : Type} (l : List α) : ∀ (n i : Nat), i < n * l.length → (lcopies n l)[i]? = l[i % l.length]?
  | 0, i, h => by omega
  | n + 1, i, h => by
    have hpos : 0 < l.length := by
      by_cases hl : l.length = 0
      · rw [hl] at h; simp at h
      · omega
    show (lapp l (lcopies n l))[i]? = _
    rw [lapp_eq, List.getElem?_append]
    by_cases hi : i < l.length
    · rw [if_pos hi, Nat.mod_eq_of_lt hi]
    · rw [if_neg hi, lcopies_get l n (i - l.length) (by rw [Nat.succ_mul] at h; omega), ← Nat.mod_eq_sub_mod (by omega)]
theorem lcopies_length {α : Type} (l : List α) : ∀ (n : Nat), (lcopies n l).length = n * l.length
  | 0 => by simp [lcopies, natRec_zero]
  | n + 1 => by
    show (lapp l (lcopies n l)).length = _
    rw [lapp_eq, List.length_append, lcopies_length l n, Nat.succ_mul]; omega
theorem copies_ok {z : AV} {v : Value} (hz : VRs e w (cellsOf z) v.cells.toList) {n m : Nat} (hn : (cellsOf z).length = n) (hpos : 1 ≤ n) :
    VRs e w (lcopies m (cellsOf z)) ((Array.range (m * n)).map (v.cells[· % v.cells.size]!)).toList := by
  have hl : v.cells.size = n := by have := hz.length; rw [hn] at this; simpa using this
  refine VRs.of_get (by simp [lcopies_length, hn]) fun i y hy => ?_
  have hi : i < m * n := by
    by_cases hi : i < m * n
    · exact hi
    · rw [List.getElem?_eq_none (by rw [lcopies_length, hn]; omega)] at hy; cases hy
  rw [lcopies_get _ _ _ (by rw [hn]; exact hi), hn] at hy
  obtain ⟨u, hu, hr⟩ := hz.get _ _ hy
  refine ⟨u, ?_, hr⟩
  have hlt : i % n < v.cells.size := by rw [hl]; exact Nat.mod_lt _ (by omega)
  have hu' : v.cells[i % n] = u := by
    rw [Array.getElem?_toList, Array.getElem?_eq_getElem hlt] at hu; exact Option.some.inj hu
  rw [Array.getElem?_toList, Array.getElem?_map, Array.getElem?_range, if_pos hi]
  simp only [Option.map_some, hl]
  rw [getElem!_pos v.cells _ hlt, hu']
theorem oBuildSlice_ok {t : TypeId} {len : Nat} {ps : List (Nat × AV)} {vs : Array (Nat × Value)} {x : AV} {imm : Bool} (hI : Inv e H w) (hp : PartsOk e w ps vs.toList) (h : oBuildSlice P t len ps imm H = some (x, H')) :
    Goes P e w (Instr.buildSlice t len vs) x H' := by
  unfold oBuildSlice at h
  cases hs : sliceInfo P t with
  | none => rw [hs] at h; cases h
  | some r =>
    obtain ⟨el, n, b⟩ := r
    obtain ⟨hu, i, hi, hin, _⟩ := sliceInfo_some hs
    simp only [hs] at h
    split at h
    · rename_i z hz h1 h2
      split at h
      · rename_i cs hzl hf
        obtain ⟨v, hrun, rfl, hn⟩ := run_zeroValue (w := w) hz
        have h1 := Nat.le_of_ble_eq_true h1
        have h2 : len * n ≤ 16777216 := Nat.le_of_ble_eq_true h2
        have hzl := Nat.eq_of_beq_eq_true hzl
        rw [llen_eq] at hzl
        have hz0 := VRs_cells (e := e) (w := w) hn (cv_ok v)
        have hsz : szOf P el = some n := by rw [szOf_info hi, hin]
        have hcop := copies_ok hz0 hzl h1 (m := len)
        obtain ⟨c', hc', hr⟩ := fillA_ok (pc := fun i => some (i * n, n)) (fun i r hr => hr) ps vs.toList _ _ ((Array.range (len * n)).map (v.cells[· % v.cells.size]!)) hp hcop hf
        have hlen' : cs.length = len * n := by
          have h3 := hr.length
          have h4 : c'.size = len * n := by
            have : ∀ (ps : List (Nat × Value)) (c c' : Array Value), Instr.fill (fun i => some (i * n, n)) c ps = some c' → c'.size = c.size := by
              intro ps
              induction ps with
              | nil => intro c c' h; simp only [Instr.fill, Option.some.injEq] at h; rw [h]
              | cons p ps ih =>
                intro c c' h
                obtain ⟨i, u⟩ := p
                simp only [Instr.fill] at h
                split at h
                · cases h
                · rw [ih _ _ h, zip_cput, cput_size]
            rw [this _ _ _ hc']; simp
          have : c'.toList.length = c'.size := by simp
          omega
        have hbody : (Instr.buildSlice t len vs).run P w = ((do pure (Value.slice (some (← newRow el c')) len len)) : Sem Value).run P w := by
          unfold Instr.buildSlice
          rw [bind_ok (run_underlying hu)]
          simp only
          rw [bind_ok (run_sizeOf hsz)]
          simp only [show ¬ len * n > 2 ^ 24 by omega, if_false]
          by_cases h0 : len * n = 0
          · rw [if_pos h0, bind_ok (run_pure P (#[] : Array Value) w)]
            have hr0 : ∀ f g : Nat → Value, (Array.range (len * n)).map f = (Array.range (len * n)).map g := by intro f g; rw [h0]; simp
            rw [hr0 _ (v.cells[· % v.cells.size]!), hc']
          · rw [if_neg h0, bind_ok hrun, bind_ok (run_pure P v.cells w), hc']
        have hcl : c'.size = cs.length := by have := hr.length; simpa using this
        cases imm
        · simp only [Option.some.injEq, Prod.mk.injEq] at h
          obtain ⟨rfl, rfl⟩ := h
          obtain ⟨hle, hinv, hβ⟩ := newArr_ok hI cs c' el (by omega) fun i y hy => by
            obtain ⟨u, hu, hr⟩ := hr.get i y hy
            exact ⟨u, by simpa using hu, hr⟩
          refine ⟨_, _, .slice (some ⟨w.heap.size, 0, none⟩) len len, hbody.trans rfl, hle, hinv, ?_⟩
          simp only [VR]
          exact ⟨_, _, _, 0, len, hβ, rfl, Nat.le_refl _, by omega, fun c' hc => Option.some.inj hc, .inl ⟨rfl, by omega⟩⟩
        · simp only [Option.some.injEq, Prod.mk.injEq] at h
          obtain ⟨rfl, rfl⟩ := h
          refine ⟨e, _, .slice (some ⟨w.heap.size, 0, none⟩) len len, hbody.trans rfl, push_le hI _, push_inv hI _, ?_⟩
          simp only [VR]
          exact ⟨_, _, none, len, rfl, .inl rfl, Nat.le_refl _, fun _ => rfl, fun _ => hI.base, push_vm hI hr⟩
      · cases h
    · cases h
end Go.Proofs.Ytcjfjfhggfcnfaa.Am
