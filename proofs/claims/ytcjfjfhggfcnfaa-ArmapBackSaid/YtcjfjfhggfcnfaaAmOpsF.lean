/- Parts, places, conversions, and what is made, held against the model's. -/
import Derived.Test.YtcjfjfhggfcnfaaAmOpsE
set_option linter.unusedSimpArgs false
set_option linter.unusedVariables false
namespace Go.Proofs.Ytcjfjfhggfcnfaa.Am
open Go
variable {P : Program} {w : World} {e : Env} {H H' : AHeap}

theorem moveA_ok {n : Nat} {x y : AV} {v : Value} (hv : VR e w x v) (h : moveA n x = some y) : ∃ b o, v = .pointer (some ⟨b, o, none⟩) ∧ VR e w y (.pointer (some ⟨b, o + n, none⟩)) := by
  cases x <;> simp only [moveA] at h <;> try (cases h; done)
  · cases h
    simp only [VR] at hv
    obtain ⟨b, N, X, hβ, rfl⟩ := hv
    exact ⟨b, _, rfl, by simp only [VR]; exact ⟨b, N, X, hβ, rfl⟩⟩
  · cases h
    simp only [VR] at hv
    exact ⟨_, _, hv, by simp only [VR]; rfl⟩
  · split at h
    · cases h
      simp only [VR] at hv
      obtain ⟨b, o, rfl, hm⟩ := hv
      refine ⟨b, o, rfl, ?_⟩
      simp only [VR]
      refine ⟨b, o + n, rfl, ?_⟩
      rw [ldrop_eq]; exact hm.drop n
    · cases h
theorem fieldAddrA_ok {s : TypeId} {f : Nat} {x y : AV} {v : Value} (hv : VR e w x v) (h : fieldAddrA P s x f = some y) : ∃ u, (Instr.fieldAt s v f).run P w = .ok u w ∧ VR e w y u := by
  unfold fieldAddrA at h
  split at h
  · rename_i fs hk
    split at h
    · rename_i fl hf
      split at h
      · rename_i n hn
        obtain ⟨b, o, rfl, hr⟩ := moveA_ok hv h
        refine ⟨_, ?_, hr⟩
        unfold Instr.fieldAt
        rw [bind_ok (run_underlying hk)]
        simp only [hf]
        rw [bind_ok (s := Instr.sureAddr _) (w' := w) (a := ⟨b, o, none⟩) rfl]
        unfold fieldPlace
        rw [bind_assoc, bind_ok (run_sizeOf hn)]
        simp only [Nat.add_one_ne_zero, if_false, add_eq]
        rfl
      · cases h
    · cases h
  · cases h
theorem partA_ok {t : TypeId} {cs : List AV} {vs : Array Value} {off : Nat} {y : AV} (hv : VRs e w cs vs.toList) (h : partA P t cs off = some y) : ∃ u, (part t vs off).run P w = .ok u w ∧ VR e w y u := by
  unfold partA at h
  split at h
  · rename_i ha
    split at h
    · rename_i n hn
      split at h
      · rename_i hb
        rw [ble_iff] at hb
        cases h
        refine ⟨.agg (vs.extract off (off + n)), ?_, ?_⟩
        · unfold part
          rw [bind_ok (run_isAgg ha)]
          simp only [if_true]
          rw [bind_ok (run_sizeOf hn)]; rfl
        · simp only [VR]
          refine ⟨_, rfl, ?_⟩
          rw [ltake_eq, ldrop_eq, Array.toList_extract, List.extract_eq_take_drop, show off + n - off = n by omega]
          exact (hv.drop off).take n
      · cases h
    · cases h
  · rename_i ha
    rw [lget_eq] at h
    obtain ⟨u, hu, hr⟩ := hv.get _ _ h
    refine ⟨u, ?_, hr⟩
    unfold part
    rw [bind_ok (run_isAgg ha)]
    simp only [Bool.false_eq_true, if_false]
    rw [Array.getElem?_toList] at hu
    rw [hu]; rfl
  · cases h
theorem fieldA_ok {t : TypeId} {f : Nat} {x y : AV} {v : Value} (hv : VR e w x v) (h : fieldA P t x f = some y) : ∃ u, (Instr.field t v f).run P w = .ok u w ∧ VR e w y u := by
  unfold fieldA at h
  split at h
  · rename_i fs cs hk
    split at h
    · rename_i fl hf
      simp only [VR] at hv
      obtain ⟨vs, rfl, hvs⟩ := hv
      obtain ⟨u, hu, hr⟩ := partA_ok (P := P) hvs h
      refine ⟨u, ?_, hr⟩
      unfold Instr.field
      rw [bind_ok (run_underlying hk)]
      simp only [hf]
      rw [bind_ok (s := asAgg _) (w' := w) (a := vs) rfl]
      exact hu
    · cases h
  · cases h
theorem asIntOf_ok (k : IntKind) (n : Int) : (asIntOf (.int k n)).run P w = .ok (k, n) w := rfl
theorem indexAddrA_ok {t : TypeId} {x i y : AV} {v j : Value} (hv : VR e w x v) (hj : VR e w i j) (h : indexAddrA P t x i = some y) : ∃ u, (Instr.indexAt t v j).run P w = .ok u w ∧ VR e w y u := by
  unfold indexAddrA at h
  split at h
  · rename_i el n hk hn
    obtain ⟨k, rfl⟩ := natOfA_ok hj hn
    have run : ∀ (b o len c z : Nat), szOf P el = some z → n < len → (Instr.indexAt t (.slice (some ⟨b, o, none⟩) len c) (.int k n)).run P w = .ok (.pointer (some ⟨b, o + n * z, none⟩)) w := by
      intro b o len c z hz hlt
      unfold Instr.indexAt
      rw [bind_ok (asIntOf_ok k n)]
      simp only
      rw [bind_ok (run_underlying hk)]
      simp only
      rw [bind_ok (run_pure P (some (⟨b, o, none⟩ : Addr), len, el) w)]
      simp only
      rw [bind_ok (run_underlying hk)]
      simp only [Bool.and_false, Bool.false_eq_true, if_false]
      rw [if_pos ⟨by omega, by omega⟩, bind_ok (run_sizeOf hz)]
      simp only [add_eq, Int.toNat_natCast]
      rfl
    split at h
    · rename_i z id ver off len esz cap hz
      split at h
      · rename_i h1 h2
        obtain rfl := Nat.eq_of_beq_eq_true h1
        rw [ble_iff] at h2
        cases h
        simp only [VR] at hv
        obtain ⟨b, N, X, o, c, hβ, rfl, hlen, hX, hcap, ho⟩ := hv
        refine ⟨_, run b o _ c _ hz h2, ?_⟩
        rcases ho with ⟨rfl, _⟩ | ⟨rfl, _⟩
        · simp only [VR]; exact ⟨b, N, X, hβ, rfl⟩
        · omega
      · cases h
    · rename_i z cells len capped fresh hz
      split at h
      · rename_i h2
        rw [ble_iff] at h2
        cases h
        simp only [VR] at hv
        obtain ⟨b, o, sp, c, rfl, hsp, hlen, hcap, hfr, hM⟩ := hv
        obtain rfl : sp = none := hsp.elim id fun hh => by omega
        refine ⟨_, run b o _ c _ hz h2, ?_⟩
        simp only [VR]
        exact ⟨b, o + n * z, rfl, by rw [ldrop_eq]; exact hM.drop _⟩
      · cases h
    · cases h
  · rename_i len el n hk hn
    obtain ⟨k, rfl⟩ := natOfA_ok hj hn
    split at h
    · rename_i z hz h2
      rw [ble_iff] at h2
      obtain ⟨b, o, rfl, hr⟩ := moveA_ok hv h
      refine ⟨_, ?_, hr⟩
      unfold Instr.indexAt
      rw [bind_ok (asIntOf_ok k n)]
      simp only
      rw [bind_ok (run_underlying hk)]
      simp only
      rw [bind_ok (s := Instr.sureAddr _) (w' := w) (a := ⟨b, o, none⟩) rfl, bind_ok (run_pure P _ w)]
      simp only
      rw [bind_ok (run_underlying hk)]
      simp only
      rw [if_pos ⟨by omega, by omega⟩, bind_ok (run_sizeOf hz)]
      simp only [add_eq, Int.toNat_natCast]
      rfl
    · cases h
  · cases h
theorem indexA_ok {t : TypeId} {x i y : AV} {v j : Value} (hv : VR e w x v) (hj : VR e w i j) (h : indexA P t x i = some y) : ∃ u, (Instr.index t v j).run P w = .ok u w ∧ VR e w y u := by
  unfold indexA at h
  split at h
  · rename_i len el cs n hk hn
    obtain ⟨k, rfl⟩ := natOfA_ok hj hn
    split at h
    · rename_i z hz h2
      rw [ble_iff] at h2
      simp only [VR] at hv
      obtain ⟨vs, rfl, hvs⟩ := hv
      obtain ⟨u, hu, hr⟩ := partA_ok (P := P) hvs h
      refine ⟨u, ?_, hr⟩
      unfold Instr.index
      rw [bind_ok (asIntOf_ok k n)]
      simp only
      rw [bind_ok (run_underlying hk)]
      simp only
      rw [if_pos ⟨by omega, by omega⟩, bind_ok (run_sizeOf hz)]
      simp only [Int.toNat_natCast]
      exact hu
    · cases h
  · rename_i s n hk hn
    obtain ⟨k, rfl⟩ := natOfA_ok hj hn
    split at h
    · rename_i b hb
      cases h
      simp only [VR] at hv
      obtain ⟨bs, rfl, rfl⟩ := hv
      rw [lget_eq, List.getElem?_map] at hb
      cases hg : bs.data.toList[n]? with
      | none => rw [hg] at hb; cases hb
      | some q =>
        rw [hg] at hb
        simp only [Option.map_some, Option.some.injEq] at hb
        subst hb
        have hlt : n < bs.size := by
          have := (List.getElem?_eq_some_iff.mp hg).1
          simpa using this
        have hget : bs[n]? = some q := by
          rw [ByteArray.getElem?_lt' bs n hlt]
          congr 1
          have := (List.getElem?_eq_some_iff.mp hg).2
          rw [← this]; rfl
        refine ⟨.int .u8 q.toNat, ?_, by simp only [VR]; rfl⟩
        unfold Instr.index
        rw [bind_ok (asIntOf_ok k n)]
        simp only
        rw [bind_ok (run_underlying hk)]
        simp only [Int.toNat_natCast]
        rw [if_pos (by omega), hget]; rfl
    · cases h
  · cases h
theorem extractA_ok {n : Nat} {x y : AV} {v : Value} (hv : VR e w x v) (h : extractA n x = some y) : ∃ u, (Instr.extract v n).run P w = .ok u w ∧ VR e w y u := by
  cases x <;> simp only [extractA] at h <;> try (cases h; done)
  simp only [VR] at hv
  obtain ⟨vs, rfl, hvs⟩ := hv
  rw [lget_eq] at h
  obtain ⟨u, hu, hr⟩ := hvs.get _ _ h
  refine ⟨u, ?_, hr⟩
  rw [Array.getElem?_toList] at hu
  unfold Instr.extract
  simp only [hu]; rfl
theorem makeIfaceA_ok {t : TypeId} {x y : AV} {v : Value} (hv : VR e w x v) (h : makeIfaceA P t x = some y) : ∃ u, (Instr.makeInterface t v).run P w = .ok u w ∧ VR e w y u := by
  unfold makeIfaceA at h
  split at h
  · cases h
  · rename_i d hnot hk
    cases h
    refine ⟨.iface t v, ?_, by simp only [VR]; exact ⟨v, rfl, hv⟩⟩
    unfold Instr.makeInterface
    rw [bind_ok (run_underlying hk)]
    cases d <;> first
      | rfl
      | exact absurd rfl (hnot _)
  · cases h
theorem makeFuncA_ok {f : Fn} {as cs : List AV} {vs us : Array Value} {y : AV} (hv : VRs e w as vs.toList) (hu : VRs e w cs us.toList) (h : makeFuncA f as cs = some y) : ∃ u, (Instr.makeFunc f vs us).run P w = .ok u w ∧ VR e w y u := by
  cases f <;> simp only [makeFuncA] at h <;> try (cases h; done)
  cases h
  exact ⟨_, rfl, by simp only [VR]; exact ⟨_, _, rfl, hv, hu⟩⟩

/-! A draw. -/
def drewW (w : World) : World := { w with drawn := w.drawn + 1 }
theorem drew_le (e : Env) (w : World) : Le e w e (drewW w) :=
  ⟨fun _ _ _ h => h, fun _ h => .inl h, rfl, rfl, Nat.le_refl _, fun _ _ _ => .inr rfl, fun _ _ => rfl, rfl, rfl, rfl⟩
theorem drew_inv (hI : Inv e H w) : Inv e H (drewW w) := same_inv hI (drew_le e w) fun _ _ _ _ _ _ => rfl
theorem run_choose (q : Question) (h : q.forced = false) : ∃ n, (choose q).run P w = .ok n (drewW w) ∧ n = q.cut (w.tape w.drawn q) := by
  refine ⟨_, ?_, rfl⟩
  unfold choose
  simp only [Sem.run, h, Bool.false_eq_true, if_false]; rfl
theorem cap_ge (need old t : Nat) (el : TypeId) : need ≤ (Question.appendCap need old el).cut t := by
  show need ≤ need + _; omega

/-! A block whose last mark is turned. -/
def refroz (f : Nat × Nat) (n : Nat) : Nat × Nat := if f.1 == f.2 then (n, n + 1) else (min f.1 n, max f.2 (n + 1))
theorem refroz_ok {f : Nat × Nat} {n : Nat} (h : unfroz f n) : unfroz (refroz f n) n := by
  unfold refroz unfroz
  by_cases h0 : f.1 = f.2
  · simp [h0]
  · simp [h0]
    rcases h with h | h
    · exact absurd h h0
    · omega
theorem mark_block {b n : Nat} {c : Array Value} {t : TypeId} {f : Nat × Nat} {o : Nat} (h : w.heap[b]? = some (.cells c t f)) (hn : c.size = n) :
    (markStringish ⟨b, o, none⟩).run P w = .ok () (setBlock w b (.cells c t (refroz f n))) := by
  unfold markStringish
  have hs : (shape b).run P w = .ok (some (t, n)) w := by
    unfold shape
    simp only [Sem.run, World.shape?, h, hn]
  rw [bind_ok hs]
  simp only
  unfold Go.freeze
  simp only [Sem.run, World.freeze, Nat.one_ne_zero, if_false]
  congr 1
  unfold setBlock
  congr 1
  apply Array.ext_getElem?
  intro i
  simp only [Array.getElem?_modify, Array.getElem?_setIfInBounds]
  by_cases hi : b = i
  · subst hi
    have hb : b < w.heap.size := by
      by_cases hb : b < w.heap.size
      · exact hb
      · rw [Array.getElem?_eq_none (by omega)] at h; simp at h
    rw [h]
    obtain ⟨lo, hi⟩ := f
    simp [hb, refroz]
  · simp [hi]
theorem refroz_le {b : Nat} {c : Array Value} {t : TypeId} {f f' : Nat × Nat} (h : w.heap[b]? = some (.cells c t f)) (hb : e.base ≤ b) (hf : unfroz f c.size → unfroz f' c.size) : Le e w e (setBlock w b (.cells c t f')) where
  β := fun _ _ _ h => h
  new := fun _ h => .inl h
  out := rfl
  base := rfl
  size := by rw [setBlock_size]; exact Nat.le_refl _
  keep := fun k hk _ => by
    by_cases hkb : k = b
    · subst hkb
      exact .inl ⟨c, t, f, f', h, by rw [setBlock_get, if_pos ⟨rfl, hk⟩], hf⟩
    · exact .inr (by rw [setBlock_get, if_neg (fun hh => hkb hh.1)])
  low := fun k hk => by rw [setBlock_get, if_neg (by omega)]
  os := rfl
  tape := rfl
  output := rfl
theorem refroz_inv (hI : Inv e H w) {b : Nat} {c : Array Value} {t : TypeId} {f f' : Nat × Nat} (h : w.heap[b]? = some (.cells c t f)) (hb : e.base ≤ b) (hf : unfroz f c.size → unfroz f' c.size) : Inv e H (setBlock w b (.cells c t f')) := by
  have hle := refroz_le (f' := f') h hb hf
  have hlt : b < w.heap.size := by
    by_cases hb : b < w.heap.size
    · exact hb
    · rw [Array.getElem?_eq_none (by omega)] at h; simp at h
  exact {
    own := fun id ver b n x h => let ⟨h1, h2⟩ := hI.own id ver b n x h; ⟨Nat.lt_of_lt_of_le h1 hle.size, h2⟩
    inj := hI.inj
    base := Nat.le_trans hI.base hle.size
    out := fun b h => Nat.lt_of_lt_of_le (hI.out b h) hle.size
    obj := fun id o ho => by
      have k := hI.obj id o ho
      cases o with
      | arr cells low cur exts =>
        refine ⟨k.1, k.2.1, fun ver h1 h2 => ?_⟩
        obtain ⟨b', n, c', t', f'', hk⟩ := k.2.2 ver h1 h2
        by_cases hbb : b' = b
        · subst hbb
          have := hk.heap
          rw [h] at this
          simp only [Option.some.injEq, Obj.cells.injEq] at this
          obtain ⟨rfl, rfl, rfl⟩ := this
          exact ⟨b', n, c, t, f', { hk with
            heap := by rw [setBlock_get, if_pos ⟨rfl, hlt⟩]
            free := by have := hk.free; rw [← hk.size] at this ⊢; exact hf this
            get := fun i y hi hy => let ⟨u, hu, hr⟩ := hk.get i y hi hy; ⟨u, hu, VR.mono hle _ _ hr⟩ }⟩
        · exact ⟨b', n, c', t', f'', hk.mono hle (by rw [setBlock_get, if_neg (fun hh => hbb hh.1)])⟩
      | map es clock =>
        obtain ⟨b', n, x, cs, h1, h2, h3⟩ := k
        refine ⟨b', n, x, cs, h1, ?_, h3.mono hle⟩
        rw [setBlock_get, if_neg (fun hh => by rw [hh.1, h] at h2; cases h2)]; exact h2
      | iter s pos =>
        obtain ⟨b', n, x, tt, h1, h2, h3⟩ := k
        refine ⟨b', n, x, tt, h1, ?_, h3⟩
        rw [setBlock_get, if_neg (fun hh => by rw [hh.1, h] at h2; cases h2)]; exact h2 }
theorem mark_any (hI : Inv e H w) {b o : Nat} (hb : e.base ≤ b) : ∃ w', (markStringish ⟨b, o, none⟩).run P w = .ok () w' ∧ Le e w e w' ∧ Inv e H w' := by
  cases hs : w.shape? b with
  | none =>
    refine ⟨w, ?_, Le.refl e w, hI⟩
    unfold markStringish
    have : (shape b).run P w = .ok none w := by unfold shape; simp only [Sem.run, hs]
    rw [bind_ok this]; rfl
  | some r =>
    unfold World.shape? at hs
    split at hs
    · rename_i c t f h
      exact ⟨_, mark_block h rfl, refroz_le h hb refroz_ok, refroz_inv hI h hb refroz_ok⟩
    · cases hs
end Go.Proofs.Ytcjfjfhggfcnfaa.Am
