/- Ranging over texts, held against the model's. -/
import Derived.Test.YtcjfjfhggfcnfaaAmOpsK
import Derived.Laws.RangeString
set_option linter.unusedSimpArgs false
set_option linter.unusedVariables false
namespace Go.Proofs.Ytcjfjfhggfcnfaa.Am
open Go
variable {P : Program} {w : World} {e : Env} {H H' : AHeap}

theorem oRange_ok {t : TypeId} {x y : AV} {v : Value} (hI : Inv e H w) (hv : VR e w x v) (h : oRange P t x H = some (y, H')) : Goes P e w (Instr.range t v) y H' := by
  unfold oRange at h
  split at h
  · rename_i s hu
    cases h
    simp only [VR] at hv
    obtain ⟨b, rfl, hb⟩ := hv
    have hβ : (e.add H.next 0 (w.heap.size, 0, 0)).β H.next 0 = some (w.heap.size, 0, 0) := by
      show (if H.next = H.next ∧ 0 = 0 then _ else _) = _; rw [if_pos ⟨rfl, rfl⟩]
    refine ⟨e.add H.next 0 (w.heap.size, 0, 0), pushBlock w (.stringIter b 0), .pointer (some ⟨w.heap.size, 0, none⟩), ?_, alloc_le hI _ 0 0, alloc_inv hI _ _ 0 0 ?_, by simp only [VR]; exact ⟨_, _, _, hβ, rfl⟩⟩
    · unfold Instr.range
      rw [bind_ok (run_underlying hu)]
      rfl
    · exact ⟨w.heap.size, 0, 0, b, hβ, by rw [pushBlock_get, if_pos rfl], hb⟩
  · cases h
theorem oNext_ok {it y : AV} {s : Bool} {ty : TypeId} {v : Value} (hI : Inv e H w) (hv : VR e w it v) (h : oNext it s H = some (y, H')) : Goes P e w (Instr.next v s ty) y H' := by
  unfold oNext at h
  split at h
  · rename_i id ver off
    split at h
    · rename_i h1 h2
      obtain rfl := Nat.eq_of_beq_eq_true h1
      obtain rfl := Nat.eq_of_beq_eq_true h2
      cases ho : H.get id with
      | none => rw [ho] at h; cases h
      | some o =>
        simp only [ho] at h
        cases o <;> simp only [nextIter] at h <;> try (cases h; done)
        rename_i l pos
        obtain ⟨b, n, x, t, hβ, hb, hl⟩ := hI.obj _ _ ho
        simp only [VR] at hv
        obtain ⟨b', n', x', hβ', rfl⟩ := hv
        rw [hβ] at hβ'
        simp only [Option.some.injEq, Prod.mk.injEq] at hβ'
        obtain ⟨rfl, rfl, rfl⟩ := hβ'
        rw [lget_eq, ← hl, List.getElem?_map] at h
        by_cases hp : pos < t.size
        · have hg : t.data.toList[pos]? = some (t[pos]'hp) := by
            rw [Array.getElem?_toList]
            exact Array.getElem?_eq_getElem (by exact hp)
          rw [hg] at h
          simp only [Option.map_some] at h
          split at h
          · rename_i hc
            cases h
            have ha : (t[pos]'hp).toNat < 128 := by have := Nat.le_of_ble_eq_true hc; omega
            have hset := set_le hI hβ (.stringIter t (pos + 1))
            have hlt := (hI.own _ _ _ _ _ hβ).1
            refine ⟨e, setBlock w b (.stringIter t (pos + 1)), .tuple #[.bool true, goInt pos, .int .i32 (t[pos]'hp).toNat], ?_, hset, set_inv hI hβ _ _ ⟨b, n, x, t, hβ, by rw [setBlock_get, if_pos ⟨rfl, hlt⟩], rfl⟩, ?_⟩
            · unfold Instr.next
              simp only
              rw [bind_ok (run_getObj hb (by simp))]
              simp only [hp, if_true, decode_ascii t pos hp ha]
              rw [bind_ok (run_setObj hb (by simp))]
              rfl
            · simp only [VR, VRs]
              exact ⟨_, rfl, _, _, rfl, rfl, _, _, rfl, rfl, _, _, rfl, rfl, rfl⟩
          · cases h
        · have hg : t.data.toList[pos]? = none := List.getElem?_eq_none (by show t.data.toList.length ≤ pos; rw [Array.length_toList]; exact Nat.not_lt.mp hp)
          rw [hg] at h
          cases h
          refine .same (v := .tuple #[.bool false]) hI ?_ (by simp only [VR, VRs]; exact ⟨_, rfl, _, _, rfl, rfl, rfl⟩)
          unfold Instr.next
          simp only
          rw [bind_ok (run_getObj hb (by simp))]
          simp only [hp, if_false]
          rfl
    · cases h
  · cases h
end Go.Proofs.Ytcjfjfhggfcnfaa.Am
