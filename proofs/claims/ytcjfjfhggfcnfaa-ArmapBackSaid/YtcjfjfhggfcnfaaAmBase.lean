/- The model's small readings of types, and constants. -/
import Derived.Test.YtcjfjfhggfcnfaaAmInv
set_option linter.unusedSimpArgs false
set_option linter.unusedVariables false
namespace Go.Proofs.Ytcjfjfhggfcnfaa.Am
open Go
variable {P : Program} {w : World} {e : Env} {H : AHeap}

theorem run_typeInfo {t : TypeId} {i : TypeInfo} (h : P.info? t = some i) : (typeInfo t).run P w = .ok i w := by
  show Sem.run P ((program).bind _) w = _
  simp [program, Sem.bind, Sem.run, h, pure]
theorem run_underlying {t : TypeId} {d : TypeDesc} (h : P.underlying t = some d) : (underlying t).run P w = .ok d w := by
  show Sem.run P ((program).bind _) w = _
  simp [program, Sem.bind, Sem.run, h, pure]
theorem szOf_some {t : TypeId} {n : Nat} (h : szOf P t = some n) : ∃ i, P.info? t = some i ∧ i.size = n := by
  unfold szOf at h
  cases hi : P.info? t with
  | none => rw [hi] at h; cases h
  | some i => rw [hi] at h; exact ⟨i, rfl, Option.some.inj h⟩
theorem run_sizeOf {t : TypeId} {n : Nat} (h : szOf P t = some n) : (Go.sizeOf t).run P w = .ok n w := by
  obtain ⟨i, hi, rfl⟩ := szOf_some h
  unfold Go.sizeOf
  rw [bind_ok (run_typeInfo hi)]; rfl
theorem aggOf_some {t : TypeId} {b : Bool} (h : aggOf P t = some b) : ∃ d, P.underlying t = some d ∧ aggDesc d = b := by
  unfold aggOf at h
  cases hi : P.underlying t with
  | none => rw [hi] at h; cases h
  | some i => rw [hi] at h; exact ⟨i, rfl, Option.some.inj h⟩
theorem run_isAgg {t : TypeId} {b : Bool} (h : aggOf P t = some b) : (isAgg t).run P w = .ok b w := by
  obtain ⟨d, hd, rfl⟩ := aggOf_some h
  unfold isAgg
  rw [bind_ok (run_underlying hd)]
  cases d <;> rfl

theorem known_some {x y : AV} (h : known x = some y) : x = y ∧ x ≠ .opq := by
  cases x <;> simp [known] at h <;> exact ⟨h, by simp⟩
theorem cv0_ok (v : Value) : VR e w (cv0 v) v := by
  unfold cv0
  split <;> simp only [VR]
  rename_i s
  exact ⟨s, rfl, (lmap_eq _ _).symm⟩
theorem cv_ok (v : Value) : VR e w (cv v) v := by
  unfold cv
  split
  · rename_i cs
    simp only [VR, lmap_eq]
    refine ⟨cs, rfl, ?_⟩
    have := VRs.map (e := e) (w := w) cv0 id cs.toList (fun a _ => cv0_ok a)
    rwa [List.map_id] at this
  · simp only [VR]; exact ⟨_, rfl, cv0_ok _⟩
  · rename_i cs
    simp only [VR, lmap_eq]
    refine ⟨cs, rfl, ?_⟩
    have := VRs.map (e := e) (w := w) cv0 id cs.toList (fun a _ => cv0_ok a)
    rwa [List.map_id] at this
  · exact cv0_ok _
theorem zeroOf_some {t : TypeId} {z : AV} (h : zeroOf P t = some z) : ∃ i v, P.info? t = some i ∧ i.zero = some v ∧ cv v = z ∧ z ≠ .opq := by
  unfold zeroOf at h
  cases hi : P.info? t with
  | none => rw [hi] at h; cases h
  | some i =>
    rw [hi] at h
    cases hz : i.zero with
    | none => simp only [hz] at h; cases h
    | some v =>
      simp only [hz] at h
      obtain ⟨h1, h2⟩ := known_some h
      exact ⟨i, v, rfl, hz, h1, h1 ▸ h2⟩
theorem run_zeroValue {t : TypeId} {z : AV} (h : zeroOf P t = some z) : ∃ v, (zeroValue t).run P w = .ok v w ∧ z = cv v ∧ z ≠ .opq := by
  obtain ⟨i, v, hi, hz, rfl, hn⟩ := zeroOf_some h
  refine ⟨v, ?_, rfl, hn⟩
  unfold zeroValue
  rw [bind_ok (run_typeInfo hi), hz]; rfl
theorem VRs_cells {x : AV} {v : Value} (hx : x ≠ .opq) (h : VR e w x v) : VRs e w (cellsOf x) v.cells.toList := by
  cases x <;> first
    | exact absurd rfl hx
    | (simp only [VR] at h
       obtain ⟨a, rfl, ha⟩ := h
       exact ha)
    | (have h0 := h
       simp only [VR] at h
       have : ∃ u, v = u ∧ u.cells = #[u] := by
         first
           | (obtain ⟨_, rfl, _⟩ := h; exact ⟨_, rfl, rfl⟩)
           | (obtain ⟨_, _, rfl, _⟩ := h; exact ⟨_, rfl, rfl⟩)
           | (obtain ⟨_, _, _, _, rfl⟩ := h; exact ⟨_, rfl, rfl⟩)
           | (obtain ⟨_, _, _, rfl, _⟩ := h; exact ⟨_, rfl, rfl⟩)
           | (obtain ⟨_, _, _, _, rfl, _⟩ := h; exact ⟨_, rfl, rfl⟩)
           | (obtain ⟨_, _, _, _, _, _, rfl, _⟩ := h; exact ⟨_, rfl, rfl⟩)
           | (subst h; exact ⟨_, rfl, rfl⟩)
       obtain ⟨u, rfl, hu⟩ := this
       rw [hu]
       simp only [cellsOf, VRs]
       exact ⟨_, _, rfl, h0, rfl⟩)
theorem oneCell_ok {x : AV} {v : Value} (hx : oneCell x = true) (h : VR e w x v) : oneCellV v = true := by
  cases x <;> first
    | exact Bool.noConfusion hx
    | (simp only [VR] at h
       first
         | (obtain ⟨_, rfl, _⟩ := h; rfl)
         | (obtain ⟨_, _, rfl, _⟩ := h; rfl)
         | (obtain ⟨_, _, _, _, rfl⟩ := h; rfl)
         | (obtain ⟨_, _, _, rfl, _⟩ := h; rfl)
         | (obtain ⟨_, _, _, _, rfl, _⟩ := h; rfl)
         | (obtain ⟨_, _, _, _, _, _, rfl, _⟩ := h; rfl)
         | (subst h; rfl))
end Go.Proofs.Ytcjfjfhggfcnfaa.Am
