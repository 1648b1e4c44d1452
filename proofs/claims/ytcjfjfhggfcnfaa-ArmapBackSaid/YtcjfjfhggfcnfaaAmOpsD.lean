/- Comparisons, and the small operations on values, held against the model's. -/
import Derived.Test.YtcjfjfhggfcnfaaAmEq
set_option linter.unusedSimpArgs false
set_option linter.unusedVariables false
namespace Go.Proofs.Ytcjfjfhggfcnfaa.Am
open Go
variable {P : Program} {w : World} {e : Env} {H H' : AHeap}

theorem equal_succ (t : TypeId) (u v : Value) : Op.equal t u v = Op.equalIn (9999 + 1) t u v := rfl
/-- '==' and '!=' come to the same question -/
structure CmpForm (P : Program) (t : TypeId) (x y : Operand) (u v : Value) (w : World) (r : Bool) : Prop where
  guardE : (eqGuard .eql t x y u v).run P w = .ok () w
  guardN : (eqGuard .neq t x y u v).run P w = .ok () w
  eql : binOp .eql t u v = Op.equal t u v >>= fun r => pure (.bool r)
  neq : binOp .neq t u v = Op.equal t u v >>= fun r => pure (.bool !r)
  run : (Op.equal t u v).run P w = .ok r w
theorem eqNil_ok {t : TypeId} {x y : Operand} {a b : AV} {u v : Value} {r : Bool} {d : TypeDesc} (hk : P.underlying t = some d)
    (hu : VR e w a u) (hv : VR e w b v) (h : eqNil d a b = some r) : CmpForm P t x y u v w r := by
  cases d <;> simp only [eqNil] at h <;> try (cases h; done)
  all_goals
    cases a <;> cases b <;> simp only at h <;> (try (cases h; done)) <;> simp only [VR] at hu hv <;> cases h <;>
      (first
        | (subst hu; subst hv)
        | (obtain ⟨_, _, _, _, rfl⟩ := hu; subst hv)
        | (obtain ⟨_, _, _, _, rfl⟩ := hv; subst hu)
        | (obtain ⟨_, _, _, _, _, _, rfl, _⟩ := hu; subst hv)
        | (obtain ⟨_, _, _, _, _, _, rfl, _⟩ := hv; subst hu)
        | (obtain ⟨_, _, _, _, rfl, _⟩ := hu; subst hv)
        | (obtain ⟨_, _, _, _, rfl, _⟩ := hv; subst hu)
        | (obtain ⟨_, _, _, rfl, _⟩ := hu; subst hv)
        | (obtain ⟨_, _, _, rfl, _⟩ := hv; subst hu)
        | (obtain ⟨_, _, rfl, _⟩ := hu; subst hv)
        | (obtain ⟨_, _, rfl, _⟩ := hv; subst hu)
        | (obtain ⟨_, rfl, _⟩ := hu; subst hv)
        | (obtain ⟨_, rfl, _⟩ := hv; subst hu)) <;>
      exact ⟨rfl, rfl, rfl, rfl, by rw [equal_succ]; unfold Op.equalIn; rw [bind_ok (run_underlying hk)]; rfl⟩
theorem eqA_ok {t : TypeId} {x y : Operand} {a b : AV} {u v : Value} {r : Bool} (hu : VR e w a u) (hv : VR e w b v) (h : eqA P t x y a b = some r) : CmpForm P t x y u v w r := by
  unfold eqA at h
  split at h
  · split at h
    · rename_i hk
      have hr := flatEq1_ok (P := P) 9999 hk h hu hv
      simp only [VR] at hu hv
      subst hu hv
      exact ⟨rfl, rfl, rfl, rfl, hr⟩
    · cases h
  · split at h
    · rename_i ks hg ha hk
      simp only [VR] at hu hv
      obtain ⟨vs, rfl, hvs⟩ := hu
      obtain ⟨us, rfl, hus⟩ := hv
      obtain ⟨v', u', h1, h2, hrun⟩ := flat_eq (e := e) (w := w) 20 (9999 + 1) t ks (by omega) hk _ _ _ _ _ hvs hus h
      rcases h1 with ⟨_, rfl⟩ | ⟨h1, _⟩
      · rcases h2 with ⟨_, rfl⟩ | ⟨h2, _⟩
        · exact ⟨run_eqGuard_agg w _ _ _ _ _ _ hg, run_eqGuard_agg w _ _ _ _ _ _ hg, rfl, rfl, hrun⟩
        · rw [ha] at h2; cases h2
      · rw [ha] at h1; cases h1
    · cases h
  · simp only [VR] at hu hv
    subst hu hv
    split at h
    · cases h
    · rename_i hnot
      have hg : (eqGuard .eql t x y .nilIface .nilIface).run P w = .ok () w ∧ (eqGuard .neq t x y .nilIface .nilIface).run P w = .ok () w := by
        cases x <;> cases y <;> first
          | exact ⟨rfl, rfl⟩
          | exact absurd rfl (hnot rfl)
      split at h
      · rename_i hk
        cases h
        exact ⟨hg.1, hg.2, rfl, rfl, by rw [equal_succ]; unfold Op.equalIn; rw [bind_ok (run_underlying hk)]; rfl⟩
      · cases h
  · split at h
    · rename_i hk; exact eqNil_ok hk hu hv h
    · cases h
theorem binA_ok {op : BinOp} {t : TypeId} {x y : Operand} {a b : AV} {u v : Value} {r : AV} (hu : VR e w a u) (hv : VR e w b v) (h : binA P op t x y a b = some r) :
    ∃ z, (do eqGuard op t x y u v; binOp op t u v : Sem Value).run P w = .ok z w ∧ VR e w r z := by
  unfold binA at h
  split at h
  · rename_i k m yk n
    simp only [VR] at hu hv; subst hu hv
    obtain ⟨z, hz, hr⟩ := shlF_ok (P := P) (e := e) (w := w) (t := t) (yk := yk) h
    exact ⟨z, hz, hr⟩
  · rename_i k m yk n
    simp only [VR] at hu hv; subst hu hv
    obtain ⟨z, hz, hr⟩ := shrF_ok (P := P) (e := e) (w := w) (t := t) (yk := yk) h
    exact ⟨z, hz, hr⟩
  · simp only [VR] at hu hv; subst hu hv
    split at h
    · rename_i hkk _
      subst hkk
      obtain ⟨z, hz, hr⟩ := arith_ok (P := P) (e := e) (w := w) (t := t) h
      refine ⟨z, ?_, hr⟩
      rw [bind_ok (s := eqGuard _ _ _ _ _ _) (a := ()) (w' := w) (by cases op <;> rfl)]
      exact hz
    · cases h
  · simp only [VR] at hu hv
    obtain ⟨s, rfl, hs⟩ := hu
    obtain ⟨q, rfl, hq⟩ := hv
    obtain ⟨z, hz, hr⟩ := strOp_ok (P := P) (e := e) (w := w) (t := t) hs hq h
    refine ⟨z, ?_, hr⟩
    rw [bind_ok (s := eqGuard _ _ _ _ _ _) (a := ()) (w' := w) (by cases op <;> rfl)]
    exact hz
  · rename_i h1 h2
    cases he : eqA P t x y a b with
    | none => rw [he] at h; cases h
    | some q =>
      rw [he] at h; cases h
      have f := eqA_ok hu hv he
      refine ⟨.bool q, ?_, by simp only [VR]⟩
      rw [bind_ok f.guardE, f.eql, bind_ok f.run]; rfl
  · rename_i h1 h2
    cases he : eqA P t x y a b with
    | none => rw [he] at h; cases h
    | some q =>
      rw [he] at h; cases h
      have f := eqA_ok hu hv he
      refine ⟨.bool !q, ?_, by simp only [VR, notB_eq]⟩
      rw [bind_ok f.guardN, f.neq, bind_ok f.run]; rfl
  · cases h
end Go.Proofs.Ytcjfjfhggfcnfaa.Am
