/- One operation that is no call, held against the model's: whatever it is. -/
import Derived.Test.YtcjfjfhggfcnfaaAmOpsL
set_option linter.unusedSimpArgs false
set_option linter.unusedVariables false
namespace Go.Proofs.Ytcjfjfhggfcnfaa.Am
open Go
variable {P : Program} {w : World} {e : Env} {H H' : AHeap}

def TR (e : Env) (w : World) (T : ATmps) (tmps : Array Value) : Prop := ∀ t, VR e w (ATmps.at T t) (tmps.getD t undef)
theorem TR.mono {e' : Env} {w' : World} {T : ATmps} {tmps : Array Value} (h : TR e w T tmps) (hle : Le e w e' w') : TR e' w' T tmps := fun t => VR.mono hle _ _ (h t)
theorem operand_ok {T : ATmps} {a : Act} (h : TR e w T a.tmps) (x : Operand) : VR e w (operand x T) (a.eval x) := by
  cases x with
  | tmp t => exact h t
  | const v => exact cv_ok v
  | global g => simp only [operand, Act.eval, VR]
  | func f => simp only [operand, Act.eval, VR, VRs]; exact ⟨#[], #[], rfl, rfl, rfl⟩
theorem args_ok {T : ATmps} {a : Act} (h : TR e w T a.tmps) (xs : Array Operand) : VRs e w (argsA T xs) (xs.map a.eval).toList := by
  unfold argsA
  rw [lmap_eq, Array.toList_map]
  exact VRs.map _ _ _ fun x _ => operand_ok h x
theorem opts_ok {T : ATmps} {a : Act} (h : TR e w T a.tmps) (x : Option Operand) : OptOk e w (opts T x) (x.map a.eval) := by
  cases x with
  | none => trivial
  | some x => exact operand_ok h x
theorem parts_ok {T : ATmps} {a : Act} (h : TR e w T a.tmps) (ps : Array (Nat × Operand)) : PartsOk e w (partsA T ps) (ps.map fun (i, x) => (i, a.eval x)).toList := by
  unfold partsA
  rw [lmap_eq, Array.toList_map]
  refine ⟨by simp, fun i p v hp hv => ?_⟩
  rw [List.getElem?_map] at hp hv
  cases hq : ps.toList[i]? with
  | none => rw [hq] at hp; cases hp
  | some q =>
    rw [hq] at hp hv
    cases hp
    cases hv
    exact ⟨rfl, operand_ok h _⟩
/-- what an operation comes to -/
def StepOk (P : Program) (e : Env) (w : World) (s : Sem Next) (x : AV) (H' : AHeap) : Prop :=
  ∃ e' w' v, (s.run P w = .ok (.value v) w' ∨ (s.run P w = .ok .skip w' ∧ v = undef)) ∧ Le e w e' w' ∧ Inv e' H' w' ∧ VR e' w' x v
theorem Goes.step {s : Sem Value} {x : AV} (h : Goes P e w s x H') : StepOk P e w (do pure (.value (← s))) x H' := by
  obtain ⟨e', w', v, hrun, hle, hinv, hv⟩ := h
  exact ⟨e', w', v, .inl (by rw [bind_ok hrun]; rfl), hle, hinv, hv⟩
theorem GoesU.step {s : Sem Unit} (h : GoesU P e w s H') : StepOk P e w (do s; pure .skip) (.tup []) H' := by
  obtain ⟨e', w', hrun, hle, hinv⟩ := h
  exact ⟨e', w', undef, .inr ⟨by rw [bind_ok hrun]; rfl, rfl⟩, hle, hinv, by simp only [VR, VRs]; exact ⟨#[], rfl, rfl⟩⟩
theorem Value.step {v : Value} {x : AV} (hI : Inv e H w) (hv : VR e w x v) : StepOk P e w (pure (.value v)) x H := ⟨e, w, v, .inl rfl, Le.refl e w, hI, hv⟩
theorem pureO_some {o : Option AV} {x : AV} (h : pureO o H = some (x, H')) : o = some x ∧ H' = H := by
  cases o with
  | none => cases h
  | some y => cases h; exact ⟨rfl, rfl⟩
theorem pure_step {s : Sem Value} {o : Option AV} {x : AV} (hI : Inv e H w) (h : pureO o H = some (x, H')) (k : ∀ y, o = some y → ∃ u, s.run P w = .ok u w ∧ VR e w y u) : StepOk P e w (do pure (.value (← s))) x H' := by
  obtain ⟨rfl, rfl⟩ := pureO_some h
  obtain ⟨u, hu, hr⟩ := k _ rfl
  exact (Goes.same hI hu hr).step

theorem opA_ok {imm : Bool} {o : Oper} {T : ATmps} {a : Act} {x : AV} (hI : Inv e H w) (hT : TR e w T a.tmps) (h : opA imm o.op P T H = some (x, H')) : StepOk P e w (execOp a.eval o) x H' := by
  have op := operand_ok hT
  unfold execOp
  cases hop : o.op <;> rw [hop] at h <;> simp only [opA] at h <;> try (cases h; done)
  case move y => cases h; exact Value.step hI (op _)
  case assign y => cases h; exact Value.step hI (op _)
  case pick c p q =>
    simp only
    have hc := op c
    cases hcc : operand c T <;> rw [hcc] at h hc <;> simp only [oPick] at h <;> try (cases h; done)
    rename_i t
    simp only [VR] at hc
    cases h
    refine ⟨e, w, if t then a.eval p else a.eval q, .inl ?_, Le.refl e w, hI, ?_⟩
    · rw [bind_ok (s := asBool _) (a := t) (w' := w) (by rw [hc]; rfl)]; rfl
    · cases t
      · exact op q
      · exact op p
  case alloc t => exact (oAlloc_ok hI h).step
  case box t y => exact (oBox_ok hI (op y) h).step
  case build t ps => 
    obtain ⟨h1, rfl⟩ := pureO_some h
    exact (buildA_ok hI (parts_ok hT ps) h1).step
  case buildSlice t n ps => exact (oBuildSlice_ok hI (parts_ok hT ps) h).step
  case insert t m k v =>
    obtain ⟨rfl, h2⟩ := oMapUpdate_ok (P := P) hI (op m) (op k) (op v) h
    exact h2.step
  case load t y => exact (oLoad_ok hI (op y) h).step
  case store t y v =>
    obtain ⟨rfl, h2⟩ := oStore_ok (P := P) hI (op y) (op v) h
    exact h2.step
  case nilCheck y =>
    simp only
    have hy := op y
    cases hyy : operand y T <;> rw [hyy] at h hy <;> simp only [oNilCheck] at h <;> (try (cases h; done)) <;> cases h <;> have hy0 := hy <;> simp only [VR] at hy
    · obtain ⟨b, n, q, hb, hv⟩ := hy
      rw [hv] at hy0 ⊢; exact Value.step hI hy0
    · rw [hy] at hy0 ⊢; exact Value.step hI hy0
    · obtain ⟨b, q, hv, _⟩ := hy
      rw [hv] at hy0 ⊢; exact Value.step hI hy0
    · obtain ⟨b, q, hv, _⟩ := hy
      rw [hv] at hy0 ⊢; exact Value.step hI hy0
    · obtain ⟨b, hv, _⟩ := hy
      rw [hv] at hy0 ⊢; exact Value.step hI hy0
  case binOp bo t y z t' => exact pure_step hI h fun r hr => binA_ok (op y) (op z) hr
  case unOp uo t y => exact pure_step hI h fun r hr => unA_ok (op y) hr
  case convert s d y => exact (convA_ok hI (op y) h).step
  case makeInterface t y => exact pure_step hI h fun r hr => makeIfaceA_ok (op y) hr
  case makeFunc f p q => exact pure_step hI h fun r hr => makeFuncA_ok (args_ok hT p) (args_ok hT q) hr
  case makeMap t r => exact (oMakeMap_ok hI (opts_ok hT r) h).step
  case makeSlice t l c => exact (oMakeSlice_ok hI (op l) (op c) h).step
  case slice t y l hh m => exact pure_step hI h fun r hr => sliceA_ok (op y) (opts_ok hT l) (opts_ok hT hh) (opts_ok hT m) hr
  case fieldAddr s y f => exact pure_step hI h fun r hr => fieldAddrA_ok (op y) hr
  case field t y f => exact pure_step hI h fun r hr => fieldA_ok (op y) hr
  case indexAddr t y i => exact pure_step hI h fun r hr => indexAddrA_ok (op y) (op i) hr
  case index t y i => exact pure_step hI h fun r hr => indexA_ok (op y) (op i) hr
  case lookup t m k ok => exact (oLookup_ok hI (op m) (op k) h).step
  case mapUpdate t m k v =>
    obtain ⟨rfl, h2⟩ := oMapUpdate_ok (P := P) hI (op m) (op k) (op v) h
    exact h2.step
  case mapEntry t m k => exact (oMapEntry_ok hI (op m) (op k) h).step
  case entryStore t m s v =>
    obtain ⟨rfl, h2⟩ := oEntryStore_ok (P := P) (t := t) hI (op m) (op s) (op v) h
    exact h2.step
  case extract y i => exact pure_step hI h fun r hr => extractA_ok (op y) hr
  case range t y => exact (oRange_ok hI (op y) h).step
  case next y s => exact (oNext_ok hI (op y) h).step
theorem builtinA_ok {b : Builtin} {ts : Array TypeId} {ty : TypeId} {cs : Array Bool} {xs : List AV} {vs : Array Value} {x : AV} (hI : Inv e H w) (hv : VRs e w xs vs.toList) (h : builtinA P H b ts.toList xs = some (x, H')) :
    StepOk P e w (builtin b ts ty cs vs) x H' := by
  unfold builtin
  cases b <;> simp only [builtinA] at h <;> try (cases h; done)
  · exact (appendA_ok hI hv h).step
  · exact (copyA_ok hI hv h).step
  · exact pure_step hI h fun r hr => lenA_ok hI hv hr
  · exact pure_step hI h fun r hr => by
      obtain ⟨z, hz, hr'⟩ := mmA_ok (P := P) (ts := ts) (ty := ty) hv hr
      exact ⟨z, hz, hr'⟩
  · exact pure_step hI h fun r hr => by
      obtain ⟨z, hz, hr'⟩ := mmA_ok (P := P) (ts := ts) (ty := ty) hv hr
      exact ⟨z, hz, hr'⟩
end Go.Proofs.Ytcjfjfhggfcnfaa.Am
