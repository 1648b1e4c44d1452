/- Equality of flat values, held against the model's. -/
import Derived.Test.YtcjfjfhggfcnfaaAmOpsC
import Derived.Laws.StructEq
set_option linter.unusedSimpArgs false
set_option linter.unusedVariables false
namespace Go.Proofs.Ytcjfjfhggfcnfaa.Am
open Go
variable {P : Program} {w : World} {e : Env} {H H' : AHeap}

theorem flatEq1_ok {t : TypeId} {k : TypeDesc} {x y : AV} {u v : Value} {r : Bool} (D : Nat) (hk : P.underlying t = some k) (h : flatEq1 k x y = some r) (hu : VR e w x u) (hv : VR e w y v) : (Op.equalIn (D + 1) t u v).run P w = .ok r w := by
  cases k <;> simp only [flatEq1] at h <;> try (cases h; done)
  · cases x <;> cases y <;> simp only at h <;> try (cases h; done)
    simp only [VR] at hu hv
    subst hu hv
    rename_i a b
    rw [run_equalIn_bool' w D t _ _ hk]
    cases h
    cases a <;> cases b <;> rfl
  · cases x <;> cases y <;> simp only at h <;> try (cases h; done)
    simp only [VR] at hu hv
    subst hu hv
    split at h
    · rename_i h1 h2 _ _
      subst h1 h2
      rw [run_equalIn_int w D t _ _ _ _ hk]
      cases h
      rw [eqI_beq]
    · cases h
  · cases x <;> cases y <;> simp only at h <;> try (cases h; done)
    simp only [VR] at hu hv
    obtain ⟨a, rfl, rfl⟩ := hu
    obtain ⟨b, rfl, rfl⟩ := hv
    rw [run_equalIn_string w D t _ _ hk]
    cases h
    rw [strEq_eq, ByteArray.toList_eq, ByteArray.toList_eq]
theorem flatEqL_nil {a b : List AV} {r : Bool} (h : flatEqL [] a b = some r) : a = [] ∧ b = [] ∧ r = true := by
  cases a <;> cases b <;> simp [flatEqL, listRec_nil] at h
  exact ⟨rfl, rfl, h⟩
theorem flatEqL_cons {k : TypeDesc} {ks : List TypeDesc} {a b : List AV} {r : Bool} (h : flatEqL (k :: ks) a b = some r) :
    ∃ x a' y b' r1 r2, a = x :: a' ∧ b = y :: b' ∧ flatEq1 k x y = some r1 ∧ flatEqL ks a' b' = some r2 ∧ r = (r1 && r2) := by
  cases a with
  | nil => cases h
  | cons x a =>
    cases b with
    | nil => cases h
    | cons y b =>
      change (match flatEq1 k x y, flatEqL ks a b with
        | some e, some f => some (Bool.casesOn (motive := fun _ => Bool) e false f)
        | _, _ => none) = some r at h
      cases h1 : flatEq1 k x y with
      | none => rw [h1] at h; cases h
      | some r1 =>
        cases h2 : flatEqL ks a b with
        | none => rw [h1, h2] at h; cases h
        | some r2 =>
          simp only [h1, h2, Option.some.injEq] at h
          refine ⟨x, a, y, b, r1, r2, rfl, rfl, h1, h2, ?_⟩
          cases r1 <;> exact h.symm
theorem flatEqL_append {ks ls : List TypeDesc} {a b : List AV} {r : Bool} (h : flatEqL (ks ++ ls) a b = some r) :
    ∃ r1 r2, flatEqL ks (a.take ks.length) (b.take ks.length) = some r1 ∧ flatEqL ls (a.drop ks.length) (b.drop ks.length) = some r2 ∧ r = (r1 && r2) := by
  induction ks generalizing a b r with
  | nil => exact ⟨true, r, rfl, by simpa using h, by simp⟩
  | cons k ks ih =>
    obtain ⟨x, a, y, b, r1, r2, rfl, rfl, h1, h2, rfl⟩ := flatEqL_cons h
    obtain ⟨r3, r4, h3, h4, rfl⟩ := ih h2
    refine ⟨r1 && r3, r4, ?_, by simpa using h4, by simp [Bool.and_assoc]⟩
    show (match flatEq1 k x y, flatEqL ks (a.take ks.length) (b.take ks.length) with
        | some e, some f => some (Bool.casesOn (motive := fun _ => Bool) e false f)
        | _, _ => none) = _
    rw [h1, h3]; cases r1 <;> rfl
theorem flatEqL_len {ks : List TypeDesc} {a b : List AV} {r : Bool} (h : flatEqL ks a b = some r) : a.length = ks.length ∧ b.length = ks.length := by
  induction ks generalizing a b r with
  | nil => obtain ⟨rfl, rfl, _⟩ := flatEqL_nil h; exact ⟨rfl, rfl⟩
  | cons k ks ih =>
    obtain ⟨x, a, y, b, r1, r2, rfl, rfl, h1, h2, rfl⟩ := flatEqL_cons h
    obtain ⟨h3, h4⟩ := ih h2
    simp [h3, h4]

/-- a type's value out of its cells -/
def valIs (P : Program) (t : TypeId) (vs : List Value) (v : Value) : Prop := (aggOf P t = some true ∧ v = .agg vs.toArray) ∨ (aggOf P t = some false ∧ vs = [v])
theorem run_part {t : TypeId} {vs : List Value} {v : Value} {xs : Array Value} {off n : Nat} (hn : szOf P t = some n) (hv : valIs P t vs v) (hx : vs = (xs.toList.drop off).take n) : (part t xs off).run P w = .ok v w := by
  unfold part
  rcases hv with ⟨ha, rfl⟩ | ⟨ha, rfl⟩
  · rw [bind_ok (run_isAgg ha)]
    simp only [if_true]
    rw [bind_ok (run_sizeOf hn)]
    have : xs.extract off (off + n) = vs.toArray := by
      apply Array.toList_inj.mp
      rw [hx, Array.toList_extract, List.extract_eq_take_drop, show off + n - off = n by omega]
    rw [this]; rfl
  · rw [bind_ok (run_isAgg ha)]
    simp only [Bool.false_eq_true, if_false]
    have h0 : xs[off]? = some v := by
      have : ((xs.toList.drop off).take n)[0]? = some v := by rw [← hx]; rfl
      rw [List.getElem?_take] at this
      split at this
      · rw [List.getElem?_drop] at this; simpa using this
      · cases this
    rw [h0]; rfl

theorem flatK_succ (d : Nat) (t : TypeId) : flatK P (d + 1) t =
    match P.underlying t with
    | some .bool => some [.bool]
    | some (.int k) => some [.int k]
    | some .string => some [.string]
    | some (.struct fs) => match P.stoodInHeld t with
      | true => none
      | false => listRec (some []) (fun (f : Field) _ acc => match acc with
          | none => none
          | some acc => match flatK P d f.type, (P.info? f.type) with
            | some l, some i => match f.name == "_", Nat.beq f.offset (llen acc), Nat.beq i.size (llen l) with
              | false, true, true => some (lapp acc l)
              | _, _, _ => none
            | _, _ => none) fs.toList.reverse
    | _ => none := rfl

noncomputable def flatFs (P : Program) (d : Nat) (l : List Field) : Option (List TypeDesc) := listRec (some []) (fun (f : Field) _ acc => match acc with
          | none => none
          | some acc => match flatK P d f.type, (P.info? f.type) with
            | some l, some i => match f.name == "_", Nat.beq f.offset (llen acc), Nat.beq i.size (llen l) with
              | false, true, true => some (lapp acc l)
              | _, _, _ => none
            | _, _ => none) l
theorem flatFs_cons {d : Nat} {f : Field} {l : List Field} {ks : List TypeDesc} (h : flatFs P d (f :: l) = some ks) :
    ∃ acc lf i, flatFs P d l = some acc ∧ flatK P d f.type = some lf ∧ P.info? f.type = some i ∧ f.name ≠ "_" ∧ f.offset = acc.length ∧ i.size = lf.length ∧ ks = acc ++ lf := by
  change (match flatFs P d l with
          | none => none
          | some acc => match flatK P d f.type, (P.info? f.type) with
            | some l, some i => match f.name == "_", Nat.beq f.offset (llen acc), Nat.beq i.size (llen l) with
              | false, true, true => some (lapp acc l)
              | _, _, _ => none
            | _, _ => none) = some ks at h
  cases h1 : flatFs P d l with
  | none => rw [h1] at h; cases h
  | some acc =>
    simp only [h1] at h
    split at h
    · rename_i lf i h2 h3
      split at h
      · rename_i h4 h5 h6
        have h5 := Nat.eq_of_beq_eq_true h5
        have h6 := Nat.eq_of_beq_eq_true h6
        rw [llen_eq] at h5 h6
        rw [lapp_eq] at h
        exact ⟨acc, lf, i, rfl, h2, h3, by simpa using h4, h5, h6, (Option.some.inj h).symm⟩
      · cases h
    · cases h

def FlatEq (P : Program) (e : Env) (w : World) (D : Nat) (t : TypeId) (ks : List TypeDesc) : Prop :=
  ∀ (cs ds : List AV) (vs us : List Value) (r : Bool), VRs e w cs vs → VRs e w ds us → flatEqL ks cs ds = some r →
    ∃ v u, valIs P t vs v ∧ valIs P t us u ∧ (Op.equalIn D t v u).run P w = .ok r w
theorem run_eqFields {d D : Nat} (ih : ∀ t ks, flatK P d t = some ks → FlatEq P e w D t ks) (xs ys : Array Value) (cs ds : List AV) (hx : VRs e w cs xs.toList) (hy : VRs e w ds ys.toList) :
    ∀ (l : List Field) (acc : List TypeDesc) (r : Bool) (rest : List Field), flatFs P d l = some acc → flatEqL acc (cs.take acc.length) (ds.take acc.length) = some r →
      (Op.eqFields D xs ys (l.reverse ++ rest)).run P w = if r = true then (Op.eqFields D xs ys rest).run P w else .ok false w
  | [], acc, r, rest, h, hf => by
    simp only [flatFs, listRec_nil, Option.some.injEq] at h
    subst h
    obtain ⟨_, _, rfl⟩ := flatEqL_nil hf
    simp
  | f :: l, acc, r, rest, h, hf => by
    obtain ⟨acc', lf, i, h1, h2, h3, h4, h5, h6, rfl⟩ := flatFs_cons h
    obtain ⟨r1, r2, hf1, hf2, rfl⟩ := flatEqL_append hf
    rw [List.take_take, List.take_take, List.length_append, Nat.min_eq_left (by omega)] at hf1
    have hd : ∀ (cs : List AV), (cs.take (acc'.length + lf.length)).drop acc'.length = (cs.drop acc'.length).take lf.length := by
      intro cs; rw [List.drop_take]; congr 1; omega
    rw [List.length_append, hd, hd] at hf2
    rw [List.reverse_cons, List.append_assoc, run_eqFields ih xs ys cs ds hx hy l acc' r1 ([f] ++ rest) h1 hf1]
    obtain ⟨v, u, hv, hu, hrun⟩ := ih f.type lf h2 _ _ _ _ _ ((hx.drop acc'.length).take lf.length) ((hy.drop acc'.length).take lf.length) hf2
    have hsz : szOf P f.type = some lf.length := by rw [szOf_info h3, h6]
    have hp1 := run_part (P := P) (w := w) (xs := xs) (off := f.offset) hsz hv (by rw [h5])
    have hp2 := run_part (P := P) (w := w) (xs := ys) (off := f.offset) hsz hu (by rw [h5])
    have hfs : (Op.eqFields D xs ys ([f] ++ rest)).run P w = if r2 = true then (Op.eqFields D xs ys rest).run P w else .ok false w := by
      show (Op.eqFields D xs ys (f :: rest)).run P w = _
      simp only [Op.eqFields, ne_eq, h4, not_false_eq_true, if_true]
      rw [bind_ok hp1, bind_ok hp2, bind_ok hrun]
      cases r2 <;> rfl
    cases r1
    · simp
    · simp only [if_true, Bool.true_and]; exact hfs
theorem flat_eq : ∀ (d D : Nat) (t : TypeId) (ks : List TypeDesc), d ≤ D → flatK P d t = some ks → FlatEq P e w D t ks
  | 0, D, t, ks, _, h => by cases h
  | d + 1, 0, t, ks, hD, h => by omega
  | d + 1, D + 1, t, ks, hD, h => by
    intro cs ds vs us r hv hu hf
    rw [flatK_succ] at h
    have one : ∀ (k : TypeDesc), P.underlying t = some k → aggDesc k = false → ks = [k] → ∃ v u, valIs P t vs v ∧ valIs P t us u ∧ (Op.equalIn (D + 1) t v u).run P w = .ok r w := by
      intro k hk hak hks
      subst hks
      obtain ⟨x, a', y, b', r1, r2, rfl, rfl, h1, h2, rfl⟩ := flatEqL_cons hf
      obtain ⟨rfl, rfl, rfl⟩ := flatEqL_nil h2
      simp only [VRs] at hv hu
      obtain ⟨v, _, rfl, hv, rfl⟩ := hv
      obtain ⟨u, _, rfl, hu, rfl⟩ := hu
      have ha : aggOf P t = some false := by unfold aggOf; rw [hk]; exact congrArg some hak
      exact ⟨v, u, .inr ⟨ha, rfl⟩, .inr ⟨ha, rfl⟩, by rw [Bool.and_true]; exact flatEq1_ok D hk h1 hv hu⟩
    split at h
    · rename_i hk; exact one _ hk rfl (Option.some.inj h).symm
    · rename_i k hk; exact one _ hk rfl (Option.some.inj h).symm
    · rename_i hk; exact one _ hk rfl (Option.some.inj h).symm
    · rename_i fs hk
      split at h
      · cases h
      · rename_i hst
        have hfs : flatFs P d fs.toList.reverse = some ks := h
        have ha : aggOf P t = some true := by unfold aggOf; rw [hk]; rfl
        have hfo : P.fieldsOf t = fs := by unfold Program.fieldsOf; rw [hk]
        obtain ⟨hl1, hl2⟩ := flatEqL_len hf
        have hrun := run_eqFields (D := D) (fun t ks h => flat_eq d D t ks (by omega) h) vs.toArray us.toArray cs ds (by simpa using hv) (by simpa using hu) fs.toList.reverse ks r [] hfs (by rw [List.take_of_length_le (by omega), List.take_of_length_le (by omega)]; exact hf)
        refine ⟨.agg vs.toArray, .agg us.toArray, .inl ⟨ha, rfl⟩, .inl ⟨ha, rfl⟩, ?_⟩
        rw [run_equalIn_struct w D t _ _ (by rw [hfo]; exact hk) hst, hfo]
        rw [List.reverse_reverse, List.append_nil] at hrun
        rw [hrun]
        cases r <;> rfl
    · cases h
end Go.Proofs.Ytcjfjfhggfcnfaa.Am
