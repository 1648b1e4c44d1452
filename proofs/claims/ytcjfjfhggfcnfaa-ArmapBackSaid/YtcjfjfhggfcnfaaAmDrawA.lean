/- Of drawn regions: what an operation looks at, what it leaves. -/
import Derived.Test.YtcjfjfhggfcnfaaAmCode
set_option linter.unusedSimpArgs false
set_option linter.unusedVariables false
namespace Go.Proofs.Ytcjfjfhggfcnfaa.Am
open Go
variable {P : Program} {w : World} {e : Env} {H H' : AHeap} {cfg : Cfg} {ih : Code → ATmps → AHeap → CodeR}

theorem andB_iff {a b : Bool} : andB a b = true ↔ a = true ∧ b = true := by cases a <;> simp [andB]
theorem boolEq_iff {a b : Bool} : boolEq a b = true → a = b := by cases a <;> cases b <;> simp [boolEq]
theorem kindEq_iff {a b : IntKind} (h : kindEq a b = true) : a = b := by
  unfold kindEq at h
  split at h
  · assumption
  · cases h
theorem optEq_iff {a b : Option Nat} (h : optEq a b = true) : a = b := by
  cases a <;> cases b <;> simp [optEq] at h ⊢ <;> exact h
theorem eqI_iff {a b : Int} (h : eqI a b = true) : a = b := by
  cases a <;> cases b <;> simp [eqI] at h <;> rw [h]
theorem strEq_iff : ∀ {a b : List Nat}, strEq a b = true → a = b
  | [], [], _ => rfl
  | [], _ :: _, h => by cases h
  | _ :: _, [], h => by cases h
  | x :: a, y :: b, h => by
    change Bool.casesOn (Nat.beq x y) false (strEq a b) = true at h
    cases hx : Nat.beq x y with
    | false => rw [hx] at h; cases h
    | true => rw [hx] at h; rw [Nat.eq_of_beq_eq_true hx, strEq_iff h]
theorem avEqL_iff {eq : AV → AV → Bool} (he : ∀ x y, eq x y = true → x = y) : ∀ {a b : List AV}, avEqL eq a b = true → a = b
  | [], [], _ => rfl
  | [], _ :: _, h => by cases h
  | _ :: _, [], h => by cases h
  | x :: a, y :: b, h => by
    change Bool.casesOn (eq x y) false (avEqL eq a b) = true at h
    cases hx : eq x y with
    | false => rw [hx] at h; cases h
    | true => rw [hx] at h; rw [he _ _ hx, avEqL_iff he h]
theorem avEq_iff : ∀ (d : Nat) (x y : AV), avEq d x y = true → x = y
  | 0, _, _, h => by cases h
  | d + 1, x, y, h => by
    have ih := avEq_iff d
    unfold avEq at ih h
    rw [natRec_succ] at h
    generalize natRec _ _ d = r at ih h
    cases x <;> cases y <;> (try (exact Bool.noConfusion h)) <;> simp only [andB_iff] at h
    all_goals first
      | rfl
      | (obtain ⟨h1, h2⟩ := h; rw [kindEq_iff h1, eqI_iff h2])
      | rw [boolEq_iff h]
      | rw [strEq_iff h]
      | rw [avEqL_iff ih h]
      | (obtain ⟨h1, h2, h3, h4, h5, h6⟩ := h; rw [Nat.eq_of_beq_eq_true h1, Nat.eq_of_beq_eq_true h2, Nat.eq_of_beq_eq_true h3, Nat.eq_of_beq_eq_true h4, Nat.eq_of_beq_eq_true h5, optEq_iff h6])
      | (obtain ⟨h1, h2, h3, h4⟩ := h; rw [Nat.eq_of_beq_eq_true h1, boolEq_iff h2, boolEq_iff h3, avEqL_iff ih h4])
      | (obtain ⟨h1, h2, h3⟩ := h; rw [Nat.eq_of_beq_eq_true h1, Nat.eq_of_beq_eq_true h2, Nat.eq_of_beq_eq_true h3])
      | (obtain ⟨h1, h2, h3⟩ := h; rw [Nat.eq_of_beq_eq_true h1, avEqL_iff ih h2, avEqL_iff ih h3])
      | (obtain ⟨h1, h2⟩ := h; rw [Nat.eq_of_beq_eq_true h1, Nat.eq_of_beq_eq_true h2])
      | (obtain ⟨h1, h2⟩ := h; rw [Nat.eq_of_beq_eq_true h1, ih _ _ h2])
      | rw [Nat.eq_of_beq_eq_true h]

/-! What leaves the heap. -/
theorem pureO_same {o : Option AV} {x : AV} (h : pureO o H = some (x, H')) : H' = H := (pureO_some h).2
theorem oLoad_same {t : TypeId} {x y : AV} (h : oLoad P t x H = some (y, H')) : H' = H := by
  unfold oLoad at h
  cases hA : aggOf P t with
  | none => rw [hA] at h; cases h
  | some b =>
    rw [hA] at h
    cases b
    · cases hr : rdMem 1 x H with
      | none => simp only [hr] at h; cases h
      | some cs =>
        simp only [hr] at h
        match cs, h with
        | [y], h => cases h; rfl
        | [], h => cases h
        | _ :: _ :: _, h => cases h
    · cases hn : szOf P t with
      | none => simp only [hn] at h; cases h
      | some n =>
        simp only [hn] at h
        cases hr : rdMem n x H with
        | none => simp only [hr] at h; cases h
        | some cs => simp only [hr] at h; cases h; rfl
theorem convA_same {s d : TypeId} {x y : AV} (h : convA true P s d x H = some (y, H')) : H' = H := by
  unfold convA at h
  split at h
  · cases h; rfl
  · cases h; rfl
  · split at h
    · cases h; rfl
    · cases h
  · split at h
    · cases h; rfl
    · cases h; rfl
    · cases h
  · split at h
    · split at h
      · cases h
      · split at h
        · cases h
        · split at h
          · cases h; rfl
          · cases h
    · cases h
  · cases h
theorem oBuildSlice_same {t : TypeId} {n : Nat} {ps : List (Nat × AV)} {y : AV} (h : oBuildSlice P t n ps true H = some (y, H')) : H' = H := by
  unfold oBuildSlice at h
  split at h
  · cases h
  · split at h
    · split at h
      · cases h; rfl
      · cases h
    · cases h
theorem oLookup_same {t : TypeId} {m k y : AV} {ok : Bool} (h : oLookup P t m k ok H = some (y, H')) : H' = H := by
  unfold oLookup at h
  split at h
  · cases h
  · split at h
    · split at h
      · cases h; rfl
      · cases h; rfl
      · cases h
    · cases h
theorem callF_still {f : Nat} {args : List AV} {out : AOut} (hs : (∃ g, cfg.ext f = some g) ∨ cfg.mode f = .plain) (h : callF cfg P ih f args H = some (out, H')) : H' = H := by
  unfold callF at h
  cases hext : cfg.ext f with
  | some g =>
    simp only [hext] at h
    split at h
    · split at h
      · cases h; rfl
      · cases h
    · cases h
  | none =>
    rcases hs with ⟨g, hg⟩ | hm
    · rw [hext] at hg; cases hg
    · simp only [hext, hm] at h
      split at h
      · cases h
      · split at h
        · split at h
          · cases h; rfl
          · cases h
        · split at h
          · cases h; rfl
          · cases h
        · cases h
theorem still_same {op : Op} {dst : Option Nat} {T : ATmps} {out : AOut} (hs : stillOp cfg dst op = true) (h : anyOp cfg true P ih op T H = some (out, H')) : H' = H := by
  have key : ∀ {r : Res}, (match r with
      | some (v, H) => some (AOut.ret v, H)
      | none => none) = some (out, H') → ∃ v, r = some (v, H') := fun {r} h => by
    cases r with
    | none => cases h
    | some q => cases h; exact ⟨_, rfl⟩
  cases op <;> simp only [stillOp] at hs <;> (try (cases hs; done)) <;> simp only [anyOp, opA] at h
  case move => cases h; rfl
  case assign => cases h; rfl
  case pick c a b =>
    obtain ⟨v, hv⟩ := key h
    generalize operand c T = q at hv
    cases q <;> first | (cases hv; rfl) | (cases hv; done)
  case build => obtain ⟨v, hv⟩ := key h; exact pureO_same hv
  case buildSlice => obtain ⟨v, hv⟩ := key h; exact oBuildSlice_same hv
  case load => obtain ⟨v, hv⟩ := key h; exact oLoad_same hv
  case nilCheck =>
    obtain ⟨v, hv⟩ := key h
    generalize operand _ T = q at hv
    cases q <;> first | (cases hv; rfl) | (cases hv; done)
  case binOp => obtain ⟨v, hv⟩ := key h; exact pureO_same hv
  case unOp => obtain ⟨v, hv⟩ := key h; exact pureO_same hv
  case convert => obtain ⟨v, hv⟩ := key h; exact convA_same hv
  case makeInterface => obtain ⟨v, hv⟩ := key h; exact pureO_same hv
  case makeFunc => obtain ⟨v, hv⟩ := key h; exact pureO_same hv
  case slice => obtain ⟨v, hv⟩ := key h; exact pureO_same hv
  case fieldAddr => obtain ⟨v, hv⟩ := key h; exact pureO_same hv
  case field => obtain ⟨v, hv⟩ := key h; exact pureO_same hv
  case indexAddr => obtain ⟨v, hv⟩ := key h; exact pureO_same hv
  case index => obtain ⟨v, hv⟩ := key h; exact pureO_same hv
  case lookup => obtain ⟨v, hv⟩ := key h; exact oLookup_same hv
  case extract => obtain ⟨v, hv⟩ := key h; exact pureO_same hv
  case call c =>
    obtain ⟨callee, args, ats⟩ := c
    cases callee with
    | builtin b =>
      cases b <;> simp only at hs <;> (try (cases hs; done)) <;> simp only [callA] at h
      all_goals
        cases hr : builtinA P H _ ats.toList (argsA T args) with
        | none => rw [hr] at h; cases h
        | some q =>
          obtain ⟨v, H2⟩ := q
          rw [hr] at h
          cases h
          exact pureO_same hr
    | invoke r m => cases hs
    | value f =>
      cases f with
      | func f =>
        simp only [callA, operand] at h
        refine callF_still ?_ h
        simp only at hs
        cases hext : cfg.ext f with
        | some g => exact .inl ⟨g, rfl⟩
        | none =>
          rw [hext] at hs
          simp only at hs
          cases hm : cfg.mode f <;> rw [hm] at hs <;> first | exact .inr rfl | cases hs
      | _ => cases hs

/-! What is looked at. -/
theorem argsA_congr {T T' : ATmps} {xs : Array Operand} (h : ∀ x ∈ xs, operand x T = operand x T') : argsA T xs = argsA T' xs := by
  unfold argsA
  rw [lmap_eq, lmap_eq]
  exact List.map_congr_left fun x hx => h x (by simpa using hx)
theorem partsA_congr {T T' : ATmps} {xs : Array (Nat × Operand)} (h : ∀ x ∈ xs.map (·.2), operand x T = operand x T') : partsA T xs = partsA T' xs := by
  unfold partsA
  rw [lmap_eq, lmap_eq]
  refine List.map_congr_left fun p hp => ?_
  rw [h p.2 (Array.mem_map.2 ⟨p, by simpa using hp, rfl⟩)]
theorem opts_congr {T T' : ATmps} {x : Option Operand} (h : ∀ y ∈ x.toArray, operand y T = operand y T') : opts T x = opts T' x := by
  cases x with
  | none => rfl
  | some x => simp [opts, h x (by simp)]
theorem callA_congr {T T' : ATmps} (c : Call) (h : ∀ x ∈ c.operands, operand x T = operand x T') : callA cfg P ih c T H = callA cfg P ih c T' H := by
  have ha : argsA T c.args = argsA T' c.args := argsA_congr fun x hx => h x (by simp [Call.operands, hx])
  unfold callA
  rw [ha]
  cases hc : c.callee with
  | builtin b => cases b <;> rfl
  | invoke r m => rfl
  | value f =>
    have hf : operand f T = operand f T' := h f (by simp [Call.operands, hc])
    simp only [hf]
theorem anyOp_congr {imm : Bool} {T T' : ATmps} (op : Op) (h : ∀ x ∈ op.operands, operand x T = operand x T') : anyOp cfg imm P ih op T H = anyOp cfg imm P ih op T' H := by
  cases op <;> simp only [Op.operands] at h <;> simp only [anyOp, opA]
  case build t ps => rw [partsA_congr fun x hx => h x (by simpa using hx)]
  case buildSlice t n ps => rw [partsA_congr fun x hx => h x (by simpa using hx)]
  case makeFunc fn first captured =>
    rw [argsA_congr (xs := first) fun x hx => h x (by simp [hx]), argsA_congr (xs := captured) fun x hx => h x (by simp [hx])]
  case call c => exact callA_congr c h
  case makeMap t r => rw [opts_congr h]
  case slice t x lo hi mx =>
    rw [h x (by simp), opts_congr (x := lo) fun y hy => h y (by simp at hy; simp [hy]), opts_congr (x := hi) fun y hy => h y (by simp at hy; simp [hy]), opts_congr (x := mx) fun y hy => h y (by simp at hy; simp [hy])]
  all_goals (first | rfl | (simp_all; done))
end Go.Proofs.Ytcjfjfhggfcnfaa.Am
