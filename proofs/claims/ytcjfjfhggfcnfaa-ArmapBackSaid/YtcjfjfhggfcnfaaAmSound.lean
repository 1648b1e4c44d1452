/- What the abstract machine answers, the model's own does. -/
import Derived.Test.YtcjfjfhggfcnfaaAmDrawD
import Derived.Scope
set_option linter.unusedSimpArgs false
set_option linter.unusedVariables false
namespace Go.Proofs.Ytcjfjfhggfcnfaa.Am
open Go
variable {P : Program} {w : World} {e : Env} {H H' : AHeap} {cfg : Cfg} {ih : Code → ATmps → AHeap → CodeR}

theorem ExIs.mono {e' : Env} {w' : World} {ax : AExit} {ex : Exit} (h : ExIs e w ax ex) (hle : Le e w e' w') : ExIs e' w' ax ex := by
  cases ax <;> cases ex <;> simp only [ExIs] at h ⊢ <;> first | trivial | exact h | skip
  obtain ⟨v, h1, h2⟩ := h
  exact ⟨v, h1, VR.mono hle _ _ h2⟩
theorem Post.after {e1 : Env} {w1 : World} {n : Nat} {D : List Deferred} {r : AExit × ATmps × AHeap} {ex : Exit} {a' : Act} {w' : World} (hle : Le e w e1 w1) (h : Post e1 w1 n D r ex a' w') : Post e w n D r ex a' w' :=
  let ⟨e', h1, h2⟩ := h; ⟨e', hle.trans h1, h2⟩

theorem evOps_cons (imm : Bool) (ops : List Oper) (o : Oper) (l : List Oper) (T : ATmps) (H : AHeap) : evOps cfg imm P ih ops (o :: l) T H = match guardA ops T o.guard with
    | none => none
    | some false => evOps cfg imm P ih ops l (putA T o.dst (.tup [])) H
    | some true => match anyOp cfg imm P ih o.op T H with
      | some (.ret v, H) => evOps cfg imm P ih ops l (putA T o.dst v) H
      | some (.pan v, H) => some (.pan v, T, H)
      | none => none := rfl
theorem evOps_ok (hih : IHOk P ih) (hx : ExtOk cfg P) {imm : Bool} {ops : Array Oper} {n : Nat} (hdst : ∀ (k : Nat) (o : Oper) (d : Tmp), ops[k]? = some o → o.dst = some d → d < n) :
    ∀ (l : List Oper) (k : Nat), (∀ j : Nat, l[j]? = ops[k + j]?) → ∀ {T : ATmps} {H : AHeap} {r : AExit × ATmps × AHeap}, evOps cfg imm P ih ops.toList l T H = some r → ∀ {e : Env} {w : World} {a : Act}, Inv e H w → TR e w T a.tmps → a.tmps.size = n → ∀ {D : List Deferred}, a.defers = D →
      ∀ {Q : Exit → Act → World → Prop}, (∀ ex a' w', Post e w n D r ex a' w' → Q ex a' w') → wpOps P ops Q (List.range' k l.length) a w
  | [], k, hl, T, H, r, h, e, w, a, hI, hT, hn, D, hd, Q, hQ => by
    cases h
    exact hQ _ _ _ ⟨e, Le.refl e w, hI, hT, hn, hd, trivial⟩
  | o :: l, k, hl, T, H, r, h, e, w, a, hI, hT, hn, D, hd, Q, hQ => by
    have ho : ops[k]? = some o := by simpa using (hl 0).symm
    have hl' : ∀ j : Nat, l[j]? = ops[k + 1 + j]? := fun j => by have := hl (j + 1); rw [List.getElem?_cons_succ] at this; rw [this]; congr 1; omega
    rw [evOps_cons] at h
    cases hg : guardA ops.toList T o.guard with
    | none => rw [hg] at h; cases h
    | some g =>
      rw [hg] at h
      have hw := guard_ok hT (fun j o' d hj hd' => by rw [hn]; exact hdst j o' d hj hd') hg
      have next : ∀ {x : AV} {v : Value} {e2 : Env} {w2 : World} {H2 : AHeap}, evOps cfg imm P ih ops.toList l (putA T o.dst x) H2 = some r → Le e w e2 w2 → Inv e2 H2 w2 → VR e2 w2 x v → wpOps P ops Q (List.range' (k + 1) l.length) (a.put o.dst v) w2 := fun h h1 h2 h3 =>
        evOps_ok hih hx hdst l (k + 1) hl' h h2 (put_TR (hT.mono h1) (fun d hd' => by rw [hn]; exact hdst k o d ho hd') h3) (by rw [put_size]; exact hn) (by rw [put_defers']; exact hd) (fun ex a' w' hp => hQ ex a' w' (hp.after h1))
      simp only [List.length_cons, List.range'_succ, wpOps, ho]
      rw [hw]
      cases g with
      | false =>
        simp only [Bool.false_eq_true, if_false]
        exact next h (Le.refl e w) hI undef_ok
      | true =>
        simp only [if_true]
        refine .inl ?_
        simp only at h
        cases hop : anyOp cfg imm P ih o.op T H with
        | none => rw [hop] at h; cases h
        | some q =>
          obtain ⟨out, H2⟩ := q
          rw [hop] at h
          refine (anyOp_ok hih hx hI hT hop).wp (fun x v e2 w2 hx' h1 h2 h3 => ?_) (fun x v e2 w2 hx' h1 h2 h3 => ?_)
          · subst hx'
            exact next h h1 h2 h3
          · subst hx'
            cases h
            exact hQ _ _ _ ⟨e2, h1, h2, hT.mono h1, hn, hd, v, rfl, h3⟩
theorem codeOk_region {n id : Nat} {ops : Array Oper} {draw : Bool} (h : codeOk n (.region id ops draw) = true) : ∀ (k : Nat) (o : Oper) (d : Tmp), ops[k]? = some o → o.dst = some d → d < n := fun k o d ho hd => by
  unfold codeOk at h
  have := lall_get h k o (by rw [Array.getElem?_toList]; exact ho)
  unfold dstOk at this
  rw [hd] at this
  exact Nat.le_of_ble_eq_true this
theorem evRegion_ok (hm : P.follows .mixedOrders = true) (hih : IHOk P ih) (hx : ExtOk cfg P) {n id : Nat} {ops : Array Oper} {draw : Bool} (hc : codeOk n (.region id ops draw) = true) {T : ATmps} {r : AExit × ATmps × AHeap}
    (h : evRegion cfg P ih ops.toList draw T H = some r) {a : Act} (hI : Inv e H w) (hT : TR e w T a.tmps) (hn : a.tmps.size = n) {D : List Deferred} (hd : a.defers = D) : (Code.region id ops draw).wp P (Post e w n D r) a w := by
  have hdst := codeOk_region hc
  cases draw with
  | false =>
    refine wp_region ?_
    have := evOps_ok (cfg := cfg) hih hx hdst ops.toList 0 (fun j => by simp) h hI hT hn hd (Q := Post e w n D r) (fun _ _ _ h => h)
    rwa [Array.length_toList, ← List.range_eq_range'] at this
  | true =>
    simp only [evRegion] at h
    cases hdr : drawOk ops.toList (dops cfg ops.toList) with
    | false => rw [hdr] at h; cases h
    | true =>
      rw [hdr] at h
      exact wp_region_any hm (drawn_ok hih hx hdst hdr h (drew_inv hI) (hT.mono (drew_le e w)) hn hd fun ex a' w' hp => hp.after (drew_le e w))

def Good (P : Program) (ih : Code → ATmps → AHeap → CodeR) (n : Nat) : Prop := IHOk P ih ∧
  ∀ c T H r, ih (.loop c) T H = some r → ∀ m, codeOk m (.loop c) = true → ∀ e w a, Inv e H w → TR e w T a.tmps → a.tmps.size = m → ∀ D, a.defers = D →
    ∀ Q : Exit → Act → World → Prop, (∀ ex a' w', Post e w m D r ex a' w' → Q ex a' w') → Code.rounds P c Q n a w

theorem codeOk_seq {n : Nat} {x y : Code} (h : codeOk n (.seq x y) = true) : codeOk n x = true ∧ codeOk n y = true := by
  unfold codeOk at h
  split at h
  · exact ⟨by assumption, h⟩
  · cases h
theorem codeOk_cond {n : Nat} {c : Operand} {x y : Code} (h : codeOk n (.cond c x y) = true) : codeOk n x = true ∧ codeOk n y = true := by
  unfold codeOk at h
  split at h
  · exact ⟨by assumption, h⟩
  · cases h
/-- what comes behind what came to its end -/
theorem evSeq_some {b : Code} {q : CodeR} {r : AExit × ATmps × AHeap} (h : evSeq ih b q = some r) : ∃ r1, q = some r1 ∧ ((r1.1 = .normal ∧ ih b r1.2.1 r1.2.2 = some r) ∨ (r1.1 ≠ .normal ∧ r = r1)) := by
  cases q with
  | none => cases h
  | some r1 =>
    obtain ⟨ax, T, H⟩ := r1
    refine ⟨_, rfl, ?_⟩
    cases ax with
    | normal => exact .inl ⟨rfl, h⟩
    | exit i => cases h; exact .inr ⟨fun hh => (by cases hh), rfl⟩
    | ret => cases h; exact .inr ⟨fun hh => (by cases hh), rfl⟩
    | pan v => cases h; exact .inr ⟨fun hh => (by cases hh), rfl⟩
theorem then_ok {n : Nat} {D : List Deferred} {r1 : AExit × ATmps × AHeap} {next : Act → World → Prop} {Q : Exit → Act → World → Prop} {ex : Exit} {a' : Act} {w' : World} (hp : Post e w n D r1 ex a' w') 
    (h1 : r1.1 = .normal → ∀ e', Le e w e' w' → Inv e' r1.2.2 w' → TR e' w' r1.2.1 a'.tmps → a'.tmps.size = n → a'.defers = D → next a' w') (h2 : r1.1 ≠ .normal → Q ex a' w') : Exit.then next Q ex a' w' := by
  obtain ⟨e', g1, g2, g3, g4, g5, g6⟩ := hp
  obtain ⟨ax, T, H⟩ := r1
  cases ax <;> cases ex <;> simp only [ExIs] at g6 <;> (try exact g6.elim)
  · exact h1 rfl e' g1 g2 g3 g4 g5
  · exact h2 (fun hh => by cases hh)
  · exact h2 (fun hh => by cases hh)
  · exact h2 (fun hh => by cases hh)

theorem evCode_ok (hm : P.follows .mixedOrders = true) (hx : ExtOk cfg P) {n : Nat} (hg : Good P ih n) : Good P (evCode cfg P ih) (n + 1) := by
  obtain ⟨hih, hl⟩ := hg
  have loops : ∀ c T H r, evCode cfg P ih (.loop c) T H = some r → ∀ m, codeOk m (.loop c) = true → ∀ e w a, Inv e H w → TR e w T a.tmps → a.tmps.size = m → ∀ D, a.defers = D →
      ∀ Q : Exit → Act → World → Prop, (∀ ex a' w', Post e w m D r ex a' w' → Q ex a' w') → Code.rounds P c Q (n + 1) a w := fun c T H r h m hc e w a hI hT hn D hd Q hQ => by
    obtain ⟨r1, hr1, hor⟩ := evSeq_some h
    rw [rounds_succ]
    refine wp_mono (hih c T H r1 hr1 m hc D e w a hI hT hn hd) fun ex a' w' hp => then_ok hp (fun hnm e' g1 g2 g3 g4 g5 => ?_) (fun hnn => ?_)
    · rcases hor with ⟨_, hr⟩ | ⟨hne, _⟩
      · exact hl c _ _ r hr m hc e' w' a' g2 g3 g4 D g5 Q fun ex a2 w2 hp2 => hQ ex a2 w2 (hp2.after g1)
      · exact absurd hnm hne
    · rcases hor with ⟨hn', _⟩ | ⟨_, rfl⟩
      · exact absurd hn' hnn
      · exact hQ ex a' w' hp
  refine ⟨fun c T H r h m hc D e w a hI hT hn hd => ?_, loops⟩
  cases c with
  | skip => cases h; exact wp_skip ⟨e, Le.refl e w, hI, hT, hn, hd, trivial⟩
  | region id ops draw => exact evRegion_ok hm hih hx hc h hI hT hn hd
  | seq x y =>
    obtain ⟨hc1, hc2⟩ := codeOk_seq hc
    obtain ⟨r1, hr1, hor⟩ := evSeq_some h
    refine wp_seq (wp_mono (hih x T H r1 hr1 m hc1 D e w a hI hT hn hd) fun ex a' w' hp => then_ok hp (fun hnm e' g1 g2 g3 g4 g5 => ?_) (fun hnn => ?_))
    · rcases hor with ⟨_, hr⟩ | ⟨hne, _⟩
      · exact wp_mono (hih y _ _ r hr m hc2 D e' w' a' g2 g3 g4 g5) fun ex a2 w2 hp2 => hp2.after g1
      · exact absurd hnm hne
    · rcases hor with ⟨hn', _⟩ | ⟨_, rfl⟩
      · exact absurd hn' hnn
      · exact hp
  | cond c x y =>
    obtain ⟨hc1, hc2⟩ := codeOk_cond hc
    simp only [evCode] at h
    have hv := operand_ok hT c
    cases ho : operand c T <;> rw [ho] at h hv <;> simp only at h <;> try (cases h; done)
    rename_i t
    simp only [VR] at hv
    cases t with
    | true => exact wp_cond_true hv (hih x T H r h m hc1 D e w a hI hT hn hd)
    | false => exact wp_cond_false hv (hih y T H r h m hc2 D e w a hI hT hn hd)
  | block id c =>
    simp only [evCode] at h
    cases hr : ih c T H with
    | none => rw [hr] at h; cases h
    | some r1 =>
      rw [hr] at h
      refine wp_block (wp_mono (hih c T H r1 hr m hc D e w a hI hT hn hd) fun ex a' w' hp => ?_)
      obtain ⟨e', g1, g2, g3, g4, g5, g6⟩ := hp
      obtain ⟨ax, T1, H1⟩ := r1
      cases ax <;> cases ex <;> simp only [ExIs] at g6 <;> (try exact g6.elim)
      · cases h; exact ⟨e', g1, g2, g3, g4, g5, trivial⟩
      · rename_i i j
        subst g6
        simp only at h
        cases hb : Nat.beq i id with
        | true =>
          rw [hb] at h
          cases h
          show if i = id then _ else _
          rw [if_pos (Nat.eq_of_beq_eq_true hb)]
          exact ⟨e', g1, g2, g3, g4, g5, trivial⟩
        | false =>
          rw [hb] at h
          cases h
          show if i = id then _ else _
          rw [if_neg (fun hh => by subst hh; have : Nat.beq i i = true := Nat.beq_refl i; rw [this] at hb; cases hb)]
          exact ⟨e', g1, g2, g3, g4, g5, rfl⟩
      · cases h; exact ⟨e', g1, g2, g3, g4, g5, trivial⟩
      · cases h; exact ⟨e', g1, g2, g3, g4, g5, g6⟩
  | loop c => exact wp_loop_rounds (n + 1) (loops c T H r h m hc e w a hI hT hn D hd _ fun _ _ _ h => h)
  | scope c =>
    refine wp_scope_straight (wp_mono (hih c T H r h m hc D e w a hI hT hn hd) fun ex a' w' hp => ?_)
    obtain ⟨e', g1, g2, g3, g4, g5, g6⟩ := hp
    cases ex with
    | goto l => obtain ⟨ax, T1, H1⟩ := r; cases ax <;> exact g6.elim
    | _ => exact ⟨e', g1, g2, g3, g4, g5, g6⟩
  | label l => cases h; exact wp_label ⟨e, Le.refl e w, hI, hT, hn, hd, trivial⟩
  | exit id => cases h; exact wp_exit ⟨e, Le.refl e w, hI, hT, hn, hd, rfl⟩
  | ret => cases h; exact wp_ret ⟨e, Le.refl e w, hI, hT, hn, hd, trivial⟩
  | _ => cases h
theorem ev_ok (hm : P.follows .mixedOrders = true) (hx : ExtOk cfg P) : ∀ n, Good P (ev cfg P n) n
  | 0 => ⟨fun c T H r h => (by cases h), fun c T H r h => (by cases h)⟩
  | n + 1 => evCode_ok hm hx (ev_ok hm hx n)

/-- **What the abstract machine answers of a call, the model's call does.** -/
theorem evCall_ok (hm : P.follows .mixedOrders = true) (hx : ExtOk cfg P) {n f : Nat} {args : List AV} {vs : Array Value} {out : AOut} (hI : Inv e H w) (hv : VRs e w args vs.toList) (h : evCall cfg P n f args H = some (out, H')) :
    Fires P e w H' out ((callFunc f vs).run P w) := callF_ok (ev_ok hm hx n).1 hx hI hv h
end Go.Proofs.Ytcjfjfhggfcnfaa.Am
