/- More fuel, the same answer. -/
import Derived.Test.YtcjfjfhggfcnfaaAmWpC
set_option linter.unusedSimpArgs false
set_option linter.unusedVariables false
namespace Go.Proofs.Ytcjfjfhggfcnfaa.Am
open Go
variable {cfg : Cfg} {P : Program} {ih ih' : Code → ATmps → AHeap → CodeR}

def Up (ih ih' : Code → ATmps → AHeap → CodeR) : Prop := ∀ c T H r, ih c T H = some r → ih' c T H = some r

theorem enterF_up (h : Up ih ih') {f : Nat} {args : List AV} {H : AHeap} {r : AOut × AHeap} (k : enterF P ih f args H = some r) : enterF P ih' f args H = some r := by
  unfold enterF at k ⊢
  cases hf : P.funcs[f]? with
  | none => rw [hf] at k; cases k
  | some fn =>
    simp only [hf] at k ⊢
    split at k
    · rename_i c hb hn
      (try simp only [hb, hn])
      split at k
      · rename_i h1 h2
        (try simp only [h1, h2])
        cases hr : ih c (enterA args) H with
        | none => rw [hr] at k; cases k
        | some q => rw [hr] at k; rw [h _ _ _ _ hr]; exact k
      · cases k
    · cases k
theorem callF_up (h : Up ih ih') {f : Nat} {args : List AV} {H : AHeap} {r : AOut × AHeap} (k : callF cfg P ih f args H = some r) : callF cfg P ih' f args H = some r := by
  unfold callF at k ⊢
  cases hx : cfg.ext f with
  | some g => simp only [hx] at k ⊢; exact k
  | none =>
    simp only [hx] at k ⊢
    cases hm : cfg.mode f with
    | shared => simp only [hm] at k ⊢; exact enterF_up h k
    | plain =>
      simp only [hm] at k ⊢
      split at k
      · cases k
      · rename_i a ha
        (try simp only [ha])
        cases hr : enterF P ih f a { tr := .leaf, next := 0 } with
        | none => rw [hr] at k; cases k
        | some q => rw [hr] at k; rw [enterF_up h hr]; exact k
    | apart =>
      simp only [hm] at k ⊢
      split at k
      · rename_i ha
        (try simp only [ha]); exact enterF_up h k
      · rename_i ha
        (try simp only [ha])
        cases hr : enterF P ih f args { tr := .leaf, next := 0 } with
        | none => rw [hr] at k; cases k
        | some q => rw [hr] at k; rw [enterF_up h hr]; exact k
theorem callA_up (h : Up ih ih') {c : Call} {T : ATmps} {H : AHeap} {r : AOut × AHeap} (k : callA cfg P ih c T H = some r) : callA cfg P ih' c T H = some r := by
  unfold callA at k ⊢
  cases hc : c.callee with
  | builtin b =>
    simp only [hc] at k ⊢
    cases b <;> exact k
  | value f =>
    simp only [hc] at k ⊢
    split at k
    · rename_i he
      (try simp only [he]); exact callF_up h k
    · cases k
  | invoke _ _ => simp only [hc] at k; cases k
theorem anyOp_up (h : Up ih ih') {imm : Bool} {o : Op} {T : ATmps} {H : AHeap} {r : AOut × AHeap} (k : anyOp cfg imm P ih o T H = some r) : anyOp cfg imm P ih' o T H = some r := by
  cases o
  case call c => exact callA_up h k
  all_goals exact k
theorem evOps_up (h : Up ih ih') {imm : Bool} {ops : List Oper} : ∀ {l : List Oper} {T : ATmps} {H : AHeap} {r : AExit × ATmps × AHeap}, evOps cfg imm P ih ops l T H = some r → evOps cfg imm P ih' ops l T H = some r
  | [], _, _, _, k => k
  | o :: l, T, H, r, k => by
    rw [evOps_cons] at k ⊢
    cases hg : guardA ops T o.guard with
    | none => rw [hg] at k; cases k
    | some g =>
      simp only [hg] at k ⊢
      cases g with
      | false => exact evOps_up h k
      | true =>
        simp only at k ⊢
        cases hr : anyOp cfg imm P ih o.op T H with
        | none => rw [hr] at k; cases k
        | some q =>
          rw [hr] at k; rw [anyOp_up h hr]
          obtain ⟨out, H'⟩ := q
          cases out with
          | ret v => exact evOps_up h k
          | pan v => exact k
theorem sameAt_up (h : Up ih ih') {op : Op} {T : ATmps} {v : AV} {H : AHeap} (k : sameAt cfg P ih op T v H = true) : sameAt cfg P ih' op T v H = true := by
  unfold sameAt at k ⊢
  cases hr : anyOp cfg true P ih op T H with
  | none => rw [hr] at k; cases k
  | some q => rw [hr] at k; rw [anyOp_up h hr]; exact k
theorem evDraw_up (h : Up ih ih') {ops : List Oper} {ds : List DOp} : ∀ {l : List DOp} {past : List AHeap} {again : List Again} {T : ATmps} {H : AHeap} {r : AExit × ATmps × AHeap}, evDraw cfg P ih ops ds l past again T H = some r → evDraw cfg P ih' ops ds l past again T H = some r
  | [], _, _, _, _, _, k => k
  | x :: l, past, again, T, H, r, k => by
    rw [evDraw_cons] at k ⊢
    cases hg : guardA ops T x.o.guard with
    | none => rw [hg] at k; cases k
    | some g =>
      simp only [hg] at k ⊢
      cases g with
      | false => cases hs : x.still <;> simp only [hs] at k ⊢ <;> exact evDraw_up h k
      | true =>
        simp only at k ⊢
        cases hr : anyOp cfg x.still P ih x.o.op T H with
        | none => rw [hr] at k; cases k
        | some q =>
          rw [hr] at k; rw [anyOp_up h hr]
          obtain ⟨out, H'⟩ := q
          cases out with
          | pan v => cases k
          | ret v =>
            simp only at k ⊢
            cases hs : x.still with
            | true =>
              simp only [hs] at k ⊢
              split at k
              · rename_i h1
                have : lall (sameAt cfg P ih' x.o.op T v) (ltake (Nat.sub (llen past) (loLevel ds x)) past) = true := by
                  rw [lall_eq, List.all_eq_true] at h1 ⊢
                  exact fun y hy => sameAt_up h (h1 y hy)
                (try simp only [this])
                split at k
                · rename_i h2; (try simp only [h2]); exact evDraw_up h k
                · rename_i h2; (try simp only [h2]); exact evDraw_up h k
              · cases k
            | false =>
              simp only [hs] at k ⊢
              split at k
              · rename_i h1
                split
                · exact evDraw_up h k
                · rename_i h2
                  refine absurd h2 ?_
                  rw [lall_eq, List.all_eq_true] at h1
                  rw [lall_eq, Bool.not_eq_false, List.all_eq_true]
                  intro y hy
                  have h3 := h1 y hy
                  cases hb : Nat.ble y.hi (llen past) with
                  | true => rfl
                  | false => rw [hb] at h3; exact sameAt_up h h3
              · cases k
theorem evRegion_up (h : Up ih ih') {ops : List Oper} {draw : Bool} {T : ATmps} {H : AHeap} {r : AExit × ATmps × AHeap} (k : evRegion cfg P ih ops draw T H = some r) : evRegion cfg P ih' ops draw T H = some r := by
  cases draw with
  | false => exact evOps_up h k
  | true =>
    simp only [evRegion] at k ⊢
    cases hd : drawOk ops (dops cfg ops) with
    | false => rw [hd] at k; cases k
    | true => rw [hd] at k; exact evDraw_up h k
theorem evSeq_up (h : Up ih ih') {b : Code} {q q' : CodeR} {r : AExit × ATmps × AHeap} (hq : ∀ r, q = some r → q' = some r) (k : evSeq ih b q = some r) : evSeq ih' b q' = some r := by
  cases q with
  | none => cases k
  | some s =>
    rw [hq s rfl]
    obtain ⟨ex, T, H⟩ := s
    cases ex with
    | normal => exact h _ _ _ _ k
    | _ => exact k
theorem evCode_up (h : Up ih ih') : Up (evCode cfg P ih) (evCode cfg P ih') := fun c T H r k => by
  cases c with
  | skip => exact k
  | region id ops draw => exact evRegion_up h k
  | seq a b => exact evSeq_up h (fun r hr => h _ _ _ _ hr) k
  | cond c a b =>
    simp only [evCode] at k ⊢
    cases ho : operand c T <;> rw [ho] at k <;> simp only at k ⊢ <;> try (cases k; done)
    rename_i t
    cases t <;> exact h _ _ _ _ k
  | block id c =>
    simp only [evCode] at k ⊢
    cases hr : ih c T H with
    | none => rw [hr] at k; cases k
    | some q => rw [hr] at k; rw [h _ _ _ _ hr]; exact k
  | loop c => exact evSeq_up h (fun r hr => h _ _ _ _ hr) k
  | scope c => exact h _ _ _ _ k
  | label l => exact k
  | exit id => exact k
  | ret => exact k
  | _ => cases k
theorem ev_up1 : ∀ n, Up (ev cfg P n) (ev cfg P (n + 1))
  | 0 => fun _ _ _ _ k => by cases k
  | n + 1 => evCode_up (ev_up1 n)
theorem ev_up (n k : Nat) : Up (ev cfg P n) (ev cfg P (n + k)) := by
  induction k with
  | zero => exact fun _ _ _ _ h => h
  | succ k ih => exact fun c T H r h => ev_up1 _ c T H r (ih c T H r h)
/-- an answer of some fuel is the call's -/
theorem calls_of {n f : Nat} {args : List AV} {H H' : AHeap} {out : AOut} {Q : AOut → AHeap → Prop} (h : evCall cfg P n f args H = some (out, H')) (q : Q out H') : CallsTo cfg P f args H Q := by
  refine ⟨n, out, H', fun m hm => ?_, q⟩
  obtain ⟨k, rfl⟩ : ∃ k, m = n + k := ⟨m - n, by omega⟩
  exact callF_up (ev_up n k) h
end Go.Proofs.Ytcjfjfhggfcnfaa.Am
