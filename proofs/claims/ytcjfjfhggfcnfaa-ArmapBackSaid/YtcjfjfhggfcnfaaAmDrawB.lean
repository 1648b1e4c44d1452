/- Of drawn regions: what a run in the text's order tells of every other. -/
import Derived.Test.YtcjfjfhggfcnfaaAmDrawA
set_option linter.unusedSimpArgs false
set_option linter.unusedVariables false
namespace Go.Proofs.Ytcjfjfhggfcnfaa.Am
open Go
variable {P : Program} {w : World} {e : Env} {H H' : AHeap} {cfg : Cfg} {ih : Code → ATmps → AHeap → CodeR}

def Holds (cfg : Cfg) (P : Program) (ih : Code → ATmps → AHeap → CodeR) (op : Op) (T : ATmps) (H : AHeap) (v : AV) : Prop := ∃ H'', anyOp cfg true P ih op T H = some (.ret v, H'')
theorem sameAt_ok {op : Op} {T : ATmps} {v : AV} (h : sameAt cfg P ih op T v H = true) : Holds cfg P ih op T H v := by
  unfold sameAt at h
  split at h
  · rename_i w' H'' hh
    rw [avEq_iff _ _ _ h]; exact ⟨_, hh⟩
  · cases h

/-! Counting. -/
def nst (y : DOp) : Bool := notB y.still
theorem countIf_eq (p : DOp → Bool) : ∀ l : List DOp, countIf p l = l.countP p
  | [] => rfl
  | a :: l => by
    have h : countIf p (a :: l) = (Bool.casesOn (p a) (countIf p l) (Nat.succ (countIf p l)) : Nat) := rfl
    rw [h, countIf_eq p l, List.countP_cons]
    cases p a <;> simp
def lvp (p : Nat → Bool) : Nat → Nat
  | 0 => 0
  | k + 1 => if p k then lvp p k + 1 else lvp p k
theorem lvp_mono {p q : Nat → Bool} : ∀ N, (∀ k, k < N → p k = true → q k = true) → lvp p N ≤ lvp q N
  | 0, _ => Nat.le_refl _
  | N + 1, h => by
    have ih := lvp_mono (p := p) (q := q) N fun k hk => h k (by omega)
    simp only [lvp]
    by_cases hp : p N = true
    · rw [if_pos hp, if_pos (h N (by omega) hp)]; omega
    · rw [if_neg hp]; split <;> omega
theorem lvp_congr {p q : Nat → Bool} : ∀ N, (∀ k, k < N → p k = q k) → lvp p N = lvp q N
  | 0, _ => rfl
  | N + 1, h => by simp only [lvp]; rw [h N (by omega), lvp_congr N fun k hk => h k (by omega)]
theorem lvp_one {p q : Nat → Bool} {i : Nat} (hi : p i = false) (hq : q i = true) (ho : ∀ k, k ≠ i → q k = p k) : ∀ N, lvp q N = if i < N then lvp p N + 1 else lvp p N
  | 0 => rfl
  | N + 1 => by
    simp only [lvp]
    rw [lvp_one hi hq ho N]
    by_cases hN : N = i
    · subst hN
      rw [hi, hq]; simp
    · rw [ho N hN]
      by_cases h1 : i < N
      · have h2 : i < N + 1 := by omega
        simp only [h1, h2, if_true]; split <;> omega
      · have h2 : ¬ i < N + 1 := by omega
        simp only [h1, h2, if_false]
theorem lvp_cut {p q : Nat → Bool} {i : Nat} (h1 : ∀ k, k < i → p k = q k) (h2 : ∀ k, i ≤ k → p k = false) : ∀ N, i ≤ N → lvp p N = lvp q i
  | 0, h => by obtain rfl : i = 0 := by omega
               rfl
  | N + 1, h => by
    by_cases hN : i = N + 1
    · subst hN; exact lvp_congr _ h1
    · simp only [lvp]
      rw [h2 N (by omega), lvp_cut h1 h2 N (by omega)]; simp
theorem countP_take (p : DOp → Bool) (l : List DOp) : ∀ n, n ≤ l.length → (l.take n).countP p = lvp (fun k => match l[k]? with
    | some x => p x
    | none => false) n
  | 0, _ => rfl
  | n + 1, h => by
    rw [List.take_add_one, List.countP_append, countP_take p l n (by omega)]
    simp only [lvp]
    have hx : l[n]? = some l[n] := List.getElem?_eq_getElem (by omega)
    generalize l[n] = x at hx
    simp only [hx, Option.toList_some, List.countP_singleton]
    split <;> rfl

/-! A run told. -/
structure Told (cfg : Cfg) (P : Program) (ih : Code → ATmps → AHeap → CodeR) (ops : List Oper) (ds l : List DOp) (h : Nat) (T : ATmps) (r : AExit × ATmps × AHeap) (Hs : Nat → AHeap) (Ts : Nat → ATmps) (vs : Nat → AV) (gs : Nat → Bool) : Prop where
  norm : r.1 = .normal
  t0 : Ts 0 = T
  tn : Ts l.length = r.2.1
  hn : Hs (h + l.countP nst) = r.2.2
  guard : ∀ (j : Nat) (x : DOp), l[j]? = some x → guardA ops (Ts j) x.o.guard = some (gs j)
  no : ∀ (j : Nat) (x : DOp), l[j]? = some x → gs j = false → vs j = .tup []
  put : ∀ (j : Nat) (x : DOp), l[j]? = some x → Ts (j + 1) = putA (Ts j) x.o.dst (vs j)
  act : ∀ (j : Nat) (x : DOp), l[j]? = some x → x.still = false → gs j = true → anyOp cfg false P ih x.o.op (Ts j) (Hs (h + (l.take j).countP nst)) = some (.ret (vs j), Hs (h + (l.take j).countP nst + 1))
  rest : ∀ (j : Nat) (x : DOp), l[j]? = some x → x.still = false → gs j = false → Hs (h + (l.take j).countP nst + 1) = Hs (h + (l.take j).countP nst)
  still : ∀ (j : Nat) (x : DOp), l[j]? = some x → x.still = true → gs j = true → ∀ q, loLevel ds x ≤ q → q ≤ hiLevel ds x → q ≤ h + l.countP nst → Holds cfg P ih x.o.op (Ts j) (Hs q) (vs j)

def unshift {α : Type} (a : α) (f : Nat → α) : Nat → α
  | 0 => a
  | j + 1 => f j
theorem nst_still {x : DOp} (h : x.still = true) : nst x = false := by unfold nst; rw [h]; rfl
theorem nst_act {x : DOp} (h : x.still = false) : nst x = true := by unfold nst; rw [h]; rfl

theorem Told.cons_still {ops : List Oper} {ds l : List DOp} {x : DOp} {h : Nat} {T : ATmps} {r : AExit × ATmps × AHeap} {Hs : Nat → AHeap} {Ts : Nat → ATmps} {vs : Nat → AV} {gs : Nat → Bool} {v : AV} {g : Bool}
    (k : Told cfg P ih ops ds l h (putA T x.o.dst v) r Hs Ts vs gs) (hs : x.still = true) (hg : guardA ops T x.o.guard = some g) (hno : g = false → v = .tup [])
    (hh : g = true → ∀ q, loLevel ds x ≤ q → q ≤ hiLevel ds x → q ≤ h + l.countP nst → Holds cfg P ih x.o.op T (Hs q) v) :
    Told cfg P ih ops ds (x :: l) h T r Hs (unshift T Ts) (unshift v vs) (unshift g gs) := by
  have hc : (x :: l).countP nst = l.countP nst := by rw [List.countP_cons, nst_still hs]; simp
  have ht : ∀ j, ((x :: l).take (j + 1)).countP nst = (l.take j).countP nst := fun j => by rw [List.take_succ_cons, List.countP_cons, nst_still hs]; simp
  exact {
    norm := k.norm
    t0 := rfl
    tn := k.tn
    hn := by rw [hc]; exact k.hn
    guard := fun j y hy => by
      cases j with
      | zero => simp at hy; subst hy; exact hg
      | succ j => exact k.guard j y (by simpa using hy)
    no := fun j y hy hgf => by
      cases j with
      | zero => exact hno hgf
      | succ j => exact k.no j y (by simpa using hy) hgf
    put := fun j y hy => by
      cases j with
      | zero => simp at hy; subst hy; exact k.t0
      | succ j => exact k.put j y (by simpa using hy)
    act := fun j y hy hst hgt => by
      cases j with
      | zero => simp at hy; subst hy; rw [hs] at hst; cases hst
      | succ j => rw [ht]; exact k.act j y (by simpa using hy) hst hgt
    rest := fun j y hy hst hgt => by
      cases j with
      | zero => simp at hy; subst hy; rw [hs] at hst; cases hst
      | succ j => rw [ht]; exact k.rest j y (by simpa using hy) hst hgt
    still := fun j y hy hst hgt q h1 h2 h3 => by
      rw [hc] at h3
      cases j with
      | zero => simp at hy; subst hy; exact hh hgt q h1 h2 h3
      | succ j => exact k.still j y (by simpa using hy) hst hgt q h1 h2 h3 }
theorem Told.cons_act {ops : List Oper} {ds l : List DOp} {x : DOp} {h : Nat} {T : ATmps} {r : AExit × ATmps × AHeap} {Hs : Nat → AHeap} {Ts : Nat → ATmps} {vs : Nat → AV} {gs : Nat → Bool} {v : AV} {g : Bool}
    (k : Told cfg P ih ops ds l (h + 1) (putA T x.o.dst v) r Hs Ts vs gs) (hs : x.still = false) (hg : guardA ops T x.o.guard = some g) (hno : g = false → v = .tup [])
    (hh : g = true → anyOp cfg false P ih x.o.op T (Hs h) = some (.ret v, Hs (h + 1))) (hf : g = false → Hs (h + 1) = Hs h) :
    Told cfg P ih ops ds (x :: l) h T r Hs (unshift T Ts) (unshift v vs) (unshift g gs) := by
  have hc : h + (x :: l).countP nst = h + 1 + l.countP nst := by rw [List.countP_cons, nst_act hs]; simp; omega
  have ht : ∀ j, h + ((x :: l).take (j + 1)).countP nst = h + 1 + (l.take j).countP nst := fun j => by rw [List.take_succ_cons, List.countP_cons, nst_act hs]; simp; omega
  exact {
    norm := k.norm
    t0 := rfl
    tn := k.tn
    hn := by rw [hc]; exact k.hn
    guard := fun j y hy => by
      cases j with
      | zero => simp at hy; subst hy; exact hg
      | succ j => exact k.guard j y (by simpa using hy)
    no := fun j y hy hgf => by
      cases j with
      | zero => exact hno hgf
      | succ j => exact k.no j y (by simpa using hy) hgf
    put := fun j y hy => by
      cases j with
      | zero => simp at hy; subst hy; exact k.t0
      | succ j => exact k.put j y (by simpa using hy)
    act := fun j y hy hst hgt => by
      cases j with
      | zero => simp at hy; subst hy; exact hh hgt
      | succ j => rw [ht]; exact k.act j y (by simpa using hy) hst hgt
    rest := fun j y hy hst hgt => by
      cases j with
      | zero => exact hf hgt
      | succ j => rw [ht]; exact k.rest j y (by simpa using hy) hst hgt
    still := fun j y hy hst hgt q h1 h2 h3 => by
      rw [hc] at h3
      cases j with
      | zero => simp at hy; subst hy; rw [hs] at hst; cases hst
      | succ j => exact k.still j y (by simpa using hy) hst hgt q h1 h2 h3 }

theorem evDraw_cons (ops : List Oper) (ds : List DOp) (x : DOp) (l : List DOp) (past : List AHeap) (again : List Again) (T : ATmps) (H : AHeap) :
    evDraw cfg P ih ops ds (x :: l) past again T H = match guardA ops T x.o.guard with
    | none => none
    | some false => Bool.casesOn x.still (evDraw cfg P ih ops ds l (H :: past) again (putA T x.o.dst (.tup [])) H) (evDraw cfg P ih ops ds l past again (putA T x.o.dst (.tup [])) H)
    | some true => match anyOp cfg x.still P ih x.o.op T H with
      | some (.ret v, H') => match x.still with
        | true => match lall (sameAt cfg P ih x.o.op T v) (ltake (Nat.sub (llen past) (loLevel ds x)) past) with
          | true => match Nat.ble (hiLevel ds x) (llen past) with
            | true => evDraw cfg P ih ops ds l past again (putA T x.o.dst v) H
            | false => evDraw cfg P ih ops ds l past ({ op := x.o.op, T := T, v := v, hi := hiLevel ds x } :: again) (putA T x.o.dst v) H
          | false => none
        | false => match lall (fun (a : Again) => match Nat.ble a.hi (llen past) with
            | true => true
            | false => sameAt cfg P ih a.op a.T a.v H') again with
          | true => evDraw cfg P ih ops ds l (H :: past) again (putA T x.o.dst v) H'
          | false => none
      | _ => none := rfl
theorem told {ops : List Oper} {ds : List DOp} : ∀ (l : List DOp), (∀ x ∈ l, x.still = stillOp cfg x.o.dst x.o.op) → ∀ (past : List AHeap) (again : List Again) (T : ATmps) (H : AHeap) (r : AExit × ATmps × AHeap),
    evDraw cfg P ih ops ds l past again T H = some r → (∀ a ∈ again, past.length ≤ a.hi → Holds cfg P ih a.op a.T H a.v) →
    ∃ Hs Ts vs gs, (∀ q, q < past.length → past.reverse[q]? = some (Hs q)) ∧ Hs past.length = H ∧ Told cfg P ih ops ds l past.length T r Hs Ts vs gs ∧
      ∀ a ∈ again, ∀ q, past.length ≤ q → q ≤ past.length + l.countP nst → q ≤ a.hi → Holds cfg P ih a.op a.T (Hs q) a.v
  | [], hst, past, again, T, H, r, h, ha => by
    cases h
    have hl : (past.reverse[past.length]?).getD H = H := by rw [List.getElem?_eq_none (by simp)]; rfl
    refine ⟨fun q => (past.reverse[q]?).getD H, fun _ => T, fun _ => .tup [], fun _ => false, fun q hq => ?_, hl, ?_, fun a hm q h1 h2 h3 => ?_⟩
    · show past.reverse[q]? = some ((past.reverse[q]?).getD H)
      rw [List.getElem?_eq_getElem (by simpa using hq)]; rfl
    · exact {
        norm := rfl
        t0 := rfl
        tn := rfl
        hn := hl
        guard := fun j x hx => by simp at hx
        no := fun j x hx => by simp at hx
        put := fun j x hx => by simp at hx
        act := fun j x hx => by simp at hx
        rest := fun j x hx => by simp at hx
        still := fun j x hx => by simp at hx }
    · simp at h2
      obtain rfl : q = past.length := by omega
      show Holds cfg P ih a.op a.T ((past.reverse[past.length]?).getD H) a.v
      rw [hl]; exact ha a hm h3
  | x :: l, hst, past, again, T, H, r, h, ha => by
    have hstl : ∀ y ∈ l, y.still = stillOp cfg y.o.dst y.o.op := fun y hy => hst y (List.mem_cons_of_mem _ hy)
    have hsx := hst x (List.mem_cons_self ..)
    rw [evDraw_cons] at h
    cases hg : guardA ops T x.o.guard with
    | none => rw [hg] at h; cases h
    | some g =>
      rw [hg] at h
      cases g with
      | false =>
        simp only at h
        cases hs : x.still with
        | true =>
          rw [hs] at h
          obtain ⟨Hs, Ts, vs, gs, k1, k2, k3, k4⟩ := told l hstl past again _ H r h ha
          refine ⟨Hs, _, _, _, k1, k2, k3.cons_still hs hg (fun _ => rfl) (fun hh => by cases hh), fun a hm q h1 h2 h3 => k4 a hm q h1 ?_ h3⟩
          rwa [List.countP_cons, nst_still hs, if_neg (by simp)] at h2
        | false =>
          rw [hs] at h
          obtain ⟨Hs, Ts, vs, gs, k1, k2, k3, k4⟩ := told l hstl (H :: past) again _ H r h (fun a hm hh => ha a hm (by simp at hh; omega))
          simp only [List.length_cons] at k1 k2 k3 k4
          have hH : Hs past.length = H := by
            have := k1 past.length (by omega)
            rw [List.reverse_cons, List.getElem?_append_right (by simp)] at this
            simpa using this.symm
          refine ⟨Hs, _, _, _, fun q hq => ?_, hH, k3.cons_act hs hg (fun _ => rfl) (fun hh => by cases hh) (fun _ => by rw [k2, hH]), fun a hm q h1 h2 h3 => ?_⟩
          · have := k1 q (by omega)
            rwa [List.reverse_cons, List.getElem?_append_left (by simpa using hq)] at this
          · rw [List.countP_cons, nst_act hs, if_pos rfl] at h2
            by_cases hq : q = past.length
            · subst hq; rw [hH]; exact ha a hm h3
            · exact k4 a hm q (by omega) (by omega) h3
      | true =>
        simp only at h
        cases ho : anyOp cfg x.still P ih x.o.op T H with
        | none => rw [ho] at h; cases h
        | some q =>
          obtain ⟨out, H'⟩ := q
          rw [ho] at h
          cases out with
          | pan v => cases h
          | ret v =>
            simp only at h
            cases hs : x.still with
            | true =>
              rw [hs] at h
              simp only at h
              rw [hs] at ho
              obtain rfl : H' = H := still_same (by rw [← hsx, hs]) ho
              cases hl : lall (sameAt cfg P ih x.o.op T v) (ltake (Nat.sub (llen past) (loLevel ds x)) past) with
              | false => rw [hl] at h; cases h
              | true =>
                rw [hl] at h
                simp only at h
                have hpast : ∀ (Hs : Nat → AHeap), (∀ q, q < past.length → past.reverse[q]? = some (Hs q)) → ∀ q, loLevel ds x ≤ q → q < past.length → Holds cfg P ih x.o.op T (Hs q) v := fun Hs k1 q h1 h2 => by
                  have hq := k1 q h2
                  rw [List.getElem?_reverse h2] at hq
                  refine sameAt_ok (lall_get hl (past.length - 1 - q) (Hs q) ?_)
                  rw [llen_eq, ltake_eq, List.getElem?_take, if_pos (by show _ < past.length - _; omega)]; exact hq
                cases hb : Nat.ble (hiLevel ds x) (llen past) with
                | true =>
                  rw [hb] at h
                  simp only at h
                  rw [llen_eq] at hb
                  have hle := Nat.le_of_ble_eq_true hb
                  obtain ⟨Hs, Ts, vs, gs, k1, k2, k3, k4⟩ := told l hstl past again _ H' r h ha
                  refine ⟨Hs, _, _, _, k1, k2, k3.cons_still hs hg (fun hh => by cases hh) (fun _ q h1 h2 h3 => ?_), fun a hm q h1 h2 h3 => k4 a hm q h1 ?_ h3⟩
                  · by_cases hq : q < past.length
                    · exact hpast Hs k1 q h1 hq
                    · obtain rfl : q = past.length := by omega
                      rw [k2]; exact ⟨_, ho⟩
                  · rwa [List.countP_cons, nst_still hs, if_neg (by simp)] at h2
                | false =>
                  rw [hb] at h
                  simp only at h
                  obtain ⟨Hs, Ts, vs, gs, k1, k2, k3, k4⟩ := told l hstl past ({ op := x.o.op, T := T, v := v, hi := hiLevel ds x } :: again) _ H' r h (fun a hm hh => by
                    cases hm with
                    | head => exact ⟨_, ho⟩
                    | tail _ hm => exact ha a hm hh)
                  refine ⟨Hs, _, _, _, k1, k2, k3.cons_still hs hg (fun hh => by cases hh) (fun _ q h1 h2 h3 => ?_), fun a hm q h1 h2 h3 => k4 a (List.mem_cons_of_mem _ hm) q h1 ?_ h3⟩
                  · by_cases hq : q < past.length
                    · exact hpast Hs k1 q h1 hq
                    · exact k4 _ (List.mem_cons_self ..) q (by omega) h3 h2
                  · rwa [List.countP_cons, nst_still hs, if_neg (by simp)] at h2
            | false =>
              rw [hs] at h ho
              simp only at h
              cases hl : lall (fun (a : Again) => match Nat.ble a.hi (llen past) with
                | true => true
                | false => sameAt cfg P ih a.op a.T a.v H') again with
              | false => rw [hl] at h; cases h
              | true =>
                rw [hl] at h
                simp only at h
                obtain ⟨Hs, Ts, vs, gs, k1, k2, k3, k4⟩ := told l hstl (H :: past) again _ H' r h (fun a hm hh => by
                  obtain ⟨i, hi⟩ := List.getElem?_of_mem hm
                  have := lall_get hl i a hi
                  simp only [llen_eq] at this
                  simp only [List.length_cons] at hh
                  have hb : Nat.ble a.hi past.length = false := by
                    cases hb : Nat.ble a.hi past.length with
                    | false => rfl
                    | true => have := Nat.le_of_ble_eq_true hb; omega
                  rw [hb] at this
                  exact sameAt_ok this)
                simp only [List.length_cons] at k1 k2 k3 k4
                have hH : Hs past.length = H := by
                  have := k1 past.length (by omega)
                  rw [List.reverse_cons, List.getElem?_append_right (by simp)] at this
                  simpa using this.symm
                refine ⟨Hs, _, _, _, fun q hq => ?_, hH, k3.cons_act hs hg (fun hh => by cases hh) (fun _ => by rw [k2, hH]; exact ho) (fun hh => by cases hh), fun a hm q h1 h2 h3 => ?_⟩
                · have := k1 q (by omega)
                  rwa [List.reverse_cons, List.getElem?_append_left (by simpa using hq)] at this
                · rw [List.countP_cons, nst_act hs, if_pos rfl] at h2
                  by_cases hq : q = past.length
                  · subst hq; rw [hH]; exact ha a hm h3
                  · exact k4 a hm q (by omega) (by omega) h3
end Go.Proofs.Ytcjfjfhggfcnfaa.Am
