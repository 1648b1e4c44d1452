/- Of drawn regions: every order comes to what the text's order came to. -/
import Derived.Test.YtcjfjfhggfcnfaaAmDrawB
set_option linter.unusedSimpArgs false
set_option linter.unusedVariables false
namespace Go.Proofs.Ytcjfjfhggfcnfaa.Am
open Go
variable {P : Program} {w : World} {e : Env} {H H' : AHeap} {cfg : Cfg} {ih : Code → ATmps → AHeap → CodeR}

/-! Numbers alone: which operations are ahead of which. -/
structure Sched (N : Nat) (dst : Nat → Option Tmp) (anc : Nat → List Nat) (reads : Nat → List Tmp) (act : Nat → Bool) : Prop where
  back : ∀ i, i < N → ∀ j ∈ anc i, j < i
  apart : ∀ i, i < N → ∀ k, k < N → ∀ d, dst k = some d → k ≠ i → (d ∈ reads i ∨ dst i = some d) → i ∈ anc k ∨ k ∈ anc i
  asc : ∀ i, i < N → ∀ k, k < N → act i = true → act k = true → i < k → i ∈ anc k
def Down (N : Nat) (anc : Nat → List Nat) (S : Nat → Bool) : Prop := ∀ i, i < N → S i = true → ∀ j ∈ anc i, S j = true
structure Ready (N : Nat) (anc : Nat → List Nat) (S : Nat → Bool) (i : Nat) : Prop where
  lt : i < N
  un : S i = false
  up : ∀ j ∈ anc i, S j = true
noncomputable def tsT (dst : Nat → Option Tmp) (vs : Nat → AV) (S : Nat → Bool) (T : ATmps) : Nat → ATmps
  | 0 => T
  | k + 1 => if S k then putA (tsT dst vs S T k) (dst k) (vs k) else tsT dst vs S T k
def more (S : Nat → Bool) (i : Nat) : Nat → Bool := fun k => if k = i then true else S k
theorem putA_at (T : ATmps) (d : Option Nat) (v : AV) (t : Nat) : ATmps.at (putA T d v) t = if d = some t then v else ATmps.at T t := by
  cases d with
  | none => simp [putA]
  | some k =>
    show ATmps.at (Tr.set T v k) t = _
    rw [ATmps.at_set]
    by_cases h : t = k
    · subst h; simp
    · rw [if_neg h, if_neg (by simpa using fun hh => h hh.symm)]

section
variable {N : Nat} {dst : Nat → Option Tmp} {anc : Nat → List Nat} {reads : Nat → List Tmp} {act : Nat → Bool} {S : Nat → Bool} {i : Nat} (hs : Sched N dst anc reads act) (hd : Down N anc S) (hr : Ready N anc S i)
include hs hd hr

theorem writer_low {k d : Nat} (hk : k < i) (hdk : dst k = some d) (h : d ∈ reads i ∨ dst i = some d) : S k = true := by
  have _ := hd
  have := hr.lt
  rcases hs.apart i hr.lt k (by omega) d hdk (by omega) h with h1 | h1
  · have := hs.back k (by omega) i h1; omega
  · exact hr.up k h1
theorem writer_high {k d : Nat} (hk : i < k) (hkN : k < N) (hdk : dst k = some d) (h : d ∈ reads i ∨ dst i = some d) : S k = false := by
  rcases hs.apart i hr.lt k hkN d hdk (by omega) h with h1 | h1
  · cases hS : S k with
    | false => rfl
    | true => have := hd k hkN hS i h1; rw [hr.un] at this; cases this
  · have := hs.back i hr.lt k h1; omega
theorem read_low (vs : Nat → AV) (T : ATmps) {t : Nat} (ht : t ∈ reads i) : ∀ k, k ≤ i → ATmps.at (tsT dst vs S T k) t = ATmps.at (tsT dst vs (fun _ => true) T k) t
  | 0, _ => rfl
  | k + 1, hk => by
    have ih := read_low vs T ht k (by omega)
    simp only [tsT, if_true]
    rw [putA_at]
    by_cases hdk : dst k = some t
    · rw [writer_low hs hd hr (by omega) hdk (.inl ht), if_pos rfl, putA_at]; simp [hdk]
    · rw [if_neg hdk, ← ih]
      split
      · rw [putA_at, if_neg hdk]
      · rfl
theorem read_eq (vs : Nat → AV) (T : ATmps) {t : Nat} (ht : t ∈ reads i) : ∀ k, i ≤ k → k ≤ N → ATmps.at (tsT dst vs S T k) t = ATmps.at (tsT dst vs (fun _ => true) T i) t
  | 0, h, _ => by obtain rfl : i = 0 := by omega
                  rfl
  | k + 1, h, hN => by
    by_cases hk : i = k + 1
    · subst hk; exact read_low hs hd hr vs T ht (k + 1) (by omega)
    · rw [← read_eq vs T ht k (by omega) (by omega)]
      simp only [tsT]
      split
      · rename_i hS
        rw [putA_at]
        by_cases hdk : dst k = some t
        · exfalso
          by_cases hki : k = i
          · subst hki; rw [hr.un] at hS; cases hS
          · rw [writer_high hs hd hr (by omega) (by omega) hdk (.inl ht)] at hS; cases hS
        · rw [if_neg hdk]
      · rfl
theorem put_other (vs : Nat → AV) (T : ATmps) {t : Nat} (ht : dst i ≠ some t) : ∀ k, ATmps.at (tsT dst vs (more S i) T k) t = ATmps.at (tsT dst vs S T k) t
  | 0 => rfl
  | k + 1 => by
    have _ := hs
    have _ := hd
    simp only [tsT]
    by_cases hk : k = i
    · have h1 : more S i k = true := by simp [more, hk]
      have h2 : S k = false := by rw [hk]; exact hr.un
      have h3 : dst k ≠ some t := by rw [hk]; exact ht
      simp only [h1, h2, if_true, Bool.false_eq_true, if_false]
      rw [putA_at, if_neg h3]
      exact put_other vs T ht k
    · have h1 : more S i k = S k := by simp [more, hk]
      simp only [h1]
      split
      · rw [putA_at, putA_at, put_other vs T ht k]
      · exact put_other vs T ht k
theorem put_self (vs : Nat → AV) (T : ATmps) {t : Nat} (ht : dst i = some t) : ∀ k, i < k → k ≤ N → ATmps.at (tsT dst vs (more S i) T k) t = vs i
  | 0, h, _ => by omega
  | k + 1, h, hN => by
    simp only [tsT]
    by_cases hk : k = i
    · subst hk; simp only [more, if_true]; rw [putA_at, if_pos ht]
    · have ih := put_self vs T ht k (by omega) (by omega)
      split
      · rename_i hS
        simp only [more, if_neg hk] at hS
        rw [putA_at]
        by_cases hdk : dst k = some t
        · rw [writer_high hs hd hr (by omega) (by omega) hdk (.inr ht)] at hS; cases hS
        · rw [if_neg hdk]; exact ih
      · exact ih
theorem put_eq (vs : Nat → AV) (T : ATmps) (t : Nat) : ATmps.at (tsT dst vs (more S i) T N) t = ATmps.at (putA (tsT dst vs S T N) (dst i) (vs i)) t := by
  rw [putA_at]
  by_cases ht : dst i = some t
  · rw [if_pos ht, put_self hs hd hr vs T ht N hr.lt (Nat.le_refl _)]
  · rw [if_neg ht, put_other hs hd hr vs T ht N]
theorem down_more : Down N anc (more S i) := fun k hk hS j hj => by
  have _ := hs
  simp only [more] at hS ⊢
  by_cases hji : j = i
  · rw [if_pos hji]
  · rw [if_neg hji]
    by_cases hki : k = i
    · subst hki; exact hr.up j hj
    · rw [if_neg hki] at hS; exact hd k hk hS j hj
/-- an operation that acts: those ahead of it in the text, and they alone, have been done -/
theorem lev_act (ha : act i = true) : lvp (fun k => S k && act k) N = lvp act i := by
  have hiN := hr.lt
  rw [lvp_congr (q := fun k => decide (k < N) && (S k && act k)) N fun k hk => by simp [hk]]
  refine lvp_cut (fun k hk => ?_) (fun k hk => ?_) N (by omega)
  · have hkN : k < N := by omega
    cases hak : act k with
    | false => simp
    | true =>
      have := hs.asc k hkN i hr.lt hak ha hk
      simp [hkN, hr.up k this]
  · by_cases hki : k = i
    · subst hki; simp [hr.un]
    · by_cases hkN : k < N
      · cases hak : act k with
        | false => simp
        | true =>
          have h1 := hs.asc i hr.lt k hkN ha hak (by omega)
          cases hS : S k with
          | false => simp
          | true => have := hd k hkN hS i h1; rw [hr.un] at this; cases this
      · simp [hkN]
theorem lev_more_act (ha : act i = true) : lvp (fun k => more S i k && act k) N = lvp (fun k => S k && act k) N + 1 := by
  have _ := hs
  have _ := hd
  rw [lvp_one (p := fun k => S k && act k) (i := i) (by simp [hr.un]) (by simp [more, ha]) (fun k hk => by simp [more, hk]) N, if_pos hr.lt]
theorem lev_more_still (ha : act i = false) : lvp (fun k => more S i k && act k) N = lvp (fun k => S k && act k) N := by
  have _ := hs
  have _ := hd
  exact lvp_congr N fun k _ => by
    by_cases hk : k = i
    · subst hk; simp [ha]
    · simp [more, hk]
theorem lev_lo : lvp (fun k => act k && hasN k (anc i)) N ≤ lvp (fun k => S k && act k) N := lvp_mono N fun k hk h => by
  have _ := hs
  have _ := hd
  simp only [Bool.and_eq_true] at h ⊢
  refine ⟨hr.up k ?_, h.1⟩
  have : ∀ l : List Nat, hasN k l = true → k ∈ l := fun l => by
    induction l with
    | nil => intro h; cases h
    | cons a l ihl =>
      intro h
      have h' : (Bool.casesOn (Nat.beq a k) (hasN k l) true : Bool) = true := h
      cases hb : Nat.beq a k with
      | true => rw [Nat.eq_of_beq_eq_true hb]; exact List.mem_cons_self ..
      | false => rw [hb] at h'; exact List.mem_cons_of_mem _ (ihl h')
  exact this _ h.2
theorem lev_hi : lvp (fun k => S k && act k) N ≤ lvp (fun k => act k && notB (hasN i (anc k))) N := lvp_mono N fun k hk h => by
  have _ := hs
  simp only [Bool.and_eq_true] at h ⊢
  refine ⟨h.2, ?_⟩
  have : ∀ l : List Nat, hasN i l = true → i ∈ l := fun l => by
    induction l with
    | nil => intro h; cases h
    | cons a l ihl =>
      intro h
      have h' : (Bool.casesOn (Nat.beq a i) (hasN i l) true : Bool) = true := h
      cases hb : Nat.beq a i with
      | true => rw [Nat.eq_of_beq_eq_true hb]; exact List.mem_cons_self ..
      | false => rw [hb] at h'; exact List.mem_cons_of_mem _ (ihl h')
  cases hh : hasN i (anc k) with
  | false => rfl
  | true =>
    have := hd k hk h.1 i (this _ hh)
    rw [hr.un] at this; cases this
end
theorem hasN_mem {n : Nat} : ∀ {l : List Nat}, hasN n l = true ↔ n ∈ l
  | [] => by simp [hasN, listRec_nil]
  | a :: l => by
    have h : hasN n (a :: l) = (Bool.casesOn (Nat.beq a n) (hasN n l) true : Bool) := rfl
    rw [h]
    cases hb : Nat.beq a n with
    | true => simp [Nat.eq_of_beq_eq_true hb]
    | false =>
      have hne : ¬ n = a := fun hh => by subst hh; have : Nat.beq n n = true := Nat.beq_refl n; rw [this] at hb; cases hb
      simp only [List.mem_cons, hne, false_or]
      exact hasN_mem
theorem level_top (N : Nat) (S act : Nat → Bool) : lvp (fun k => S k && act k) N ≤ lvp act N := lvp_mono N fun k _ h => by simp at h; exact h.2
theorem tsT_congr (dst : Nat → Option Tmp) (vs : Nat → AV) {S S' : Nat → Bool} (T : ATmps) : ∀ N, (∀ k, k < N → S k = S' k) → tsT dst vs S T N = tsT dst vs S' T N
  | 0, _ => rfl
  | N + 1, h => by simp only [tsT]; rw [h N (by omega), tsT_congr dst vs T N fun k hk => h k (by omega)]

/-! The region's own numbers. -/
theorem mem_binding {o : Oper} {b : Nat} : b ∈ binding o ↔ ∃ ed ∈ o.after, Region.binds .any ed = true ∧ ed.on = b := by
  unfold binding
  have key : ∀ l : List Edge, b ∈ listRec (β := List Nat) [] (fun (e : Edge) _ s => match Region.binds .any e with
      | true => e.on :: s
      | false => s) l ↔ ∃ ed ∈ l, Region.binds .any ed = true ∧ ed.on = b := fun l => by
    induction l with
    | nil => simp [listRec_nil]
    | cons a l ihl =>
      rw [listRec_cons]
      cases hb : Region.binds .any a with
      | true =>
        simp only [List.mem_cons, ihl]
        constructor
        · rintro (rfl | ⟨ed, h1, h2⟩)
          · exact ⟨a, .inl rfl, hb, rfl⟩
          · exact ⟨ed, .inr h1, h2⟩
        · rintro ⟨ed, rfl | h1, h2⟩
          · exact .inl h2.2.symm
          · exact .inr ⟨ed, h1, h2⟩
      | false =>
        simp only [List.mem_cons, ihl]
        constructor
        · rintro ⟨ed, h1, h2⟩; exact ⟨ed, .inr h1, h2⟩
        · rintro ⟨ed, rfl | h1, h2⟩
          · rw [hb] at h2; cases h2.1
          · exact ⟨ed, h1, h2⟩
  exact (key _).trans (by simp)
theorem mem_joinL {acc : List (List Nat)} {j : Nat} : ∀ {l : List Nat}, j ∈ joinL acc l ↔ ∃ a ∈ l, ∃ x, acc[a]? = some x ∧ j ∈ x
  | [] => by simp [joinL, listRec_nil]
  | a :: l => by
    have h : joinL acc (a :: l) = lapp (Option.casesOn (lget acc a) [] (fun x => x)) (joinL acc l) := rfl
    rw [h, lapp_eq, lget_eq, List.mem_append, mem_joinL]
    constructor
    · rintro (h | ⟨b, hb, h⟩)
      · cases hx : acc[a]? with
        | none => rw [hx] at h; simp at h
        | some x => rw [hx] at h; exact ⟨a, List.mem_cons_self .., x, hx, h⟩
      · exact ⟨b, List.mem_cons_of_mem _ hb, h⟩
    · rintro ⟨b, hb, x, hx, h⟩
      cases hb with
      | head => rw [hx]; exact .inl h
      | tail _ hb => exact .inr ⟨b, hb, x, hx, h⟩
theorem aheads_go : ∀ (l : List Oper) (acc : List (List Nat)), ∃ rest,
    listRec (β := List (List Nat) → List (List Nat)) (fun acc => acc) (fun (o : Oper) _ r acc => r (lapp acc [lapp (binding o) (joinL acc (binding o))])) l acc = acc ++ rest ∧ rest.length = l.length ∧
      ∀ (k : Nat) (o : Oper), l[k]? = some o → rest[k]? = some (binding o ++ joinL (acc ++ rest.take k) (binding o))
  | [], acc => ⟨[], by simp [listRec_nil], rfl, fun k o h => by simp at h⟩
  | o :: l, acc => by
    obtain ⟨rest, h1, h2, h3⟩ := aheads_go l (acc ++ [binding o ++ joinL acc (binding o)])
    refine ⟨(binding o ++ joinL acc (binding o)) :: rest, ?_, by simp [h2], fun k o' hk => ?_⟩
    · have e1 : lapp acc [lapp (binding o) (joinL acc (binding o))] = acc ++ [binding o ++ joinL acc (binding o)] := by simp
      rw [listRec_cons]
      rw [e1, h1]; simp
    · cases k with
      | zero => simp at hk; subst hk; simp
      | succ k =>
        have := h3 k o' (by simpa using hk)
        rw [List.getElem?_cons_succ, this]
        simp
theorem aheads_get (ops : List Oper) : (aheads ops).length = ops.length ∧ ∀ (k : Nat) (o : Oper), ops[k]? = some o → ∃ A, (aheads ops)[k]? = some A ∧ ∀ j, j ∈ A ↔ j ∈ binding o ∨ ∃ b ∈ binding o, b < k ∧ ∃ B, (aheads ops)[b]? = some B ∧ j ∈ B := by
  obtain ⟨rest, h1, h2, h3⟩ := aheads_go ops []
  have h : aheads ops = rest := by unfold aheads; rw [h1]; rfl
  rw [h]
  refine ⟨h2, fun k o hk => ⟨_, h3 k o hk, fun j => ?_⟩⟩
  rw [List.mem_append, mem_joinL]
  simp only [List.nil_append, List.getElem?_take]
  constructor
  · rintro (h | ⟨b, hb, x, hx, h⟩)
    · exact .inl h
    · by_cases hbk : b < k
      · rw [if_pos hbk] at hx; exact .inr ⟨b, hb, hbk, x, hx, h⟩
      · rw [if_neg hbk] at hx; cases hx
  · rintro (h | ⟨b, hb, hbk, x, hx, h⟩)
    · exact .inl h
    · exact .inr ⟨b, hb, x, by rw [if_pos hbk]; exact hx, h⟩
theorem dops_go : ∀ (l : List Oper) (i : Nat) (A : List (List Nat)) (k : Nat),
    (listRec (β := Nat → List (List Nat) → List DOp) (fun _ _ => []) (fun (o : Oper) _ r i A => { i := i, o := o, still := stillOp cfg o.dst o.op, anc := Option.casesOn (lget A 0) [] (fun x => x) } :: r (Nat.succ i) (ldrop 1 A)) l i A)[k]? =
      (l[k]?).map fun o => { i := i + k, o := o, still := stillOp cfg o.dst o.op, anc := (A[k]?).getD [] }
  | [], i, A, k => by simp [listRec_nil]
  | o :: l, i, A, k => by
    rw [listRec_cons]
    cases k with
    | zero =>
      simp only [List.getElem?_cons_zero, Option.map_some, lget_eq, Nat.add_zero]
      cases A[0]? <;> rfl
    | succ k =>
      rw [List.getElem?_cons_succ, dops_go l (Nat.succ i) (ldrop 1 A) k, List.getElem?_cons_succ]
      simp only [ldrop_eq, List.getElem?_drop]
      rw [show Nat.succ i + k = i + (k + 1) by omega, Nat.add_comm 1 k]
noncomputable def ancOf (ops : List Oper) (k : Nat) : List Nat := ((aheads ops)[k]?).getD []
theorem dops_get (ops : List Oper) (k : Nat) : (dops cfg ops)[k]? = (ops[k]?).map fun o => { i := k, o := o, still := stillOp cfg o.dst o.op, anc := ancOf ops k } := by
  unfold dops
  rw [dops_go]
  cases ops[k]? <;> simp [ancOf]
theorem dops_length (ops : List Oper) : (dops cfg ops).length = ops.length := by
  by_cases h : (dops cfg ops).length ≤ ops.length
  · by_cases h2 : ops.length ≤ (dops cfg ops).length
    · omega
    · have := dops_get (cfg := cfg) ops (dops cfg ops).length
      rw [List.getElem?_eq_none (Nat.le_refl _), List.getElem?_eq_getElem (by omega)] at this; cases this
  · have := dops_get (cfg := cfg) ops ops.length
    rw [List.getElem?_eq_getElem (by omega), List.getElem?_eq_none (Nat.le_refl _)] at this; cases this
end Go.Proofs.Ytcjfjfhggfcnfaa.Am
