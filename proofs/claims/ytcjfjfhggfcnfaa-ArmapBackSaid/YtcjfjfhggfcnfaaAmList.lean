/- The abstract machine's own list functions are the usual ones. -/
import Derived.Test.YtcjfjfhggfcnfaaAmEval
set_option linter.unusedSimpArgs false
set_option linter.unusedVariables false
namespace Go.Proofs.Ytcjfjfhggfcnfaa.Am
open Go
variable {α β : Type}

theorem natRec_zero (z : β) (s : Nat → β → β) : natRec z s 0 = z := rfl
theorem natRec_succ (z : β) (s : Nat → β → β) (n : Nat) : natRec z s (n + 1) = s n (natRec z s n) := rfl
theorem listRec_nil (z : β) (s : α → List α → β → β) : listRec z s [] = z := rfl
theorem listRec_cons (z : β) (s : α → List α → β → β) (a : α) (l : List α) : listRec z s (a :: l) = s a l (listRec z s l) := rfl

@[simp] theorem llen_eq (l : List α) : llen l = l.length := by
  induction l with
  | nil => rfl
  | cons a l ih => exact congrArg Nat.succ ih
@[simp] theorem lapp_eq (l m : List α) : lapp l m = l ++ m := by
  induction l with
  | nil => rfl
  | cons a l ih => exact congrArg (a :: ·) ih
@[simp] theorem lmap_eq (f : α → β) (l : List α) : lmap f l = l.map f := by
  induction l with
  | nil => rfl
  | cons a l ih => exact congrArg (f a :: ·) ih
@[simp] theorem lget_eq (l : List α) (k : Nat) : lget l k = l[k]? := by
  induction l generalizing k with
  | nil => rfl
  | cons a l ih => cases k with
    | zero => rfl
    | succ k => exact (ih k).trans (by simp)
@[simp] theorem ldrop_eq (n : Nat) (l : List α) : ldrop n l = l.drop n := by
  induction n generalizing l with
  | zero => rfl
  | succ n ih => cases l with
    | nil => rfl
    | cons a l => exact ih l
@[simp] theorem ltake_eq (n : Nat) (l : List α) : ltake n l = l.take n := by
  induction n generalizing l with
  | zero => rfl
  | succ n ih => cases l with
    | nil => rfl
    | cons a l => exact congrArg (a :: ·) (ih l)
@[simp] theorem lset_eq (l : List α) (x : α) (k : Nat) : lset l x k = l.set k x := by
  induction l generalizing k with
  | nil => rfl
  | cons a l ih => cases k with
    | zero => rfl
    | succ k => exact congrArg (a :: ·) (ih k)
@[simp] theorem lrep_eq (n : Nat) (x : α) : lrep n x = List.replicate n x := by
  induction n with
  | zero => rfl
  | succ n ih => exact congrArg (x :: ·) ih
@[simp] theorem lall_eq (p : α → Bool) (l : List α) : lall p l = l.all p := by
  induction l with
  | nil => rfl
  | cons a l ih =>
    show (Bool.casesOn (p a) false (lall p l) : Bool) = _
    rw [ih]; cases h : p a <;> simp [h]
theorem lput_nil (l : List α) (k : Nat) : lput l k [] = l := by
  induction l generalizing k with
  | nil => rfl
  | cons a l ih => cases k with
    | zero => exact congrArg (a :: ·) (ih 0)
    | succ k => exact congrArg (a :: ·) (ih k)
theorem lput_get (l : List α) (k : Nat) (xs : List α) (i : Nat) :
    (lput l k xs)[i]? = if i < l.length then (if k ≤ i ∧ i < k + xs.length then xs[i - k]? else l[i]?) else none := by
  induction l generalizing k xs i with
  | nil => simp [lput, listRec_nil]
  | cons a l ih =>
    cases k with
    | zero => cases xs with
      | nil =>
        rw [lput_nil]
        by_cases h : i < (a :: l).length
        · rw [if_pos h, if_neg (by simp)]
        · rw [if_neg h, List.getElem?_eq_none (by omega)]
      | cons x xs =>
        show (x :: lput l 0 xs)[i]? = _
        cases i with
        | zero => simp
        | succ i =>
          rw [List.getElem?_cons_succ, ih]
          by_cases h : i < l.length <;> by_cases h2 : i < xs.length <;> simp [h, h2]
    | succ k =>
      show (a :: lput l k xs)[i]? = _
      cases i with
      | zero => simp
      | succ i =>
        rw [List.getElem?_cons_succ, ih]
        by_cases h : i < l.length
        · rw [if_pos h, if_pos (show i + 1 < (a :: l).length by simpa using h)]
          by_cases h2 : k ≤ i ∧ i < k + xs.length
          · rw [if_pos h2, if_pos (show k + 1 ≤ i + 1 ∧ i + 1 < k + 1 + xs.length by omega), Nat.add_sub_add_right]
          · rw [if_neg h2, if_neg (show ¬(k + 1 ≤ i + 1 ∧ i + 1 < k + 1 + xs.length) by omega), List.getElem?_cons_succ]
        · rw [if_neg h, if_neg (show ¬ i + 1 < (a :: l).length by simpa using h)]
@[simp] theorem lput_length (l : List α) (k : Nat) (xs : List α) : (lput l k xs).length = l.length := by
  induction l generalizing k xs with
  | nil => rfl
  | cons a l ih => cases k with
    | zero => cases xs with
      | nil => exact congrArg Nat.succ (ih 0 [])
      | cons x xs => exact congrArg Nat.succ (ih 0 xs)
    | succ k => exact congrArg Nat.succ (ih k xs)
theorem omap_nil (f : α → Option β) : omap f [] = some [] := rfl
theorem omap_cons (f : α → Option β) (a : α) (l : List α) (bs : List β) :
    omap f (a :: l) = some bs ↔ ∃ b bs', f a = some b ∧ omap f l = some bs' ∧ bs = b :: bs' := by
  show (Option.casesOn (f a) none (fun b => Option.casesOn (omap f l) none (fun bs => some (b :: bs))) : Option (List β)) = some bs ↔ _
  cases f a with
  | none => simp
  | some b => cases omap f l with
    | none => simp
    | some bs' => simp; exact eq_comm

/-! The map from numbers. -/
theorem if_iff {γ : Type} {p q : Prop} [Decidable p] [Decidable q] {a b : γ} (h : p ↔ q) : (if p then a else b) = if q then a else b := by
  by_cases hp : p
  · rw [if_pos hp, if_pos (h.mp hp)]
  · rw [if_neg hp, if_neg (fun hq => hp (h.mpr hq))]
theorem even_or {γ : Type} (m : Nat) (a b : γ) : (Nat.casesOn (m % 2) a (fun _ => b) : γ) = if m % 2 = 0 then a else b := by
  rcases Nat.mod_two_eq_zero_or_one m with h | h <;> rw [h] <;> rfl
theorem Tr.get_leaf (k : Nat) : (Tr.leaf : Tr α).get k = none := rfl
theorem Tr.get_node (l : Tr α) (v : Option α) (r : Tr α) (k : Nat) :
    (Tr.node l v r).get k = match k with
      | 0 => v
      | k + 1 => if k % 2 = 0 then l.get (k / 2) else r.get (k / 2) := by
  cases k with
  | zero => rfl
  | succ k =>
    exact even_or _ _ _
theorem Tr.get_left (l : Tr α) (v : Option α) (r : Tr α) (j : Nat) (h : j % 2 = 0) : (Tr.node l v r).get (j + 1) = l.get (j / 2) := by
  rw [get_node]; simp [h]
theorem Tr.get_right (l : Tr α) (v : Option α) (r : Tr α) (j : Nat) (h : j % 2 = 1) : (Tr.node l v r).get (j + 1) = r.get (j / 2) := by
  rw [get_node]; simp [h]
theorem Tr.one_left (f : Nat) (x : α) (k : Nat) (h : k % 2 = 0) : Tr.one (f + 1) x (k + 1) = .node (Tr.one f x (k / 2)) none .leaf := by
  show (Nat.casesOn (k % 2) (.node (Tr.one f x (k / 2)) none .leaf) (fun _ => .node .leaf none (Tr.one f x (k / 2))) : Tr α) = _
  rw [h]; rfl
theorem Tr.one_right (f : Nat) (x : α) (k : Nat) (h : k % 2 = 1) : Tr.one (f + 1) x (k + 1) = .node .leaf none (Tr.one f x (k / 2)) := by
  show (Nat.casesOn (k % 2) (.node (Tr.one f x (k / 2)) none .leaf) (fun _ => .node .leaf none (Tr.one f x (k / 2))) : Tr α) = _
  rw [h]; rfl
theorem Tr.set_left (l : Tr α) (v : Option α) (r : Tr α) (x : α) (k : Nat) (h : k % 2 = 0) : (Tr.node l v r).set x (k + 1) = .node (l.set x (k / 2)) v r := by
  show (Nat.casesOn (k % 2) (.node (l.set x (k / 2)) v r) (fun _ => .node l v (r.set x (k / 2))) : Tr α) = _
  rw [h]; rfl
theorem Tr.set_right (l : Tr α) (v : Option α) (r : Tr α) (x : α) (k : Nat) (h : k % 2 = 1) : (Tr.node l v r).set x (k + 1) = .node l v (r.set x (k / 2)) := by
  show (Nat.casesOn (k % 2) (.node (l.set x (k / 2)) v r) (fun _ => .node l v (r.set x (k / 2))) : Tr α) = _
  rw [h]; rfl
theorem Tr.get_one (f : Nat) (x : α) (k j : Nat) (h : k < f) : (Tr.one f x k).get j = if j = k then some x else none := by
  induction f generalizing k j with
  | zero => omega
  | succ f ih =>
    cases k with
    | zero =>
      show (Tr.node .leaf (some x) .leaf).get j = _
      rw [get_node]; cases j <;> simp [get_leaf]
    | succ k =>
      have i1 := fun j => ih (k / 2) j (by omega)
      cases j with
      | zero =>
        rw [if_neg (by omega)]
        rcases Nat.mod_two_eq_zero_or_one k with h0 | h0
        · rw [one_left _ _ _ h0]; rfl
        · rw [one_right _ _ _ h0]; rfl
      | succ j =>
        rcases Nat.mod_two_eq_zero_or_one k with h0 | h0 <;> rcases Nat.mod_two_eq_zero_or_one j with h1 | h1
        · rw [one_left _ _ _ h0, get_left _ _ _ _ h1, i1]; exact if_iff (by omega)
        · rw [one_left _ _ _ h0, get_right _ _ _ _ h1, if_neg (by omega)]; rfl
        · rw [one_right _ _ _ h0, get_left _ _ _ _ h1, if_neg (by omega)]; rfl
        · rw [one_right _ _ _ h0, get_right _ _ _ _ h1, i1]; exact if_iff (by omega)
theorem Tr.get_set (t : Tr α) (x : α) (k j : Nat) : (t.set x k).get j = if j = k then some x else t.get j := by
  induction t generalizing k j with
  | leaf => exact get_one _ _ _ _ (Nat.lt_succ_self _)
  | node l v r ihl ihr =>
    cases k with
    | zero =>
      show (Tr.node l (some x) r).get j = _
      rw [get_node, get_node]; cases j <;> simp
    | succ k =>
      cases j with
      | zero =>
        rw [if_neg (by omega)]
        rcases Nat.mod_two_eq_zero_or_one k with h0 | h0
        · rw [set_left _ _ _ _ _ h0]; rfl
        · rw [set_right _ _ _ _ _ h0]; rfl
      | succ j =>
        rcases Nat.mod_two_eq_zero_or_one k with h0 | h0 <;> rcases Nat.mod_two_eq_zero_or_one j with h1 | h1
        · rw [set_left _ _ _ _ _ h0, get_left _ _ _ _ h1, get_left _ _ _ _ h1, ihl]; exact if_iff (by omega)
        · rw [set_left _ _ _ _ _ h0, get_right _ _ _ _ h1, get_right _ _ _ _ h1, if_neg (by omega)]
        · rw [set_right _ _ _ _ _ h0, get_left _ _ _ _ h1, get_left _ _ _ _ h1, if_neg (by omega)]
        · rw [set_right _ _ _ _ _ h0, get_right _ _ _ _ h1, get_right _ _ _ _ h1, ihr]; exact if_iff (by omega)

theorem ATmps.at_leaf (t : Nat) : ATmps.at .leaf t = .tup [] := rfl
theorem ATmps.at_set (T : ATmps) (x : AV) (k t : Nat) : ATmps.at (Tr.set T x k) t = if t = k then x else ATmps.at T t := by
  unfold ATmps.at
  rw [Tr.get_set]
  by_cases h : t = k <;> simp [h]
theorem AHeap.get_put (H : AHeap) (o : AObj) (k j : Nat) : (H.put k o).get j = if j = k then some o else H.get j := Tr.get_set _ _ _ _
theorem AHeap.get_new (H : AHeap) (o : AObj) (j : Nat) : (H.new o).get j = if j = H.next then some o else H.get j := Tr.get_set _ _ _ _
end Go.Proofs.Ytcjfjfhggfcnfaa.Am
