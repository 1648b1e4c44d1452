/- The world's memory: what loads and stores of several cells do. -/
import Derived.Test.YtcjfjfhggfcnfaaAmRel
set_option linter.unusedSimpArgs false
set_option linter.unusedVariables false
namespace Go.Proofs.Ytcjfjfhggfcnfaa.Am
open Go

def setBlock (w : World) (b : Nat) (o : Obj) : World := { w with heap := w.heap.setIfInBounds b o }
def pushBlock (w : World) (o : Obj) : World := { w with heap := w.heap.push o }

theorem setBlock_get (w : World) (b k : Nat) (o : Obj) : (setBlock w b o).heap[k]? = if k = b ∧ b < w.heap.size then some o else w.heap[k]? := by
  unfold setBlock
  simp only [Array.getElem?_setIfInBounds]
  by_cases h : b = k
  · subst h
    by_cases h2 : b < w.heap.size
    · simp [h2]
    · simp [h2]
  · have h' : ¬ k = b := fun e => h e.symm
    simp [h, h']
theorem setBlock_size (w : World) (b : Nat) (o : Obj) : (setBlock w b o).heap.size = w.heap.size := by simp [setBlock]
theorem setBlock_set (w : World) (b : Nat) (o o' : Obj) : setBlock (setBlock w b o) b o' = setBlock w b o' := by
  simp [setBlock]
theorem pushBlock_get (w : World) (k : Nat) (o : Obj) : (pushBlock w o).heap[k]? = if k = w.heap.size then some o else w.heap[k]? := by
  unfold pushBlock; simp [Array.getElem?_push]
theorem pushBlock_size (w : World) (o : Obj) : (pushBlock w o).heap.size = w.heap.size + 1 := by simp [pushBlock]

theorem cell_of {w : World} {b : Nat} {c : Array Value} {t : TypeId} {f : Nat × Nat} (h : w.heap[b]? = some (.cells c t f)) (o : Nat) : w.cell? ⟨b, o, none⟩ = c[o]? := by
  simp [World.cell?, h]
theorem frozen_of {w : World} {b : Nat} {c : Array Value} {t : TypeId} {f : Nat × Nat} (h : w.heap[b]? = some (.cells c t f)) (hf : unfroz f c.size) (o : Nat) (ho : o < c.size) : w.frozen? ⟨b, o, none⟩ = false := by
  obtain ⟨lo, hi⟩ := f
  simp only [World.frozen?, h]
  rcases hf with hf | hf <;> simp at hf ⊢ <;> omega
theorem setCell_of {w : World} {b : Nat} {c : Array Value} {t : TypeId} {f : Nat × Nat} (h : w.heap[b]? = some (.cells c t f)) (o : Nat) (v : Value) :
    w.setCell ⟨b, o, none⟩ v = setBlock w b (.cells (c.setIfInBounds o v) t f) := by
  unfold World.setCell setBlock
  congr 1
  apply Array.ext_getElem?
  intro i
  simp only [Array.getElem?_modify, Array.getElem?_setIfInBounds]
  by_cases hi : b = i
  · subst hi
    have hb : b < w.heap.size := by
      by_cases hb : b < w.heap.size
      · exact hb
      · rw [Array.getElem?_eq_none (by omega)] at h; simp at h
    rw [h]; simp [hb]
  · simp [hi]

/-- cells over an array's -/
def cput : Array Value → Nat → List Value → Array Value
  | c, _, [] => c
  | c, k, v :: vs => cput (c.setIfInBounds k v) (k + 1) vs
theorem cput_size (c : Array Value) (k : Nat) (vs : List Value) : (cput c k vs).size = c.size := by
  induction vs generalizing c k with
  | nil => rfl
  | cons v vs ih => rw [cput, ih]; simp
theorem cput_get (c : Array Value) (k : Nat) (vs : List Value) (h : k + vs.length ≤ c.size) (i : Nat) : (cput c k vs)[i]? = if k ≤ i ∧ i < k + vs.length then vs[i - k]? else c[i]? := by
  induction vs generalizing c k with
  | nil => simp only [cput, List.length_nil]; rw [if_neg (by omega)]
  | cons v vs ih =>
    simp only [List.length_cons] at h
    rw [cput, ih _ _ (by simp; omega), Array.getElem?_setIfInBounds]
    simp only [List.length_cons]
    by_cases h1 : k = i
    · subst h1
      rw [if_neg (by omega), if_pos rfl, if_pos (by omega), if_pos (by omega)]; simp
    · rw [if_neg h1]
      by_cases h2 : k + 1 ≤ i ∧ i < k + 1 + vs.length
      · rw [if_pos h2, if_pos (by omega), show i - k = (i - (k + 1)) + 1 by omega, List.getElem?_cons_succ]
      · rw [if_neg h2, if_neg (by omega)]

def oneCellV : Value → Bool
  | .agg _ | .tuple _ => false
  | _ => true
theorem add_eq (b o i : Nat) : (⟨b, o, none⟩ : Addr).add i = ⟨b, o + i, none⟩ := by
  unfold Addr.add; split <;> simp_all
theorem run_bind {α β : Type} (P : Program) (s : Sem α) (f : α → Sem β) (w : World) :
    (s.bind f).run P w = match s.run P w with
      | .ok a w => (f a).run P w
      | .halt h w => .halt h w := by
  induction s generalizing w with
  | pure a => rfl
  | load m a k ih =>
    simp only [Sem.bind, Sem.run]
    split
    · exact ih _ _
    · split
      · exact ih _ _
      · rfl
  | store m a v k ih =>
    simp only [Sem.bind]
    cases v <;> first
      | rfl
      | (simp only [Sem.run]; split
         · split
           · rfl
           · exact ih _
         · split
           · exact ih _
           · rfl)
  | new o k ih => exact ih _ _
  | shape r k ih => exact ih _ _
  | freeze a n k ih => exact ih _
  | frozen a k ih => exact ih _ _
  | getObj r k ih =>
    simp only [Sem.bind, Sem.run]
    split <;> first | rfl | exact ih _ _
  | setObj r o k ih =>
    simp only [Sem.bind, Sem.run]
    split <;> first | rfl | exact ih _
  | choose q k ih =>
    simp only [Sem.bind, Sem.run]
    split <;> exact ih _ _
  | sys c k ih => exact ih _ _
  | program k ih => exact ih _ _
  | mark m k ih => exact ih _
  | halt h => rfl
theorem run_bind' {α β : Type} (P : Program) (s : Sem α) (f : α → Sem β) (w : World) :
    (s >>= f).run P w = match s.run P w with
      | .ok a w => (f a).run P w
      | .halt h w => .halt h w := run_bind P s f w
theorem run_pure {α : Type} (P : Program) (a : α) (w : World) : (pure a : Sem α).run P w = .ok a w := rfl
theorem bind_ok {α β : Type} {P : Program} {s : Sem α} {f : α → Sem β} {w w' : World} {a : α} (h : s.run P w = .ok a w') : (s >>= f).run P w = (f a).run P w' := by
  rw [run_bind', h]

theorem run_store1 {P : Program} {w : World} {b o : Nat} {c : Array Value} {t : TypeId} {f : Nat × Nat} (v : Value) (h : w.heap[b]? = some (.cells c t f)) (hf : unfroz f c.size) (ho : o < c.size) (hv : oneCellV v = true) :
    (store ⟨b, o, none⟩ v).run P w = .ok () (setBlock w b (.cells (c.setIfInBounds o v) t f)) := by
  have hc : w.cell? ⟨b, o, none⟩ = some c[o] := by rw [cell_of h]; simp [ho]
  have hz := frozen_of h hf o ho
  rw [← setCell_of h]
  unfold store
  cases v <;> first
    | exact Bool.noConfusion hv
    | (simp only [Sem.run, hc, hz, Bool.false_eq_true, if_false])
theorem run_storeCells {P : Program} {b o : Nat} {t : TypeId} {f : Nat × Nat} : ∀ (vs : List Value) (i : Nat) (c : Array Value) (w : World),
    w.heap[b]? = some (.cells c t f) → unfroz f c.size → o + i + vs.length ≤ c.size → (∀ v ∈ vs, oneCellV v = true) →
    (storeCells ⟨b, o, none⟩ vs i).run P w = .ok () (setBlock w b (.cells (cput c (o + i) vs) t f))
  | [], i, c, w, h, _, _, _ => by
    have : setBlock w b (.cells c t f) = w := by
      unfold setBlock
      have hb : b < w.heap.size := by
        by_cases hb : b < w.heap.size
        · exact hb
        · rw [Array.getElem?_eq_none (by omega)] at h; simp at h
      have : w.heap.setIfInBounds b (.cells c t f) = w.heap := by
        apply Array.ext_getElem?
        intro k
        rw [Array.getElem?_setIfInBounds]
        by_cases hk : b = k
        · subst hk; rw [if_pos rfl, if_pos hb, h]
        · rw [if_neg hk]
      rw [this]
    simp only [storeCells, cput]; rw [this]; rfl
  | v :: vs, i, c, w, h, hf, hl, hv => by
    simp only [List.length_cons] at hl
    simp only [storeCells]
    rw [add_eq, bind_ok (run_store1 v h hf (by omega) (hv v (List.mem_cons_self ..)))]
    have hb : b < w.heap.size := by
      by_cases hb : b < w.heap.size
      · exact hb
      · rw [Array.getElem?_eq_none (by omega)] at h; simp at h
    rw [run_storeCells vs (i + 1) (c.setIfInBounds (o + i) v) _ (by rw [setBlock_get, if_pos ⟨rfl, hb⟩]) (by simpa using hf) (by simp; omega) (fun u hu => hv u (List.mem_cons_of_mem _ hu)), setBlock_set]
    rfl
theorem run_loadFrom {P : Program} {w : World} {b o : Nat} : ∀ (n i : Nat) (acc : Array Value) (vs : List Value), vs.length = n → (∀ j v, vs[j]? = some v → w.cell? ⟨b, o + i + j, none⟩ = some v) →
    (loadCellsFrom ⟨b, o, none⟩ i n acc).run P w = .ok (acc ++ vs.toArray) w
  | 0, i, acc, vs, hl, _ => by
    rw [List.length_eq_zero_iff.mp hl]; simp [loadCellsFrom, run_pure]
  | n + 1, i, acc, vs, hl, h => by
    cases vs with
    | nil => simp at hl
    | cons v vs =>
      have h0 : (load (⟨b, o + i, none⟩ : Addr)).run P w = .ok v w := by
        have := h 0 v rfl
        simp only [Nat.add_zero] at this
        simp only [load, Sem.run, this]
      simp only [loadCellsFrom]
      rw [add_eq, bind_ok h0, run_loadFrom n (i + 1) (acc.push v) vs (by simpa using hl) fun j u hj => ?_]
      · simp
      · have := h (j + 1) u (by simpa using hj)
        rwa [show o + i + (j + 1) = o + (i + 1) + j by omega] at this
theorem run_loadCells {P : Program} {w : World} {b o n : Nat} (vs : List Value) (hl : vs.length = n) (h : ∀ (j : Nat) (v : Value), vs[j]? = some v → w.cell? ⟨b, o + j, none⟩ = some v) :
    (loadCells ⟨b, o, none⟩ n).run P w = .ok vs.toArray w := by
  unfold loadCells
  rw [run_loadFrom n 0 #[] vs hl (by simpa using h)]
  simp
end Go.Proofs.Ytcjfjfhggfcnfaa.Am
