/- The abstract heap is the world's: objects, and how one of them is turned or made. -/
import Derived.Test.YtcjfjfhggfcnfaaAmMem
set_option linter.unusedSimpArgs false
set_option linter.unusedVariables false
namespace Go.Proofs.Ytcjfjfhggfcnfaa.Am
open Go

def EntriesOk (e : Env) (w : World) (es : List AEntry) (cs : List MapEntry) : Prop :=
  es.length = cs.length ∧ ∀ (i : Nat) (a : AEntry) (c : MapEntry), es[i]? = some a → cs[i]? = some c → VR e w a.key c.key ∧ VR e w a.val c.val ∧ a.born = c.born

/-- a version of a family lies in its block -/
structure VerOk (e : Env) (w : World) (id : Nat) (cells : List AV) (cur ver x : Nat) (b n : Nat) (c : Array Value) (t : TypeId) (f : Nat × Nat) : Prop where
  β : e.β id ver = some (b, n, x)
  len : x ≤ cells.length
  top : ver = cur → x = cells.length
  room : x ≤ n
  heap : w.heap[b]? = some (.cells c t f)
  size : c.size = n
  free : unfroz f n
  get : ∀ (i : Nat) (y : AV), i < x → cells[i]? = some y → ∃ u, c[i]? = some u ∧ VR e w y u

def ObjOk (e : Env) (w : World) (id : Nat) : AObj → Prop
  | .arr cells low cur exts => low ≤ cur ∧ (∀ ver, cur < ver → e.β id ver = none) ∧ ∀ ver, low ≤ ver → ver ≤ cur → ∃ b n c t f, VerOk e w id cells cur ver (extOf exts cur ver) b n c t f
  | .map es clock => ∃ b n x cs, e.β id 0 = some (b, n, x) ∧ w.heap[b]? = some (.map cs clock) ∧ EntriesOk e w es cs.toList
  | .iter s pos => ∃ b n x t, e.β id 0 = some (b, n, x) ∧ w.heap[b]? = some (.stringIter t pos) ∧ t.data.toList.map UInt8.toNat = s

theorem EntriesOk.mono {e e' : Env} {w w' : World} (h : Le e w e' w') {es : List AEntry} {cs : List MapEntry} (k : EntriesOk e w es cs) : EntriesOk e' w' es cs :=
  ⟨k.1, fun i a c ha hc => let ⟨h1, h2, h3⟩ := k.2 i a c ha hc; ⟨VR.mono h _ _ h1, VR.mono h _ _ h2, h3⟩⟩
theorem VerOk.mono {e e' : Env} {w w' : World} (h : Le e w e' w') {id : Nat} {cells : List AV} {cur ver x b n : Nat} {c : Array Value} {t : TypeId} {f : Nat × Nat}
    (hb : w'.heap[b]? = w.heap[b]?) (k : VerOk e w id cells cur ver x b n c t f) : VerOk e' w' id cells cur ver x b n c t f where
  β := h.β _ _ _ k.β
  len := k.len
  top := k.top
  room := k.room
  heap := hb.trans k.heap
  size := k.size
  free := k.free
  get := fun i y hi hy => let ⟨u, hu, hr⟩ := k.get i y hi hy; ⟨u, hu, VR.mono h _ _ hr⟩
theorem ObjOk.mono {e e' : Env} {w w' : World} (h : Le e w e' w') {id : Nat} (hβ : ∀ ver, e'.β id ver = e.β id ver)
    (hb : ∀ ver b n x, e.β id ver = some (b, n, x) → w'.heap[b]? = w.heap[b]?) {o : AObj} (k : ObjOk e w id o) : ObjOk e' w' id o := by
  cases o with
  | arr cells low cur exts =>
    refine ⟨k.1, fun ver hv => (hβ ver).trans (k.2.1 ver hv), fun ver h1 h2 => ?_⟩
    obtain ⟨b, n, c, t, f, hk⟩ := k.2.2 ver h1 h2
    exact ⟨b, n, c, t, f, hk.mono h (hb _ _ _ _ hk.β)⟩
  | map es clock =>
    obtain ⟨b, n, x, cs, h1, h2, h3⟩ := k
    exact ⟨b, n, x, cs, h.β _ _ _ h1, (hb _ _ _ _ h1).trans h2, h3.mono h⟩
  | iter s pos =>
    obtain ⟨b, n, x, t, h1, h2, h3⟩ := k
    exact ⟨b, n, x, t, h.β _ _ _ h1, (hb _ _ _ _ h1).trans h2, h3⟩

structure Inv (e : Env) (H : AHeap) (w : World) : Prop where
  own : ∀ id ver b n x, e.β id ver = some (b, n, x) → b < w.heap.size ∧ e.base ≤ b ∧ ¬ e.out b ∧ id < H.next
  inj : ∀ id ver b n x id' ver' n' x', e.β id ver = some (b, n, x) → e.β id' ver' = some (b, n', x') → id = id'
  obj : ∀ id o, H.get id = some o → ObjOk e w id o
  base : e.base ≤ w.heap.size
  out : ∀ b, e.out b → b < w.heap.size

theorem step_inv {e e' : Env} {H H' : AHeap} {w w' : World} (hI : Inv e H w) (hle : Le e w e' w') (id : Nat) (o' : AObj)
    (hget : ∀ j, H'.get j = if j = id then some o' else H.get j) (hnext : H.next ≤ H'.next) (hid : id < H'.next)
    (hβ : ∀ id', id' ≠ id → ∀ ver, e'.β id' ver = e.β id' ver)
    (hb : ∀ id', id' ≠ id → ∀ ver b n x, e.β id' ver = some (b, n, x) → w'.heap[b]? = w.heap[b]?)
    (hown : ∀ ver b n x, e'.β id ver = some (b, n, x) → b < w'.heap.size ∧ e.base ≤ b ∧ ¬ e.out b ∧ ∀ id', id' ≠ id → ∀ ver' n' x', e.β id' ver' ≠ some (b, n', x'))
    (ho : ObjOk e' w' id o') : Inv e' H' w' where
  own := fun id' ver b n x h => by
    rw [hle.base, hle.out]
    by_cases hi : id' = id
    · subst hi
      obtain ⟨h1, h2, h3, _⟩ := hown ver b n x h
      exact ⟨h1, h2, h3, hid⟩
    · rw [hβ id' hi] at h
      obtain ⟨h1, h2, h3, h4⟩ := hI.own id' ver b n x h
      exact ⟨Nat.lt_of_lt_of_le h1 hle.size, h2, h3, Nat.lt_of_lt_of_le h4 hnext⟩
  inj := fun i v b n x i' v' n' x' h h' => by
    by_cases hi : i = id
    · by_cases hi' : i' = id
      · rw [hi, hi']
      · subst hi
        rw [hβ i' hi'] at h'
        exact absurd h' ((hown v b n x h).2.2.2 i' hi' v' n' x')
    · by_cases hi' : i' = id
      · subst hi'
        rw [hβ i hi] at h
        exact absurd h ((hown v' b n' x' h').2.2.2 i hi v n x)
      · rw [hβ i hi] at h; rw [hβ i' hi'] at h'
        exact hI.inj _ _ _ _ _ _ _ _ _ h h'
  obj := fun i o h => by
    rw [hget] at h
    by_cases hi : i = id
    · rw [if_pos hi] at h; simp at h; subst h; subst hi; exact ho
    · rw [if_neg hi] at h
      exact (hI.obj i o h).mono hle (hβ i hi) (hb i hi)
  base := by rw [hle.base]; exact Nat.le_trans hI.base hle.size
  out := fun b h => by rw [hle.out] at h; exact Nat.lt_of_lt_of_le (hI.out b h) hle.size

def Env.add (e : Env) (id ver : Nat) (r : Nat × Nat × Nat) : Env := { e with β := fun i v => if i = id ∧ v = ver then some r else e.β i v }
theorem add_own {e : Env} {id ver : Nat} {r : Nat × Nat × Nat} {b : Nat} (h : (e.add id ver r).own b) : e.own b ∨ b = r.1 := by
  obtain ⟨i, v, n, x, h⟩ := h
  simp only [Env.add] at h
  by_cases hi : i = id ∧ v = ver
  · rw [if_pos hi] at h; simp at h; subst h; exact .inr rfl
  · rw [if_neg hi] at h; exact .inl ⟨i, v, n, x, h⟩

/-- a new block -/
theorem alloc_le {e : Env} {H : AHeap} {w : World} (hI : Inv e H w) (ob : Obj) (n x : Nat) : Le e w (e.add H.next 0 (w.heap.size, n, x)) (pushBlock w ob) where
  β := fun id ver r h => by
    show (if id = H.next ∧ ver = 0 then _ else _) = _
    rw [if_neg (fun hh => by obtain ⟨b, n, x⟩ := r; have := (hI.own id ver b n x h).2.2.2; omega)]; exact h
  new := fun b hb => by
    rcases add_own hb with h | h
    · exact .inl h
    · exact .inr (by rw [h]; exact Nat.le_refl _)
  out := rfl
  base := rfl
  size := by rw [pushBlock_size]; omega
  keep := fun b hb _ => .inr (by rw [pushBlock_get, if_neg (by omega)])
  low := fun b hb => by have := hI.base; rw [pushBlock_get, if_neg (by omega)]
  os := rfl
  tape := rfl
  output := rfl
theorem alloc_inv {e : Env} {H : AHeap} {w : World} (hI : Inv e H w) (ob : Obj) (o : AObj) (n x : Nat)
    (ho : ObjOk (e.add H.next 0 (w.heap.size, n, x)) (pushBlock w ob) H.next o) : Inv (e.add H.next 0 (w.heap.size, n, x)) (H.new o) (pushBlock w ob) :=
  step_inv hI (alloc_le hI ob n x) H.next o (AHeap.get_new H o) (Nat.le_succ _) (Nat.lt_succ_self _)
    (fun id' hi ver => by show (if id' = H.next ∧ ver = 0 then _ else _) = _; rw [if_neg (fun hh => hi hh.1)])
    (fun id' _ ver b n x h => by have := (hI.own _ _ _ _ _ h).1; rw [pushBlock_get, if_neg (by omega)])
    (fun ver b n' x' h => by
      have hnone : e.β H.next ver = none := by
        cases h0 : e.β H.next ver with
        | none => rfl
        | some r => obtain ⟨b, n, x⟩ := r; have := (hI.own _ _ _ _ _ h0).2.2.2; omega
      change (if H.next = H.next ∧ ver = 0 then _ else e.β H.next ver) = _ at h
      by_cases hv : H.next = H.next ∧ ver = 0
      · rw [if_pos hv] at h
        simp only [Option.some.injEq, Prod.mk.injEq] at h
        obtain ⟨rfl, _, _⟩ := h
        refine ⟨by rw [pushBlock_size]; omega, hI.base, fun ho => ?_, fun id' _ ver' n' x' h' => ?_⟩
        · have := hI.out _ ho; omega
        · have := (hI.own _ _ _ _ _ h').1; omega
      · rw [if_neg hv, hnone] at h; cases h)
    ho
/-- a family is made -/
theorem newArr_ok {e : Env} {H : AHeap} {w : World} (hI : Inv e H w) (cs : List AV) (c : Array Value) (t : TypeId) (hn : cs.length ≤ c.size)
    (hg : ∀ (i : Nat) (y : AV), cs[i]? = some y → ∃ u, c[i]? = some u ∧ VR e w y u) :
    Le e w (e.add H.next 0 (w.heap.size, c.size, cs.length)) (pushBlock w (.cells c t)) ∧ Inv (e.add H.next 0 (w.heap.size, c.size, cs.length)) (newArr H cs) (pushBlock w (.cells c t)) ∧
    (e.add H.next 0 (w.heap.size, c.size, cs.length)).β H.next 0 = some (w.heap.size, c.size, cs.length) := by
  have hle := alloc_le hI (.cells c t) c.size cs.length
  have hβ : (e.add H.next 0 (w.heap.size, c.size, cs.length)).β H.next 0 = some (w.heap.size, c.size, cs.length) := by
    show (if H.next = H.next ∧ 0 = 0 then _ else _) = _; rw [if_pos ⟨rfl, rfl⟩]
  refine ⟨hle, ?_, hβ⟩
  unfold newArr
  refine alloc_inv hI _ _ _ _ ?_
  rw [llen_eq]
  refine ⟨Nat.le_refl _, fun ver hv => ?_, fun ver h1 h2 => ?_⟩
  · show (if H.next = H.next ∧ ver = 0 then _ else _) = _
    rw [if_neg (by omega)]
    cases h0 : e.β H.next ver with
    | none => rfl
    | some r => obtain ⟨b, n, x⟩ := r; have := (hI.own _ _ _ _ _ h0).2.2.2; omega
  · obtain rfl : ver = 0 := by omega
    have hx : extOf [cs.length] 0 0 = cs.length := rfl
    refine ⟨w.heap.size, c.size, c, t, (0, 0), ?_⟩
    rw [hx]
    exact {
      β := hβ
      len := Nat.le_refl _
      top := fun _ => rfl
      room := hn
      heap := by rw [pushBlock_get, if_pos rfl]
      size := rfl
      free := .inl rfl
      get := fun i y _ hy => let ⟨u, hu, hr⟩ := hg i y hy; ⟨u, hu, VR.mono hle _ _ hr⟩ }

/-- a new block that nobody owns -/
theorem push_le {e : Env} {H : AHeap} {w : World} (hI : Inv e H w) (ob : Obj) : Le e w e (pushBlock w ob) where
  β := fun _ _ _ h => h
  new := fun _ h => .inl h
  out := rfl
  base := rfl
  size := by rw [pushBlock_size]; omega
  keep := fun b hb _ => .inr (by rw [pushBlock_get, if_neg (by omega)])
  low := fun b hb => by have := hI.base; rw [pushBlock_get, if_neg (by omega)]
  os := rfl
  tape := rfl
  output := rfl
/-- what turns no block of one's own leaves all that is held -/
theorem same_inv {e : Env} {H : AHeap} {w w' : World} (hI : Inv e H w) (hle : Le e w e w') (hb : ∀ id ver b n x, e.β id ver = some (b, n, x) → w'.heap[b]? = w.heap[b]?) : Inv e H w' where
  own := fun id ver b n x h => let ⟨h1, h2⟩ := hI.own id ver b n x h; ⟨Nat.lt_of_lt_of_le h1 hle.size, h2⟩
  inj := hI.inj
  obj := fun id o h => (hI.obj id o h).mono hle (fun _ => rfl) (hb id)
  base := Nat.le_trans hI.base hle.size
  out := fun b h => Nat.lt_of_lt_of_le (hI.out b h) hle.size
theorem push_inv {e : Env} {H : AHeap} {w : World} (hI : Inv e H w) (ob : Obj) : Inv e H (pushBlock w ob) :=
  same_inv hI (push_le hI ob) fun _ _ _ _ _ h => by have := (hI.own _ _ _ _ _ h).1; rw [pushBlock_get, if_neg (by omega)]
theorem push_vm {e : Env} {H : AHeap} {w : World} (hI : Inv e H w) {cs : List AV} {c : Array Value} {t : TypeId} (h : VRs e w cs c.toList) : VM e (pushBlock w (.cells c t)) cs w.heap.size 0 :=
  VM.of_get fun i x hx => by
    obtain ⟨u, hu, hr⟩ := h.get i x hx
    refine ⟨fun ⟨id, ver, n, x, ho⟩ => ?_, fun ho => ?_, u, ?_, VR.mono (push_le hI _) _ _ hr⟩
    · have := (hI.own _ _ _ _ _ ho).1; omega
    · have := hI.out _ ho; omega
    · rw [cell_of (by rw [pushBlock_get, if_pos rfl])]; simpa using hu

/-- a block of one's own is turned -/
theorem set_le {e : Env} {H : AHeap} {w : World} (hI : Inv e H w) {id ver b n x : Nat} (hb : e.β id ver = some (b, n, x)) (ob : Obj) : Le e w e (setBlock w b ob) where
  β := fun _ _ _ h => h
  new := fun _ h => .inl h
  out := rfl
  base := rfl
  size := by rw [setBlock_size]; exact Nat.le_refl _
  keep := fun k _ hn => .inr (by rw [setBlock_get, if_neg (fun hh => hn (by rw [hh.1]; exact ⟨_, _, _, _, hb⟩))])
  low := fun k hk => by have := (hI.own _ _ _ _ _ hb).2.1; rw [setBlock_get, if_neg (by omega)]
  os := rfl
  tape := rfl
  output := rfl
theorem set_inv {e : Env} {H : AHeap} {w : World} (hI : Inv e H w) {id ver b n x : Nat} (hb : e.β id ver = some (b, n, x)) (ob : Obj) (o : AObj)
    (ho : ObjOk e (setBlock w b ob) id o) : Inv e (H.put id o) (setBlock w b ob) :=
  step_inv hI (set_le hI hb ob) id o (AHeap.get_put H o id) (Nat.le_refl _) (hI.own _ _ _ _ _ hb).2.2.2
    (fun _ _ _ => rfl)
    (fun id' hi ver' b' n' x' h => by
      rw [setBlock_get, if_neg (fun hh => hi (hI.inj _ _ _ _ _ _ _ _ _ h (by rw [hh.1]; exact hb)))])
    (fun ver' b' n' x' h => by
      obtain ⟨h1, h2, h3, _⟩ := hI.own _ _ _ _ _ h
      refine ⟨by rw [setBlock_size]; exact h1, h2, h3, fun id' hi v'' n'' x'' h' => hi (hI.inj _ _ _ _ _ _ _ _ _ h' h)⟩)
    ho
end Go.Proofs.Ytcjfjfhggfcnfaa.Am
