/- Arguments as they lie in memory when a call begins, as abstract values. -/
import Derived.Test.YtcjfjfhggfcnfaaAmSound
import Derived.ChangeShapes
import Derived.ChangeArms
import Derived.Below
set_option linter.unusedSimpArgs false
set_option linter.unusedVariables false
namespace Go.Proofs.Ytcjfjfhggfcnfaa.Am
open Go
variable {P : Program} {w : World}

/-- of a list of types, one behind the other -/
def Cat (S : TypeId → List AV → Prop) : List TypeId → List AV → Prop
  | [], xs => xs = []
  | t :: ts, xs => ∃ y ys, xs = y ++ ys ∧ S t y ∧ Cat S ts ys
def Shape (P : Program) : Nat → TypeId → List AV → Prop
  | 0, _, _ => False
  | d + 1, t, xs => match P.underlying t with
    | some .bool => ∃ b, xs = [.bool b]
    | some (.int k) => ∃ n, xs = [.int k n] ∧ (Lit.int k n).wf = true
    | some .string => ∃ s : List Nat, xs = [.str s] ∧ s.length ≤ maxLen ∧ ∀ b ∈ s, b < 256
    | some (.slice e) => xs = [.nils] ∨ ∃ es : List (List AV), xs = [.vsl es.flatten es.length false false] ∧ es.length ≤ maxLen ∧ ∀ x ∈ es, Shape P d e x
    | some (.struct fs) => Cat (Shape P d) (fs.toList.map (·.type)) xs
    | _ => False
def inOrder (P : Program) : Nat → List Field → Option Nat
  | n, [] => some n
  | n, f :: fs => if f.offset = n then inOrder P (n + P.cellsOf f.type) fs else none
def okT (P : Program) : Nat → TypeId → Bool
  | 0, _ => false
  | d + 1, t => match P.underlying t with
    | some .bool => decide (P.cellsOf t = 1)
    | some (.int _) => decide (P.cellsOf t = 1)
    | some .string => decide (P.cellsOf t = 1)
    | some (.slice e) => decide (P.cellsOf t = 1) && (decide (0 < P.cellsOf e) && okT P d e)
    | some (.struct fs) => (inOrder P 0 fs.toList == some (P.cellsOf t)) && fs.toList.all fun f => okT P d f.type
    | _ => false
def startE (w : World) : Env := { β := fun _ _ => none, out := fun _ => False, base := w.heap.size }
theorem startE_own {b : Nat} : ¬ (startE w).own b := fun ⟨_, _, _, _, h⟩ => by cases h
theorem startE_inv : Inv (startE w) emptyH w where
  own := fun _ _ _ _ _ h => by cases h
  inj := fun _ _ _ _ _ _ _ _ _ h => by cases h
  obj := fun id o h => by
    change Tr.get .leaf id = some o at h
    rw [Tr.get_leaf] at h; cases h
  base := Nat.le_refl _
  out := fun b h => h.elim
theorem VM.append {e : Env} : ∀ {xs ys : List AV} {b o : Nat}, VM e w xs b o → VM e w ys b (o + xs.length) → VM e w (xs ++ ys) b o
  | [], ys, b, o, _, h => by simpa using h
  | x :: xs, ys, b, o, h, k => by
    simp only [VM] at h
    obtain ⟨h1, h2, h3, h4⟩ := h
    simp only [List.cons_append, VM]
    refine ⟨h1, h2, h3, VM.append h4 ?_⟩
    rw [List.length_cons] at k
    rwa [show o + 1 + xs.length = o + (xs.length + 1) by omega]

theorem fields_ok {d : Nat} {cs : List Value} {good : TypeId → List Value → Prop}
    (ih : ∀ t seg, good t seg → ∃ xs, Shape P d t xs ∧ VRs (startE w) w xs seg ∧ seg.length = P.cellsOf t) : ∀ (l : List Field) (n m : Nat), inOrder P n l = some m → cs.length = m →
      (∀ f ∈ l, good f.type ((cs.drop f.offset).take (P.cellsOf f.type))) → ∃ xs, Cat (Shape P d) (l.map (·.type)) xs ∧ VRs (startE w) w xs (cs.drop n)
  | [], n, m, ho, hl, _ => by
    cases ho
    refine ⟨[], rfl, ?_⟩
    rw [List.drop_eq_nil_of_le (by omega)]; simp only [VRs]
  | f :: l, n, m, ho, hl, hg => by
    unfold inOrder at ho
    by_cases hf : f.offset = n
    · rw [if_pos hf] at ho
      obtain ⟨ys, h1, h2⟩ := fields_ok ih l _ _ ho hl fun g hm => hg g (List.mem_cons_of_mem _ hm)
      obtain ⟨y, h3, h4, h5⟩ := ih _ _ (hg f (List.mem_cons_self ..))
      refine ⟨y ++ ys, ⟨y, ys, rfl, h3, h1⟩, ?_⟩
      have := h4.append h2
      rwa [hf, ← List.drop_drop, List.take_append_drop] at this
    · rw [if_neg hf] at ho; cases ho
theorem rows_ok {d n : Nat} {el : TypeId} {a : Addr} (hn : n = P.cellsOf el) (hspot : a.spot = none)
    (row : ∀ i, i < n → True) {len : Nat} (hrow : ∀ i, i < len → ∃ xs cs, Shape P d el xs ∧ VRs (startE w) w xs cs ∧ cs.length = n ∧ ∀ j, j < n → w.cell? ((a.add (i * n)).add j) = cs[j]?) :
    ∀ m, m ≤ len → ∃ es : List (List AV), es.length = m ∧ (∀ x ∈ es, Shape P d el x) ∧ VM (startE w) w es.flatten a.block a.off ∧ es.flatten.length = m * n
  | 0, _ => ⟨[], rfl, fun x hx => (by cases hx), by simp only [List.flatten_nil, VM], by simp⟩
  | m + 1, h => by
    obtain ⟨es, h1, h2, h3, h4⟩ := rows_ok hn hspot row hrow m (by omega)
    obtain ⟨xs, cs, g1, g2, g3, g4⟩ := hrow m (by omega)
    refine ⟨es ++ [xs], by simp [h1], fun x hx => ?_, ?_, ?_⟩
    · rcases List.mem_append.mp hx with hx | hx
      · exact h2 x hx
      · rw [List.mem_singleton.mp hx]; exact g1
    · rw [List.flatten_append]
      refine VM.append h3 ?_
      rw [h4]
      simp only [List.flatten_cons, List.flatten_nil, List.append_nil]
      refine VM.of_get fun i y hy => ⟨startE_own, fun h => h.elim, ?_⟩
      obtain ⟨v, hv, hr⟩ := g2.get i y hy
      have hi : i < n := by rw [← g3]; exact (List.getElem?_eq_some_iff.mp hv).1
      refine ⟨v, ?_, hr⟩
      rw [← hv, ← g4 i hi]
      obtain ⟨b, o, sp⟩ := a
      simp only at hspot
      subst hspot
      rw [add_eq, add_eq]
    · rw [List.flatten_append, List.length_append, h4]
      simp only [List.flatten_cons, List.flatten_nil, List.append_nil]
      rw [← g2.length, g3, Nat.succ_mul]
theorem read_ok {H : Type} {enc : TypeId × Value → H} {base : Nat} {held : Bool} : ∀ (d : Nat) (t : TypeId), okT P d t = true → ∀ (fuel : Nat) (cs : List Value) (x : DataW H × List MemPlace),
    DataW.trod enc P w base (fun _ => true) held fuel t cs = some x → ∃ xs, Shape P d t xs ∧ VRs (startE w) w xs cs ∧ cs.length = P.cellsOf t
  | 0, _, h => by cases h
  | d + 1, t, h => fun fuel cs x hx => by
    have ih := read_ok (H := H) (enc := enc) (base := base) (held := held) d
    unfold okT at h
    unfold Shape
    cases hu : P.underlying t with
    | none => rw [hu] at h; cases h
    | some td =>
      rw [hu] at h
      cases td <;> simp only at h ⊢ <;> try (cases h; done)
      case bool =>
        obtain ⟨b, rfl, rfl⟩ := DataW.trod_bool hu hx
        exact ⟨_, ⟨b, rfl⟩, by simp only [VRs, VR]; exact ⟨_, _, rfl, rfl, rfl⟩, (of_decide_eq_true h).symm⟩
      case int k =>
        obtain ⟨n, rfl, rfl, hw⟩ := DataW.trod_int hu hx
        exact ⟨_, ⟨n, rfl, hw⟩, by simp only [VRs, VR]; exact ⟨_, _, rfl, rfl, rfl⟩, (of_decide_eq_true h).symm⟩
      case string =>
        obtain ⟨s, rfl, rfl, hs⟩ := DataW.trod_string hu hx
        refine ⟨_, ⟨s.data.toList.map UInt8.toNat, rfl, by simpa using hs, fun b hb => ?_⟩, by simp only [VRs, VR]; exact ⟨_, _, rfl, ⟨s, rfl, rfl⟩, rfl⟩, (of_decide_eq_true h).symm⟩
        obtain ⟨c, _, rfl⟩ := List.mem_map.mp hb
        exact c.toNat_lt
      case slice el =>
        simp only [Bool.and_eq_true, decide_eq_true_eq] at h
        obtain ⟨h1, hpos, hel⟩ := h
        rcases DataW.trod_slice hu hx with ⟨rfl, _⟩ | ⟨a, len, cap, elems, rest, n, _, rfl, rfl, hb, hl, hm, hlen, hE, hR, _⟩
        · exact ⟨_, .inl rfl, by simp only [VRs, VR]; exact ⟨_, _, rfl, rfl, rfl⟩, h1.symm⟩
        · obtain ⟨hrl, hR⟩ := hR rfl
          have hrow : ∀ i, i < cap → ∃ cs' y, w.cells? base (a.add (i * P.cellsOf el)) (P.cellsOf el) = some cs' ∧ DataW.trod enc P w base (fun _ => true) held n el cs' = some y := fun i hi => by
            by_cases hil : i < len
            · have := hE i hil
              rw [List.getElem?_eq_getElem (by omega), Option.bind_eq_some_iff] at this
              obtain ⟨cs', h1, h2⟩ := this
              exact ⟨cs', _, h1, h2⟩
            · have := hR (i - len) (by omega)
              rw [List.getElem?_eq_getElem (by omega), Option.bind_eq_some_iff, show len + (i - len) = i by omega] at this
              obtain ⟨cs', h1, h2⟩ := this
              exact ⟨cs', _, h1, h2⟩
          have hspot : a.spot = none ∨ cap = 0 := by
            by_cases hc : cap = 0
            · exact .inr hc
            · left
              obtain ⟨cs', y, h1, _⟩ := hrow 0 (by omega)
              obtain ⟨_, h2, h3⟩ := World.cells?_some h1
              have := h3 0 (by omega)
              rw [Nat.zero_mul, List.getElem?_eq_getElem (by omega)] at this
              obtain ⟨b, o, sp⟩ := a
              cases sp with
              | none => rfl
              | some s =>
                exfalso
                have hz : ((⟨b, o, some s⟩ : Addr).add 0).add 0 = ⟨b, o, some s⟩ := rfl
                rw [hz] at this
                unfold World.cell? at this
                split at this
                · simp at this
                · cases this
          by_cases hlz : len = 0
          · subst hlz
            obtain ⟨b, o, sp⟩ := a
            refine ⟨_, .inr ⟨[], rfl, Nat.zero_le _, fun x hx => (by cases hx)⟩, ?_, h1.symm⟩
            simp only [VRs, VR, List.flatten_nil, VM]
            refine ⟨_, _, rfl, ⟨b, o, sp, cap, rfl, ?_, Nat.zero_le _, fun h => (by cases h), fun h => (by cases h), trivial⟩, rfl⟩
            rcases hspot with h | h
            · exact .inl h
            · exact .inr ⟨h, trivial⟩
          · have hsp : a.spot = none := hspot.elim id fun h => by omega
            obtain ⟨es, g1, g2, g3, g4⟩ := rows_ok (P := P) (w := w) (d := d) (el := el) (a := a) (n := P.cellsOf el) rfl hsp (fun _ _ => trivial) (len := len) (fun i hi => by
              obtain ⟨cs', y, k1, k2⟩ := hrow i (by omega)
              obtain ⟨xs, k3, k4, k5⟩ := ih el hel _ _ _ k2
              exact ⟨xs, cs', k3, k4, k5, (World.cells?_some k1).2.2⟩) len (Nat.le_refl _)
            refine ⟨_, .inr ⟨es, rfl, by omega, g2⟩, ?_, h1.symm⟩
            obtain ⟨b, o, sp⟩ := a
            simp only at hsp
            subst hsp
            simp only [VRs, VR]
            exact ⟨_, _, rfl, ⟨b, o, none, cap, by rw [g1], .inl rfl, by omega, fun h => (by cases h), fun h => (by cases h), g3⟩, rfl⟩
      case struct fs =>
        simp only [Bool.and_eq_true, beq_iff_eq, List.all_eq_true] at h
        obtain ⟨ho, hf⟩ := h
        obtain ⟨xs, n, rfl, rfl, hl, hxl, hget⟩ := DataW.trod_struct hu hx
        obtain ⟨ys, h1, h2⟩ := fields_ok (P := P) (w := w) (d := d) (cs := cs) (good := fun t seg => okT P d t = true ∧ ∃ y, DataW.trod enc P w base (fun _ => true) held n t seg = some y)
          (fun t seg ⟨h1, y, h2⟩ => ih t h1 _ _ _ h2) fs.toList 0 _ ho hl (fun f hm => by
            obtain ⟨i, hi⟩ := List.getElem?_of_mem hm
            have := hget i f (by rw [← Array.getElem?_toList]; exact hi)
            have hlt : i < fs.size := by simpa using (List.getElem?_eq_some_iff.mp hi).1
            rw [List.getElem?_eq_getElem (by omega)] at this
            exact ⟨hf f hm, _, this⟩)
        exact ⟨ys, h1, by simpa using h2, hl⟩
/-- a parameter that is no struct: one cell -/
theorem trod_ok {H : Type} {enc : TypeId × Value → H} {base : Nat} {held : Bool} {d : Nat} {t : TypeId} (h : okT P d t = true) {v : Value} {x : DataW H} {ps : List MemPlace} (hx : DataW.Trod enc P w base (fun _ => true) held t v x ps) :
    ∃ xs, Shape P d t xs ∧ VRs (startE w) w xs v.cells.toList := by
  obtain ⟨fuel, hf⟩ := hx
  obtain ⟨xs, h1, h2, _⟩ := read_ok d t h _ _ _ hf
  exact ⟨xs, h1, h2⟩
theorem run_callFunc {f : Nat} {fn : Func} {vs : Array Value} (hf : P.funcs[f]? = some fn) (hb : fn.body.isNone = false) (hn : (fn.name == "runtime.NumGoroutine") = false) : (callFunc f vs).run P w = .ok (.enter f vs) w := by
  unfold callFunc
  show Sem.run P ((program).bind _) w = _
  have hn' : ¬ fn.name = "runtime.NumGoroutine" := by simpa using hn
  have hb' : fn.body ≠ none := fun h => by rw [h] at hb; cases hb
  simp [program, Sem.bind, Sem.run, hf, hn', hb', pure]
/-- **A law's call, out of its abstract run.** -/
theorem top_calls {cfg : Cfg} (hm : P.follows .mixedOrders = true) (hx : ExtOk cfg P) {n f : Nat} {fn : Func} {xs : List AV} {vs : Array Value} {H' : AHeap} (hf : P.funcs[f]? = some fn) (hb : fn.body.isNone = false) (hn : (fn.name == "runtime.NumGoroutine") = false)
    (hv : VRs (startE w) w xs vs.toList) (h : evCall cfg P n f xs emptyH = some (.ret (.bool true), H')) : Calls P f vs w fun e w' => e = .returned (.bool true) ∧ RowKit.Below w.heap.size w w' := by
  have := evCall_ok hm hx startE_inv hv h
  rw [run_callFunc hf hb hn] at this
  refine Calls.mono this fun en w' hr => ?_
  cases en with
  | returned v =>
    obtain ⟨x, e', hx, hle, _, hvr⟩ := hr
    cases hx
    simp only [VR] at hvr
    exact ⟨by rw [hvr], ⟨hle.os, hle.tape, hle.output, hle.size, hle.low⟩⟩
  | panicked ch => obtain ⟨x, v, e', hx, _⟩ := hr; cases hx
  | outgrown => exact hr.elim
end Go.Proofs.Ytcjfjfhggfcnfaa.Am
