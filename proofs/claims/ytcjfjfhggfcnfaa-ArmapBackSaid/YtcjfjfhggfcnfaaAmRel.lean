/- What it means that an abstract state is a world's: values, objects, and how both go on. -/
import Derived.Test.YtcjfjfhggfcnfaaAmNum
import Derived.Calls
set_option linter.unusedSimpArgs false
set_option linter.unusedVariables false
namespace Go.Proofs.Ytcjfjfhggfcnfaa.Am
open Go

/-- Which block a family's version lies in, how many cells that has, how far the version reaches; the blocks of callers above; the blocks that were there ahead of all. -/
structure Env where
  β : Nat → Nat → Option (Nat × Nat × Nat)
  out : Nat → Prop
  base : Nat

def Env.own (e : Env) (b : Nat) : Prop := ∃ id ver n x, e.β id ver = some (b, n, x)

mutual
def VR (e : Env) (w : World) : AV → Value → Prop
  | .int k n, v => v = .int k n
  | .bool b, v => v = .bool b
  | .str s, v => ∃ t : ByteArray, v = .string t ∧ t.data.toList.map UInt8.toNat = s
  | .agg cs, v => ∃ a : Array Value, v = .agg a ∧ VRs e w cs a.toList
  | .tup cs, v => ∃ a : Array Value, v = .tuple a ∧ VRs e w cs a.toList
  | .nilp, v => v = .pointer none
  | .ptr id ver off, v => ∃ b n x, e.β id ver = some (b, n, x) ∧ v = .pointer (some ⟨b, off, none⟩)
  | .gptr g off, v => v = .pointer (some ⟨g, off, none⟩)
  | .vptr cs, v => ∃ b o, v = .pointer (some ⟨b, o, none⟩) ∧ VM e w cs b o
  | .nils, v => v = .slice none 0 0
  | .sl id ver off len esz cap, v => ∃ b n x o c, e.β id ver = some (b, n, x) ∧ v = .slice (some ⟨b, o, none⟩) len c ∧ len ≤ c ∧ off + len * esz ≤ x ∧ (∀ c', cap = some c' → c = c') ∧ ((o = off ∧ off + c * esz ≤ n) ∨ (len = 0 ∧ c = 0))
  | .vsl cs len capped fresh, v => ∃ b o sp c, v = .slice (some ⟨b, o, sp⟩) len c ∧ (sp = none ∨ (c = 0 ∧ fresh = false)) ∧ len ≤ c ∧ (capped = true → c = len) ∧ (fresh = true → e.base ≤ b) ∧ VM e w cs b o
  | .nilm, v => v = .map none
  | .map id, v => ∃ b n x, e.β id 0 = some (b, n, x) ∧ v = .map (some b)
  | .fn f first captured, v => ∃ a c : Array Value, v = .func (.func f) a c ∧ VRs e w first a.toList ∧ VRs e w captured c.toList
  | .nilf, v => v = .nilFunc
  | .iface t x, v => ∃ u, v = .iface t u ∧ VR e w x u
  | .nili, v => v = .nilIface
  | .opq, _ => True
def VRs (e : Env) (w : World) : List AV → List Value → Prop
  | [], vs => vs = []
  | c :: cs, vs => ∃ u us, vs = u :: us ∧ VR e w c u ∧ VRs e w cs us
def VM (e : Env) (w : World) : List AV → Nat → Nat → Prop
  | [], _, _ => True
  | c :: cs, b, o => ¬ e.own b ∧ ¬ e.out b ∧ (∃ u, w.cell? ⟨b, o, none⟩ = some u ∧ VR e w c u) ∧ VM e w cs b (o + 1)
end

def unfroz (f : Nat × Nat) (n : Nat) : Prop := f.1 = f.2 ∨ n ≤ f.1
/-- Two objects alike but for which cells a string shares. -/
def AlikeObj (o o' : Option Obj) : Prop := (∃ c t f f', o = some (.cells c t f) ∧ o' = some (.cells c t f') ∧ (unfroz f c.size → unfroz f' c.size)) ∨ o' = o

theorem AlikeObj.rfl' (o : Option Obj) : AlikeObj o o := .inr rfl
theorem AlikeObj.trans {a b c : Option Obj} (h : AlikeObj a b) (k : AlikeObj b c) : AlikeObj a c := by
  rcases h with ⟨x, t, f, f', rfl, rfl, hf⟩ | rfl
  · rcases k with ⟨x', t', g, g', h1, rfl, hg⟩ | rfl
    · simp only [Option.some.injEq, Obj.cells.injEq] at h1
      obtain ⟨rfl, rfl, rfl⟩ := h1
      exact .inl ⟨_, _, _, _, rfl, rfl, fun h => hg (hf h)⟩
    · exact .inl ⟨_, _, _, _, rfl, rfl, hf⟩
  · exact k

/-- How a state goes on. -/
structure Le (e : Env) (w : World) (e' : Env) (w' : World) : Prop where
  β : ∀ id ver r, e.β id ver = some r → e'.β id ver = some r
  new : ∀ b, e'.own b → e.own b ∨ w.heap.size ≤ b
  out : e'.out = e.out
  base : e'.base = e.base
  size : w.heap.size ≤ w'.heap.size
  keep : ∀ b, b < w.heap.size → ¬ e.own b → AlikeObj w.heap[b]? w'.heap[b]?
  low : ∀ b, b < e.base → w'.heap[b]? = w.heap[b]?
  os : w'.os = w.os
  tape : w'.tape = w.tape
  output : w'.output = w.output

theorem Le.refl (e : Env) (w : World) : Le e w e w :=
  ⟨fun _ _ _ h => h, fun _ h => .inl h, rfl, rfl, Nat.le_refl _, fun _ _ _ => .inr rfl, fun _ _ => rfl, rfl, rfl, rfl⟩
theorem Le.trans {e e' e'' : Env} {w w' w'' : World} (h : Le e w e' w') (k : Le e' w' e'' w'') : Le e w e'' w'' where
  β := fun id ver r hr => k.β _ _ _ (h.β _ _ _ hr)
  new := fun b hb => by
    rcases k.new b hb with h1 | h1
    · exact h.new b h1
    · exact .inr (Nat.le_trans h.size h1)
  out := k.out.trans h.out
  base := k.base.trans h.base
  size := Nat.le_trans h.size k.size
  keep := fun b hb hn => (h.keep b hb hn).trans (k.keep b (Nat.lt_of_lt_of_le hb h.size) (fun h1 => by
    rcases h.new b h1 with h2 | h2
    · exact hn h2
    · omega))
  low := fun b hb => (k.low b (by rw [h.base]; exact hb)).trans (h.low b hb)
  os := k.os.trans h.os
  tape := k.tape.trans h.tape
  output := k.output.trans h.output

theorem cell_lt {w : World} {a : Addr} {u : Value} (h : w.cell? a = some u) : a.block < w.heap.size := by
  unfold World.cell? at h
  by_cases hb : a.block < w.heap.size
  · exact hb
  · rw [Array.getElem?_eq_none (by omega)] at h; simp at h
theorem cell_alike {w w' : World} {a : Addr} (h : AlikeObj w.heap[a.block]? w'.heap[a.block]?) : w'.cell? a = w.cell? a := by
  unfold World.cell?
  rcases h with ⟨c, t, f, f', h1, h2, _⟩ | h
  · rw [h1, h2]
  · rw [h]

/-- What is so stays so. -/
theorem le_cell {e e' : Env} {w w' : World} (h : Le e w e' w') {b o : Nat} {u : Value} (hb : ¬ e.own b) (hc : w.cell? ⟨b, o, none⟩ = some u) : w'.cell? ⟨b, o, none⟩ = some u ∧ ¬ e'.own b := by
  have hlt := cell_lt hc
  refine ⟨(cell_alike (h.keep b hlt hb)).trans hc, fun h1 => ?_⟩
  rcases h.new b h1 with h2 | h2
  · exact hb h2
  · simp at hlt; omega
mutual
theorem VR.mono {e e' : Env} {w w' : World} (h : Le e w e' w') : ∀ (x : AV) (v : Value), VR e w x v → VR e' w' x v
  | .int .., _ | .bool _, _ | .str _, _ | .nilp, _ | .gptr .., _ | .nils, _ | .nilm, _ | .nilf, _ | .nili, _ | .opq, _ => fun hv => by first | trivial | simpa only [VR] using hv
  | .agg cs, v => fun hv => by
    simp only [VR] at hv ⊢
    obtain ⟨a, rfl, ha⟩ := hv
    exact ⟨a, rfl, VRs.mono h cs _ ha⟩
  | .tup cs, v => fun hv => by
    simp only [VR] at hv ⊢
    obtain ⟨a, rfl, ha⟩ := hv
    exact ⟨a, rfl, VRs.mono h cs _ ha⟩
  | .ptr .., v => fun hv => by
    simp only [VR] at hv ⊢
    obtain ⟨b, n, x, hb, rfl⟩ := hv
    exact ⟨b, n, x, h.β _ _ _ hb, rfl⟩
  | .vptr cs, v => fun hv => by
    simp only [VR] at hv ⊢
    obtain ⟨b, o, rfl, hm⟩ := hv
    exact ⟨b, o, rfl, VM.mono h cs b o hm⟩
  | .sl .., v => fun hv => by
    simp only [VR] at hv ⊢
    obtain ⟨b, n, x, o, c, hb, rest⟩ := hv
    exact ⟨b, n, x, o, c, h.β _ _ _ hb, rest⟩
  | .vsl cs .., v => fun hv => by
    simp only [VR] at hv ⊢
    obtain ⟨b, o, sp, c, rfl, h0, h1, h2, h3, hm⟩ := hv
    exact ⟨b, o, sp, c, rfl, h0, h1, h2, by rw [h.base]; exact h3, VM.mono h cs b o hm⟩
  | .map _, v => fun hv => by
    simp only [VR] at hv ⊢
    obtain ⟨b, n, x, hb, rfl⟩ := hv
    exact ⟨b, n, x, h.β _ _ _ hb, rfl⟩
  | .fn _ as cs, v => fun hv => by
    simp only [VR] at hv ⊢
    obtain ⟨a, c, rfl, ha, hc⟩ := hv
    exact ⟨a, c, rfl, VRs.mono h as _ ha, VRs.mono h cs _ hc⟩
  | .iface _ x, v => fun hv => by
    simp only [VR] at hv ⊢
    obtain ⟨u, rfl, hu⟩ := hv
    exact ⟨u, rfl, VR.mono h x u hu⟩
theorem VRs.mono {e e' : Env} {w w' : World} (h : Le e w e' w') : ∀ (xs : List AV) (vs : List Value), VRs e w xs vs → VRs e' w' xs vs
  | [], _ => fun hv => by simpa only [VRs] using hv
  | x :: xs, vs => fun hv => by
    simp only [VRs] at hv ⊢
    obtain ⟨u, us, rfl, hu, hus⟩ := hv
    exact ⟨u, us, rfl, VR.mono h x u hu, VRs.mono h xs us hus⟩
theorem VM.mono {e e' : Env} {w w' : World} (h : Le e w e' w') : ∀ (xs : List AV) (b o : Nat), VM e w xs b o → VM e' w' xs b o
  | [], _, _ => fun _ => by simp only [VM]
  | x :: xs, b, o => fun hv => by
    simp only [VM] at hv ⊢
    obtain ⟨h1, h2, ⟨u, hu, hx⟩, hr⟩ := hv
    obtain ⟨h3, h4⟩ := le_cell h h1 hu
    exact ⟨h4, by rw [h.out]; exact h2, ⟨u, h3, VR.mono h x u hx⟩, VM.mono h xs b (o + 1) hr⟩
end

/-! Lists of values. -/
theorem VRs.length {e : Env} {w : World} : ∀ {xs : List AV} {vs : List Value}, VRs e w xs vs → vs.length = xs.length
  | [], _, h => by simp only [VRs] at h; simp [h]
  | x :: xs, _, h => by
    simp only [VRs] at h
    obtain ⟨u, us, rfl, _, h2⟩ := h
    simp [VRs.length h2]
theorem VRs.get {e : Env} {w : World} : ∀ {xs : List AV} {vs : List Value} (_ : VRs e w xs vs) (i : Nat) (x : AV), xs[i]? = some x → ∃ v, vs[i]? = some v ∧ VR e w x v
  | [], _, _, i, x, hx => by simp at hx
  | y :: ys, _, h, i, x, hx => by
    simp only [VRs] at h
    obtain ⟨u, us, rfl, h1, h2⟩ := h
    cases i with
    | zero => simp at hx; subst hx; exact ⟨u, rfl, h1⟩
    | succ i => exact VRs.get h2 i x (by simpa using hx)
theorem VRs.of_get {e : Env} {w : World} : ∀ {xs : List AV} {vs : List Value}, vs.length = xs.length → (∀ (i : Nat) (x : AV), xs[i]? = some x → ∃ v, vs[i]? = some v ∧ VR e w x v) → VRs e w xs vs
  | [], vs, hl, _ => by simp only [VRs]; exact List.length_eq_zero_iff.mp hl
  | x :: xs, [], hl, _ => by simp at hl
  | x :: xs, v :: vs, hl, h => by
    simp only [VRs]
    refine ⟨v, vs, rfl, ?_, VRs.of_get (by simpa using hl) fun i y hy => ?_⟩
    · obtain ⟨u, hu, hr⟩ := h 0 x rfl
      simp at hu; subst hu; exact hr
    · exact h (i + 1) y (by simpa using hy)
theorem VRs.append {e : Env} {w : World} {xs ys : List AV} {vs us : List Value} (h : VRs e w xs vs) (k : VRs e w ys us) : VRs e w (xs ++ ys) (vs ++ us) := by
  have hl := h.length
  refine VRs.of_get (by simp [hl, k.length]) fun i x hx => ?_
  rw [List.getElem?_append] at hx ⊢
  rw [hl]
  by_cases hi : i < xs.length
  · rw [if_pos hi] at hx ⊢; exact h.get i x hx
  · rw [if_neg hi] at hx ⊢; exact k.get _ x hx
theorem VRs.take {e : Env} {w : World} {xs : List AV} {vs : List Value} (h : VRs e w xs vs) (n : Nat) : VRs e w (xs.take n) (vs.take n) := by
  refine VRs.of_get (by simp [h.length]) fun i x hx => ?_
  rw [List.getElem?_take] at hx ⊢
  by_cases hi : i < n
  · rw [if_pos hi] at hx ⊢; exact h.get i x hx
  · rw [if_neg hi] at hx; simp at hx
theorem VRs.drop {e : Env} {w : World} {xs : List AV} {vs : List Value} (h : VRs e w xs vs) (n : Nat) : VRs e w (xs.drop n) (vs.drop n) := by
  refine VRs.of_get (by simp [h.length]) fun i x hx => ?_
  rw [List.getElem?_drop] at hx ⊢
  exact h.get _ x hx
theorem VRs.map {e : Env} {w : World} {α : Type} (f : α → AV) (g : α → Value) (l : List α) (h : ∀ a ∈ l, VR e w (f a) (g a)) : VRs e w (l.map f) (l.map g) := by
  induction l with
  | nil => simp only [List.map_nil, VRs]
  | cons a l ih =>
    simp only [List.map_cons, VRs]
    exact ⟨_, _, rfl, h a (List.mem_cons_self ..), ih fun b hb => h b (List.mem_cons_of_mem _ hb)⟩
theorem VM.get {e : Env} {w : World} : ∀ {xs : List AV} {b o : Nat} (_ : VM e w xs b o) (i : Nat) (x : AV), xs[i]? = some x → ¬ e.own b ∧ ¬ e.out b ∧ ∃ u, w.cell? ⟨b, o + i, none⟩ = some u ∧ VR e w x u
  | [], _, _, _, i, x, hx => by simp at hx
  | y :: ys, b, o, h, i, x, hx => by
    simp only [VM] at h
    obtain ⟨h1, h2, h3, h4⟩ := h
    cases i with
    | zero => simp at hx; subst hx; exact ⟨h1, h2, h3⟩
    | succ i =>
      have := VM.get h4 i x (by simpa using hx)
      rwa [show o + 1 + i = o + (i + 1) by omega] at this
theorem VM.of_get {e : Env} {w : World} : ∀ {xs : List AV} {b o : Nat} (_ : ∀ (i : Nat) (x : AV), xs[i]? = some x → ¬ e.own b ∧ ¬ e.out b ∧ ∃ u, w.cell? ⟨b, o + i, none⟩ = some u ∧ VR e w x u), VM e w xs b o
  | [], _, _, _ => by simp only [VM]
  | x :: xs, b, o, h => by
    simp only [VM]
    obtain ⟨h1, h2, h3⟩ := h 0 x rfl
    refine ⟨h1, h2, h3, VM.of_get fun i y hy => ?_⟩
    have := h (i + 1) y (by simpa using hy)
    rwa [show o + (i + 1) = o + 1 + i by omega] at this
theorem VM.drop {e : Env} {w : World} {xs : List AV} {b o : Nat} (h : VM e w xs b o) (n : Nat) : VM e w (xs.drop n) b (o + n) :=
  VM.of_get fun i x hx => by
    rw [List.getElem?_drop] at hx
    have := h.get _ x hx
    rwa [show o + (n + i) = o + n + i by omega] at this
theorem VM.take {e : Env} {w : World} {xs : List AV} {b o : Nat} (h : VM e w xs b o) (n : Nat) : VM e w (xs.take n) b o :=
  VM.of_get fun i x hx => by
    rw [List.getElem?_take] at hx
    by_cases hi : i < n
    · rw [if_pos hi] at hx; exact h.get _ x hx
    · rw [if_neg hi] at hx; simp at hx
end Go.Proofs.Ytcjfjfhggfcnfaa.Am
