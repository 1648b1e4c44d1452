/- Values without memory behind them go from one state to another; values are frozen; a call with a heap of its own. -/
import Derived.Test.YtcjfjfhggfcnfaaAmStep
set_option linter.unusedSimpArgs false
set_option linter.unusedVariables false
namespace Go.Proofs.Ytcjfjfhggfcnfaa.Am
open Go
variable {P : Program} {w : World} {e e2 : Env} {H H' : AHeap}

/-- what another's state lets be seen -/
structure Sees (e e2 : Env) : Prop where
  base : e2.base = e.base
  view : ∀ b, ¬ e.own b → ¬ e.out b → ¬ e2.own b ∧ ¬ e2.out b

theorem omap_map {α β : Type} {f : α → Option β} : ∀ {l : List α} {m : List β}, omap f l = some m → m.length = l.length ∧ ∀ (i : Nat) (y : β), m[i]? = some y → ∃ x, l[i]? = some x ∧ f x = some y
  | [], m, h => by rw [omap_nil] at h; cases h; exact ⟨rfl, fun i y hy => by simp at hy⟩
  | a :: l, m, h => by
    change Option.casesOn (f a) none (fun b => Option.casesOn (omap f l) none (fun bs => some (b :: bs))) = some m at h
    cases hf : f a with
    | none => rw [hf] at h; cases h
    | some b =>
      rw [hf] at h
      cases hm : omap f l with
      | none => rw [hm] at h; cases h
      | some bs =>
        rw [hm] at h
        cases h
        obtain ⟨h1, h2⟩ := omap_map hm
        refine ⟨by simp [h1], fun i y hy => ?_⟩
        cases i with
        | zero => simp at hy; subst hy; exact ⟨a, rfl, hf⟩
        | succ i => simpa using h2 i y (by simpa using hy)

theorem VRs.turn {w2 : World} {xs ys : List AV} {vs : List Value} (h : VRs e w xs vs) (hl : ys.length = xs.length) (hk : ∀ (i : Nat) (y : AV), ys[i]? = some y → ∃ x, xs[i]? = some x ∧ ∀ v, VR e w x v → VR e2 w2 y v) : VRs e2 w2 ys vs :=
  VRs.of_get (by rw [h.length, hl]) fun i y hy => by
    obtain ⟨x, hx, hr⟩ := hk i y hy
    obtain ⟨v, hv, hvr⟩ := h.get i x hx
    exact ⟨v, hv, hr v hvr⟩
theorem VM.turn {xs ys : List AV} {b o : Nat} (hs : Sees e e2) (h : VM e w xs b o) (hk : ∀ (i : Nat) (y : AV), ys[i]? = some y → ∃ x, xs[i]? = some x ∧ ∀ v, VR e w x v → VR e2 w y v) : VM e2 w ys b o :=
  VM.of_get fun i y hy => by
    obtain ⟨x, hx, hr⟩ := hk i y hy
    obtain ⟨h1, h2, u, hu, hur⟩ := h.get i x hx
    exact ⟨(hs.view b h1 h2).1, (hs.view b h1 h2).2, u, hu, hr u hur⟩
theorem lall_get {α : Type} {p : α → Bool} {l : List α} (h : lall p l = true) (i : Nat) (x : α) (hx : l[i]? = some x) : p x = true := by
  rw [lall_eq, List.all_eq_true] at h
  exact h x (List.mem_of_getElem? hx)

theorem noRefs_ok (hs : Sees e e2) : ∀ (d : Nat) (x : AV), noRefs d x = true → ∀ v, VR e w x v → VR e2 w x v
  | 0, _, h => by cases h
  | d + 1, x, h => fun v hv => by
    have ih := noRefs_ok hs d
    have ihs : ∀ {cs : List AV}, lall (noRefs d) cs = true → ∀ (i : Nat) (y : AV), cs[i]? = some y → ∃ x, cs[i]? = some x ∧ ∀ v, VR e w x v → VR e2 w y v :=
      fun hc i y hy => ⟨y, hy, ih y (lall_get hc i y hy)⟩
    unfold noRefs at h
    rw [natRec_succ] at h
    cases x <;> simp only at h <;> try (cases h; done)
    case int => simpa only [VR] using hv
    case bool => simpa only [VR] using hv
    case str => simpa only [VR] using hv
    case nilp => simpa only [VR] using hv
    case gptr => simpa only [VR] using hv
    case nils => simpa only [VR] using hv
    case nilm => simpa only [VR] using hv
    case nilf => simpa only [VR] using hv
    case nili => simpa only [VR] using hv
    case opq => simp only [VR]
    case agg cs =>
      simp only [VR] at hv ⊢
      obtain ⟨a, rfl, ha⟩ := hv
      exact ⟨a, rfl, ha.turn rfl (ihs h)⟩
    case tup cs =>
      simp only [VR] at hv ⊢
      obtain ⟨a, rfl, ha⟩ := hv
      exact ⟨a, rfl, ha.turn rfl (ihs h)⟩
    case vptr cs =>
      simp only [VR] at hv ⊢
      obtain ⟨b, o, rfl, hm⟩ := hv
      exact ⟨b, o, rfl, hm.turn hs (ihs h)⟩
    case vsl cs len capped fresh =>
      simp only [VR] at hv ⊢
      obtain ⟨b, o, sp, c, rfl, h0, h1, h2, h3, hm⟩ := hv
      exact ⟨b, o, sp, c, rfl, h0, h1, h2, by rw [hs.base]; exact h3, hm.turn hs (ihs h)⟩
    case fn f p q =>
      split at h
      · rename_i hp
        simp only [VR] at hv ⊢
        obtain ⟨a, c, rfl, ha, hc⟩ := hv
        exact ⟨a, c, rfl, ha.turn rfl (ihs hp), hc.turn rfl (ihs h)⟩
      · cases h
    case iface t y =>
      simp only [VR] at hv ⊢
      obtain ⟨u, rfl, hu⟩ := hv
      exact ⟨u, rfl, ih y h u hu⟩
theorem noRefs_all (hs : Sees e e2) {d : Nat} {xs : List AV} {vs : List Value} (h : lall (noRefs d) xs = true) (hv : VRs e w xs vs) : VRs e2 w xs vs :=
  hv.turn rfl fun i y hy => ⟨y, hy, noRefs_ok hs d y (lall_get h i y hy)⟩

theorem freeze_agg {d : Nat} {cs : List AV} : freeze (d + 1) H (.agg cs) = Option.casesOn (omap (freeze d H) cs) none (fun cs => some (.agg cs)) := rfl
theorem freeze_tup {d : Nat} {cs : List AV} : freeze (d + 1) H (.tup cs) = Option.casesOn (omap (freeze d H) cs) none (fun cs => some (.tup cs)) := rfl
theorem freeze_vptr {d : Nat} {cs : List AV} : freeze (d + 1) H (.vptr cs) = Option.casesOn (omap (freeze d H) cs) none (fun cs => some (.vptr cs)) := rfl
theorem freeze_vsl {d n : Nat} {c f : Bool} {cs : List AV} : freeze (d + 1) H (.vsl cs n c f) = Option.casesOn (omap (freeze d H) cs) none (fun cs => some (.vsl cs n c f)) := rfl
theorem freeze_fn {d f : Nat} {a b : List AV} : freeze (d + 1) H (.fn f a b) = match omap (freeze d H) a, omap (freeze d H) b with
    | some a, some b => some (.fn f a b)
    | _, _ => none := rfl
theorem freeze_iface {d t : Nat} {v : AV} : freeze (d + 1) H (.iface t v) = Option.casesOn (freeze d H v) none (fun v => some (.iface t v)) := rfl
theorem freeze_sl {d id ver off len esz : Nat} {cap : Option Nat} : freeze (d + 1) H (.sl id ver off len esz cap) = match slCells len esz (.sl id ver off len esz cap) H with
    | none => none
    | some cs => Option.casesOn (omap (freeze d H) cs) none (fun cs => some (.vsl cs len (match cap with
      | none => false
      | some c => Nat.beq c len) true)) := rfl

theorem freeze_ok (hI : Inv e H w) (hs : Sees e e2) (hown : ∀ b, e.own b → ¬ e2.own b ∧ ¬ e2.out b) : ∀ (d : Nat) (x y : AV), freeze d H x = some y → ∀ v, VR e w x v → VR e2 w y v
  | 0, _, _, h => by cases h
  | d + 1, x, y, h => fun v hv => by
    have ih := freeze_ok hI hs hown d
    have ihs : ∀ {cs ds : List AV}, omap (freeze d H) cs = some ds → ds.length = cs.length ∧ ∀ (i : Nat) (y : AV), ds[i]? = some y → ∃ x, cs[i]? = some x ∧ ∀ v, VR e w x v → VR e2 w y v :=
      fun hc => ⟨(omap_map hc).1, fun i y hy => let ⟨x, hx, hf⟩ := (omap_map hc).2 i y hy; ⟨x, hx, ih x y hf⟩⟩
    cases x <;> try (cases h; done)
    case int => cases h; simpa only [VR] using hv
    case bool => cases h; simpa only [VR] using hv
    case str => cases h; simpa only [VR] using hv
    case nilp => cases h; simpa only [VR] using hv
    case gptr => cases h; simpa only [VR] using hv
    case nils => cases h; simpa only [VR] using hv
    case nilm => cases h; simpa only [VR] using hv
    case nilf => cases h; simpa only [VR] using hv
    case nili => cases h; simpa only [VR] using hv
    case opq => cases h; simp only [VR]
    case agg cs =>
      rw [freeze_agg] at h
      cases hc : omap (freeze d H) cs with
      | none => rw [hc] at h; cases h
      | some ds =>
        rw [hc] at h
        cases h
        simp only [VR] at hv ⊢
        obtain ⟨a, rfl, ha⟩ := hv
        exact ⟨a, rfl, ha.turn (ihs hc).1 (ihs hc).2⟩
    case tup cs =>
      rw [freeze_tup] at h
      cases hc : omap (freeze d H) cs with
      | none => rw [hc] at h; cases h
      | some ds =>
        rw [hc] at h
        cases h
        simp only [VR] at hv ⊢
        obtain ⟨a, rfl, ha⟩ := hv
        exact ⟨a, rfl, ha.turn (ihs hc).1 (ihs hc).2⟩
    case vptr cs =>
      rw [freeze_vptr] at h
      cases hc : omap (freeze d H) cs with
      | none => rw [hc] at h; cases h
      | some ds =>
        rw [hc] at h
        cases h
        simp only [VR] at hv ⊢
        obtain ⟨b, o, rfl, hm⟩ := hv
        exact ⟨b, o, rfl, hm.turn hs (ihs hc).2⟩
    case vsl cs len capped fresh =>
      rw [freeze_vsl] at h
      cases hc : omap (freeze d H) cs with
      | none => rw [hc] at h; cases h
      | some ds =>
        rw [hc] at h
        cases h
        simp only [VR] at hv ⊢
        obtain ⟨b, o, sp, c, rfl, h0, h1, h2, h3, hm⟩ := hv
        exact ⟨b, o, sp, c, rfl, h0, h1, h2, by rw [hs.base]; exact h3, hm.turn hs (ihs hc).2⟩
    case fn f p q =>
      rw [freeze_fn] at h
      split at h
      · rename_i p' q' hp hq
        cases h
        simp only [VR] at hv ⊢
        obtain ⟨a, c, rfl, ha, hc⟩ := hv
        exact ⟨a, c, rfl, ha.turn (ihs hp).1 (ihs hp).2, hc.turn (ihs hq).1 (ihs hq).2⟩
      · cases h
    case iface t z =>
      rw [freeze_iface] at h
      cases hc : freeze d H z with
      | none => rw [hc] at h; cases h
      | some z' =>
        rw [hc] at h
        cases h
        simp only [VR] at hv ⊢
        obtain ⟨u, rfl, hu⟩ := hv
        exact ⟨u, rfl, ih z z' hc u hu⟩
    case sl id ver off len esz cap =>
      rw [freeze_sl] at h
      cases hcs : slCells len esz (.sl id ver off len esz cap) H with
      | none => rw [hcs] at h; cases h
      | some cs =>
        rw [hcs] at h
        simp only at h
        cases hc : omap (freeze d H) cs with
        | none => rw [hc] at h; cases h
        | some ds =>
          rw [hc] at h
          cases h
          simp only [slCells] at hcs
          split at hcs
          · cases ho : H.get id with
            | none => rw [ho] at hcs; cases hcs
            | some o =>
              simp only [ho] at hcs
              obtain ⟨cells, low, cur, exts, rfl, g1, g2, g3, rfl⟩ := rdArr_some hcs
              obtain ⟨b, m, c, t, f, k⟩ := (hI.obj _ _ ho).2.2 ver g1 g2
              simp only [VR] at hv ⊢
              obtain ⟨b', N, X, o, c', hβ, rfl, hlen, hX, hcap, ho'⟩ := hv
              rw [k.β] at hβ
              simp only [Option.some.injEq, Prod.mk.injEq] at hβ
              obtain ⟨rfl, rfl, rfl⟩ := hβ
              obtain ⟨vs, hl, hcc, hr⟩ := k.read g3
              have hob : e.own b := ⟨_, _, _, _, k.β⟩
              refine ⟨b, o, none, c', rfl, .inl rfl, hlen, fun hh => ?_, fun _ => ?_, VM.of_get fun i y hy => ?_⟩
              · cases cap with
                | none => cases hh
                | some cp => exact (hcap cp rfl).trans (Nat.eq_of_beq_eq_true hh)
              · rw [hs.base]; exact (hI.own _ _ _ _ _ k.β).2.1
              · obtain ⟨x, hx, hxy⟩ := (ihs hc).2 i y hy
                obtain ⟨u, hu, hur⟩ := hr.get i x hx
                refine ⟨(hown b hob).1, (hown b hob).2, u, ?_, hxy u hur⟩
                rcases ho' with ⟨rfl, _⟩ | ⟨rfl, _⟩
                · exact hcc i u hu
                · exfalso
                  have : vs = [] := by rw [← List.length_eq_zero_iff, hl]; simp
                  subst this; simp at hu
          · cases hcs
theorem freeze_all (hI : Inv e H w) (hs : Sees e e2) (hown : ∀ b, e.own b → ¬ e2.own b ∧ ¬ e2.out b) {d : Nat} {xs ys : List AV} {vs : List Value} (h : omap (freeze d H) xs = some ys) (hv : VRs e w xs vs) : VRs e2 w ys vs :=
  hv.turn (omap_map h).1 fun i y hy => let ⟨x, hx, hf⟩ := (omap_map h).2 i y hy; ⟨x, hx, freeze_ok hI hs hown d x y hf⟩
theorem plain_ok {w2 : World} : ∀ (d : Nat) (x : AV), plainA d x = true → ∀ v, VR e w x v → VR e2 w2 x v
  | 0, _, h => by cases h
  | d + 1, x, h => fun v hv => by
    have ih := plain_ok (w2 := w2) d
    have ihs : ∀ {cs : List AV}, lall (plainA d) cs = true → ∀ (i : Nat) (y : AV), cs[i]? = some y → ∃ x, cs[i]? = some x ∧ ∀ v, VR e w x v → VR e2 w2 y v :=
      fun hc i y hy => ⟨y, hy, ih y (lall_get hc i y hy)⟩
    unfold plainA at h
    rw [natRec_succ] at h
    cases x <;> simp only at h <;> try (cases h; done)
    case int => simpa only [VR] using hv
    case bool => simpa only [VR] using hv
    case str => simpa only [VR] using hv
    case agg cs =>
      simp only [VR] at hv ⊢
      obtain ⟨a, rfl, ha⟩ := hv
      exact ⟨a, rfl, ha.turn rfl (ihs h)⟩
    case tup cs =>
      simp only [VR] at hv ⊢
      obtain ⟨a, rfl, ha⟩ := hv
      exact ⟨a, rfl, ha.turn rfl (ihs h)⟩

/-! A call with a heap of its own. -/
theorem VerOk.alike {w' : World} (h : Le e w e w') {id : Nat} {cells : List AV} {cur ver x b n : Nat} {c : Array Value} {t : TypeId} {f : Nat × Nat}
    (hb : AlikeObj w.heap[b]? w'.heap[b]?) (k : VerOk e w id cells cur ver x b n c t f) : ∃ f', VerOk e w' id cells cur ver x b n c t f' := by
  have hg : ∀ (i : Nat) (y : AV), i < x → cells[i]? = some y → ∃ u, c[i]? = some u ∧ VR e w' y u := fun i y hi hy => let ⟨u, hu, hr⟩ := k.get i y hi hy; ⟨u, hu, VR.mono h _ _ hr⟩
  rcases hb with ⟨c', t', f1, f2, h1, h2, h3⟩ | hb
  · rw [k.heap] at h1
    simp only [Option.some.injEq, Obj.cells.injEq] at h1
    obtain ⟨rfl, rfl, rfl⟩ := h1
    exact ⟨f2, k.β, k.len, k.top, k.room, h2, k.size, by have := h3 (by rw [k.size]; exact k.free); rwa [k.size] at this, hg⟩
  · exact ⟨f, k.β, k.len, k.top, k.room, hb.trans k.heap, k.size, k.free, hg⟩
theorem ObjOk.alike {w' : World} (h : Le e w e w') {id : Nat} (hb : ∀ ver b n x, e.β id ver = some (b, n, x) → AlikeObj w.heap[b]? w'.heap[b]?) {o : AObj} (k : ObjOk e w id o) : ObjOk e w' id o := by
  cases o with
  | arr cells low cur exts =>
    refine ⟨k.1, k.2.1, fun ver h1 h2 => ?_⟩
    obtain ⟨b, n, c, t, f, hk⟩ := k.2.2 ver h1 h2
    obtain ⟨f', hk'⟩ := hk.alike h (hb _ _ _ _ hk.β)
    exact ⟨b, n, c, t, f', hk'⟩
  | map es clock =>
    obtain ⟨b, n, x, cs, h1, h2, h3⟩ := k
    refine ⟨b, n, x, cs, h1, ?_, h3.mono h⟩
    rcases hb _ _ _ _ h1 with ⟨c', t', f1, f2, g1, _, _⟩ | g
    · rw [h2] at g1; cases g1
    · exact g.trans h2
  | iter s pos =>
    obtain ⟨b, n, x, t, h1, h2, h3⟩ := k
    refine ⟨b, n, x, t, h1, ?_, h3⟩
    rcases hb _ _ _ _ h1 with ⟨c', t', f1, f2, g1, _, _⟩ | g
    · rw [h2] at g1; cases g1
    · exact g.trans h2

def emptyH : AHeap := { tr := .leaf, next := 0 }
def Env.inner (e : Env) (o : Nat → Prop) : Env := { β := fun _ _ => none, out := o, base := e.base }
theorem inner_own {o : Nat → Prop} {b : Nat} : ¬ (e.inner o).own b := fun ⟨_, _, _, _, h⟩ => by cases h
theorem inner_inv (hI : Inv e H w) {o : Nat → Prop} (ho : ∀ b, o b → b < w.heap.size) : Inv (e.inner o) emptyH w where
  own := fun _ _ _ _ _ h => by cases h
  inj := fun _ _ _ _ _ _ _ _ _ h => by cases h
  obj := fun id o h => by
    change Tr.get .leaf id = some o at h
    rw [Tr.get_leaf] at h; cases h
  base := hI.base
  out := ho
theorem inner_le {o : Nat → Prop} {e' : Env} {w' : World} (h : Le (e.inner o) w e' w') : Le e w e w' where
  β := fun _ _ _ h => h
  new := fun _ h => .inl h
  out := rfl
  base := rfl
  size := h.size
  keep := fun b hb _ => h.keep b hb inner_own
  low := h.low
  os := h.os
  tape := h.tape
  output := h.output
theorem inner_back {o : Nat → Prop} {e' : Env} {w' : World} (hI : Inv e H w) (h : Le (e.inner o) w e' w') : Inv e H w' where
  own := fun id ver b n x hb => let ⟨h1, h2⟩ := hI.own id ver b n x hb; ⟨Nat.lt_of_lt_of_le h1 h.size, h2⟩
  inj := hI.inj
  obj := fun id ob ho => (hI.obj id ob ho).alike (inner_le h) fun ver b n x hb => h.keep b (hI.own _ _ _ _ _ hb).1 inner_own
  base := Nat.le_trans hI.base h.size
  out := fun b hb => Nat.lt_of_lt_of_le (hI.out b hb) h.size
end Go.Proofs.Ytcjfjfhggfcnfaa.Am
