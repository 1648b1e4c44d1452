/- Functions entered, operations of any kind, regions in their own order. -/
import Derived.Test.YtcjfjfhggfcnfaaAmFree
import Derived.Laws.Sem
import Derived.LoopN
import Derived.Orders
set_option linter.unusedSimpArgs false
set_option linter.unusedVariables false
namespace Go.Proofs.Ytcjfjfhggfcnfaa.Am
open Go
variable {P : Program} {w : World} {e : Env} {H H' : AHeap} {cfg : Cfg} {ih : Code → ATmps → AHeap → CodeR}

def RetIs (e : Env) (w : World) (H' : AHeap) (o : AOut) : Ending → World → Prop
  | .returned v, w' => ∃ x e', o = .ret x ∧ Le e w e' w' ∧ Inv e' H' w' ∧ VR e' w' x v
  | .panicked ch, w' => ∃ x v e', o = .pan x ∧ ch = [{ v, recovered := false }] ∧ Le e w e' w' ∧ Inv e' H' w' ∧ VR e' w' x v
  | .outgrown, _ => False
def ExIs (e : Env) (w : World) : AExit → Exit → Prop
  | .normal, .normal => True
  | .exit i, .exit j => i = j
  | .ret, .ret => True
  | .pan x, .panic ch => ∃ v, ch = [{ v, recovered := false }] ∧ VR e w x v
  | _, _ => False
def Post (e : Env) (w : World) (n : Nat) (D : List Deferred) (r : AExit × ATmps × AHeap) : Exit → Act → World → Prop := fun ex a' w' =>
  ∃ e', Le e w e' w' ∧ Inv e' r.2.2 w' ∧ TR e' w' r.2.1 a'.tmps ∧ a'.tmps.size = n ∧ a'.defers = D ∧ ExIs e' w' r.1 ex
def IHOk (P : Program) (ih : Code → ATmps → AHeap → CodeR) : Prop :=
  ∀ c T H r, ih c T H = some r → ∀ n, codeOk n c = true → ∀ D e w a, Inv e H w → TR e w T a.tmps → a.tmps.size = n → a.defers = D → c.wp P (Post e w n D r) a w

/-- what an operation comes to, whatever it is -/
def Fires (P : Program) (e : Env) (w : World) (H' : AHeap) (o : AOut) : Result Next → Prop
  | .ok (.value v) w' => ∃ x e', o = .ret x ∧ Le e w e' w' ∧ Inv e' H' w' ∧ VR e' w' x v
  | .ok .skip w' => ∃ x e', o = .ret x ∧ Le e w e' w' ∧ Inv e' H' w' ∧ VR e' w' x undef
  | .ok (.enter f args) w' => Calls P f args w' (RetIs e w H' o)
  | .halt (.panic v) w' => ∃ x e', o = .pan x ∧ Le e w e' w' ∧ Inv e' H' w' ∧ VR e' w' x v
  | _ => False
def ExtOk (cfg : Cfg) (P : Program) : Prop := ∀ f g, cfg.ext f = some g → ∀ args v, lall (noRefs 24) args = true → g args = some v → noRefs 24 v = true →
  ∀ e H w vs, Inv e H w → VRs e w args vs.toList → Fires P e w H (.ret v) ((callFunc f vs).run P w)

theorem StepOk.fires {s : Sem Next} {x : AV} (h : StepOk P e w s x H') : Fires P e w H' (.ret x) (s.run P w) := by
  obtain ⟨e', w', v, h | ⟨h, rfl⟩, hle, hinv, hv⟩ := h
  · rw [h]; exact ⟨x, e', rfl, hle, hinv, hv⟩
  · rw [h]; exact ⟨x, e', rfl, hle, hinv, hv⟩
theorem Fires.wp {o : Oper} {a : Act} {out : AOut} {next : Act → World → Prop} {Q : Exit → Act → World → Prop} (h : Fires P e w H' out ((execOp a.eval o).run P w))
    (hn : ∀ x v e' w', out = .ret x → Le e w e' w' → Inv e' H' w' → VR e' w' x v → next (a.put o.dst v) w')
    (hp : ∀ x v e' w', out = .pan x → Le e w e' w' → Inv e' H' w' → VR e' w' x v → Q (.panic [{ v, recovered := false }]) a w') : o.wp P a w next Q := by
  unfold Oper.wp
  generalize (execOp a.eval o).run P w = r at h
  cases r with
  | ok n w' =>
    cases n <;> simp only [Fires] at h <;> simp only [Oper.upon]
    case value v => obtain ⟨x, e', rfl, h1, h2, h3⟩ := h; exact hn _ _ _ _ rfl h1 h2 h3
    case skip => obtain ⟨x, e', rfl, h1, h2, h3⟩ := h; exact hn _ _ _ _ rfl h1 h2 h3
    case enter f args =>
      refine h.mono fun en w'' hr => ?_
      cases en with
      | returned v => obtain ⟨x, e', rfl, h1, h2, h3⟩ := hr; exact hn _ _ _ _ rfl h1 h2 h3
      | panicked ch => obtain ⟨x, v, e', rfl, rfl, h1, h2, h3⟩ := hr; exact hp _ _ _ _ rfl h1 h2 h3
      | outgrown => exact hr.elim
  | halt x w' =>
    cases x <;> simp only [Fires] at h <;> simp only [Oper.upon]
    obtain ⟨x, e', rfl, h1, h2, h3⟩ := h
    exact hp _ _ _ _ rfl h1 h2 h3

/-! A function's results. -/
theorem oLoad_run {t : TypeId} {a x : AV} {v : Value} (hI : Inv e H w) (hv : VR e w a v) (h : oLoad P t a H = some (x, H')) : H' = H ∧ ∃ ad u, v = .pointer (some ad) ∧ (loadVar t ad).run P w = .ok u w ∧ VR e w x u := by
  unfold oLoad at h
  cases hA : aggOf P t with
  | none => rw [hA] at h; cases h
  | some b =>
    rw [hA] at h
    cases b
    · cases hr : rdMem 1 a H with
      | none => simp only [hr] at h; cases h
      | some cs =>
        simp only [hr] at h
        match cs, h with
        | [y], h =>
          simp only [Option.some.injEq, Prod.mk.injEq] at h
          obtain ⟨rfl, rfl⟩ := h
          obtain ⟨b, o, vs, rfl, hl, hc, hs⟩ := rdMem_ok hI hr hv
          simp only [VRs] at hs
          obtain ⟨u, us, rfl, hu, rfl⟩ := hs
          refine ⟨rfl, _, u, rfl, ?_, hu⟩
          have hcell : w.cell? ⟨b, o, none⟩ = some u := hc 0 u rfl
          unfold loadVar
          rw [bind_ok (run_isAgg hA)]
          simp only [Bool.false_eq_true, if_false, load, Sem.run, hcell]
        | [], h => cases h
        | _ :: _ :: _, h => cases h
    · cases hn : szOf P t with
      | none => simp only [hn] at h; cases h
      | some n =>
        simp only [hn] at h
        cases hr : rdMem n a H with
        | none => simp only [hr] at h; cases h
        | some cs =>
          simp only [hr, Option.some.injEq, Prod.mk.injEq] at h
          obtain ⟨rfl, rfl⟩ := h
          obtain ⟨b, o, vs, rfl, hl, hc, hs⟩ := rdMem_ok hI hr hv
          refine ⟨rfl, _, .agg vs.toArray, rfl, ?_, by simp only [VR]; exact ⟨_, rfl, by simpa using hs⟩⟩
          unfold loadVar
          rw [bind_ok (run_isAgg hA)]
          simp only [if_true]
          rw [bind_ok (run_sizeOf hn), bind_ok (run_loadCells vs hl hc)]
          rfl
def resV (tmps : Array Value) : ResultVar → Sem Value
  | .tmp t => pure (tmps.getD t undef)
  | .cell a t => do loadVar t (← asAddr (tmps.getD a undef))
theorem run_result {T : ATmps} {tmps : Array Value} (hI : Inv e H w) (hT : TR e w T tmps) (r : ResultVar) {y : AV} (h : resA P T H r = some y) : ∃ u, (resV tmps r).run P w = .ok u w ∧ VR e w y u := by
  cases r with
  | tmp t =>
    simp only [resA] at h
    cases h
    exact ⟨_, rfl, hT t⟩
  | cell a t =>
    simp only [resA] at h
    cases hl : oLoad P t (ATmps.at T a) H with
    | none => rw [hl] at h; cases h
    | some q =>
      rw [hl] at h
      cases h
      obtain ⟨rfl, ad, u, hp, hrun, hv⟩ := oLoad_run (P := P) hI (hT a) hl
      refine ⟨u, ?_, hv⟩
      unfold resV
      simp only
      rw [hp, bind_ok (s := asAddr _) (a := ad) (w' := w) rfl]
      exact hrun
theorem run_results_list {T : ATmps} {tmps : Array Value} (hI : Inv e H w) (hT : TR e w T tmps) : ∀ (rs : List ResultVar) (ys : List AV), omap (resA P T H) rs = some ys → ∃ vs, (rs.mapM (resV tmps)).run P w = .ok vs w ∧ VRs e w ys vs
  | [], ys, h => by rw [omap_nil] at h; cases h; exact ⟨[], rfl, by simp only [VRs]⟩
  | r :: rs, ys, h => by
    change Option.casesOn (resA P T H r) none (fun b => Option.casesOn (omap (resA P T H) rs) none (fun bs => some (b :: bs))) = some ys at h
    cases hf : resA P T H r with
    | none => rw [hf] at h; cases h
    | some b =>
      rw [hf] at h
      cases hm : omap (resA P T H) rs with
      | none => rw [hm] at h; cases h
      | some bs =>
        rw [hm] at h
        cases h
        obtain ⟨u, hu, hv⟩ := run_result hI hT r hf
        obtain ⟨us, hus, hvs⟩ := run_results_list hI hT rs bs hm
        refine ⟨u :: us, ?_, by simp only [VRs]; exact ⟨u, us, rfl, hv, hvs⟩⟩
        rw [List.mapM_cons, bind_ok hu, bind_ok hus]; rfl
theorem run_results {fn : Func} {T : ATmps} {tmps : Array Value} {y : AV} (hI : Inv e H w) (hT : TR e w T tmps) (h : resultsA P fn.results.toList T H = some y) : ∃ u, (results fn tmps).run P w = .ok u w ∧ VR e w y u := by
  unfold resultsA at h
  have hm : ∀ ys, omap (resA P T H) fn.results.toList = some ys → ∃ vs : Array Value, (fn.results.mapM (resV tmps)).run P w = .ok vs w ∧ VRs e w ys vs.toList := fun ys hy => by
    obtain ⟨vs, h1, h2⟩ := run_results_list hI hT _ _ hy
    refine ⟨vs.toArray, ?_, by simpa using h2⟩
    rw [Array.mapM_eq_mapM_toList]
    simp [h1, Result.andThen]
  have hres : ∀ vs : Array Value, (fn.results.mapM (resV tmps)).run P w = .ok vs w → (results fn tmps).run P w = .ok (if h : vs.size = 1 then vs[0] else .tuple vs) w := fun vs hv => by
    unfold results
    exact bind_ok hv
  split at h
  · rename_i v hh
    cases h
    obtain ⟨vs, h1, h2⟩ := hm _ hh
    simp only [VRs] at h2
    obtain ⟨u, us, h3, h4, rfl⟩ := h2
    have hs : vs = #[u] := by apply Array.ext'; simpa using h3
    subst hs
    exact ⟨u, hres _ h1, h4⟩
  · rename_i vs hn hh
    cases h
    obtain ⟨us, h1, h2⟩ := hm _ hh
    refine ⟨.tuple us, ?_, by simp only [VR]; exact ⟨us, rfl, h2⟩⟩
    rw [hres _ h1]
    have : us.size ≠ 1 := fun hh1 => by
      have hl := h2.length
      rw [Array.length_toList, hh1] at hl
      match vs, hl, hn with
      | [v], _, hn => exact hn v rfl
    rw [dif_neg this]
  · cases h

/-! A function is entered. -/
theorem enterA_at : ∀ (xs : List AV) (i : Nat) (T : ATmps) (t : Nat),
    ATmps.at (listRec (β := Nat → ATmps → ATmps) (fun _ T => T) (fun v _ r i T => r (Nat.succ i) (T.set v i)) xs i T) t = if i ≤ t ∧ t < i + xs.length then (xs[t - i]?).getD (.tup []) else ATmps.at T t
  | [], i, T, t => by rw [listRec_nil, if_neg (by simp)]
  | x :: xs, i, T, t => by
    rw [listRec_cons, enterA_at xs (Nat.succ i), ATmps.at_set]
    simp only [List.length_cons]
    by_cases h1 : t = i
    · subst h1
      rw [if_neg (by omega), if_pos rfl, if_pos (by omega)]; simp
    · by_cases h2 : Nat.succ i ≤ t ∧ t < Nat.succ i + xs.length
      · rw [if_pos h2, if_pos (by omega), show t - i = (t - Nat.succ i) + 1 by omega, List.getElem?_cons_succ]
      · rw [if_neg h2, if_neg h1, if_neg (by omega)]
theorem undef_ok : VR e w (.tup []) undef := by simp only [VR, VRs]; exact ⟨#[], rfl, rfl⟩
theorem enter_TR {xs : List AV} {vs : Array Value} (h : VRs e w xs vs.toList) (n : Nat) : TR e w (enterA xs) (vs ++ Array.replicate (n - vs.size) undef) := fun t => by
  unfold enterA
  rw [enterA_at]
  have hl : vs.size = xs.length := by simpa using h.length
  by_cases ht : t < xs.length
  · rw [if_pos (by omega)]
    simp only [Nat.sub_zero]
    obtain ⟨x, hx⟩ : ∃ x, xs[t]? = some x := ⟨_, List.getElem?_eq_getElem ht⟩
    obtain ⟨v, hv, hr⟩ := h.get t x hx
    rw [hx]
    have : (vs ++ Array.replicate (n - vs.size) undef).getD t undef = v := by
      rw [Array.getElem?_toList] at hv
      rw [Array.getD_eq_getD_getElem?, Array.getElem?_append, if_pos (by omega), hv]; rfl
    rw [this]; exact hr
  · rw [if_neg (by omega), ATmps.at_leaf]
    have : (vs ++ Array.replicate (n - vs.size) undef).getD t undef = undef := by
      rw [Array.getD_eq_getD_getElem?, Array.getElem?_append, if_neg (by omega), Array.getElem?_replicate]
      split <;> rfl
    rw [this]; exact undef_ok
theorem enterF_ok (hih : IHOk P ih) {f : Nat} {args : List AV} {vs : Array Value} {out : AOut} (hI : Inv e H w) (hv : VRs e w args vs.toList) (h : enterF P ih f args H = some (out, H')) :
    (callFunc f vs).run P w = .ok (.enter f vs) w ∧ Calls P f vs w (RetIs e w H' out) := by
  unfold enterF at h
  cases hf : P.funcs[f]? with
  | none => rw [hf] at h; cases h
  | some fn =>
    simp only [hf] at h
    cases hb : fn.body with
    | none => simp only [hb] at h; cases h
    | some c =>
      cases hg : (fn.name == "runtime.NumGoroutine") with
      | true => simp only [hb, hg] at h; cases h
      | false =>
        simp only [hb, hg] at h
        cases hc : codeOk fn.ntmps c with
        | false => simp only [hc] at h; cases h
        | true =>
          cases hl : Nat.ble (llen args) fn.ntmps with
          | false => simp only [hc, hl] at h; cases h
          | true =>
            simp only [hc, hl] at h
            have hsz : vs.size = args.length := by simpa using hv.length
            rw [llen_eq] at hl
            have hle := Nat.le_of_ble_eq_true hl
            refine ⟨?_, ?_⟩
            · unfold callFunc
              show Sem.run P ((program).bind _) w = _
              have hg' : ¬ fn.name = "runtime.NumGoroutine" := by simpa using hg
              simp [program, Sem.bind, Sem.run, hf, hg', hb, pure]
            · refine calls_of_wp hf hb ?_
              cases hr : ih c (enterA args) H with
              | none => simp only [hr] at h; cases h
              | some r =>
                refine wp_mono (hih c _ _ r hr fn.ntmps hc [] e w _ hI (enter_TR hv fn.ntmps) (by simp; omega) rfl) fun ex a' w' hp => ?_
                obtain ⟨e', h1, h2, h3, h4, h5, h6⟩ := hp
                obtain ⟨ax, T, H2⟩ := r
                simp only [hr] at h
                simp only at h2 h3 h6
                cases ax with
                | exit i => simp only at h; cases h
                | normal =>
                  simp only at h
                  cases hres : resultsA P fn.results.toList T H2 with
                  | none => simp only [hres] at h; cases h
                  | some y =>
                    simp only [hres] at h
                    cases h
                    obtain ⟨u, hu, hur⟩ := run_results h2 h3 hres
                    cases ex <;> simp only [ExIs] at h6 <;> try (exact h6.elim)
                    exact ⟨h5, u, hu, y, e', rfl, h1, h2, hur⟩
                | ret =>
                  simp only at h
                  cases hres : resultsA P fn.results.toList T H2 with
                  | none => simp only [hres] at h; cases h
                  | some y =>
                    simp only [hres] at h
                    cases h
                    obtain ⟨u, hu, hur⟩ := run_results h2 h3 hres
                    cases ex <;> simp only [ExIs] at h6 <;> try (exact h6.elim)
                    exact ⟨h5, u, hu, y, e', rfl, h1, h2, hur⟩
                | pan x =>
                  simp only at h
                  cases h
                  cases ex <;> simp only [ExIs] at h6 <;> try (exact h6.elim)
                  obtain ⟨v, rfl, hvr⟩ := h6
                  exact ⟨h5, x, v, e', rfl, rfl, h1, h2, hvr⟩
theorem callF_ok (hih : IHOk P ih) (hx : ExtOk cfg P) {f : Nat} {args : List AV} {vs : Array Value} {out : AOut} (hI : Inv e H w) (hv : VRs e w args vs.toList) (h : callF cfg P ih f args H = some (out, H')) :
    Fires P e w H' out ((callFunc f vs).run P w) := by
  unfold callF at h
  cases hext : cfg.ext f with
  | some g =>
    simp only [hext] at h
    cases hn : lall (noRefs 24) args with
    | false => simp only [hn] at h; cases h
    | true =>
      cases hg : g args with
      | none => simp only [hn, hg] at h; cases h
      | some v =>
        simp only [hn, hg] at h
        cases hnv : noRefs 24 v with
        | false => simp only [hnv] at h; cases h
        | true =>
          simp only [hnv] at h
          cases h
          exact hx f g hext args v hn hg hnv e H w vs hI hv
  | none =>
    simp only [hext] at h
    have shared : enterF P ih f args H = some (out, H') → Fires P e w H' out ((callFunc f vs).run P w) := fun h => by
      obtain ⟨h1, h2⟩ := enterF_ok hih hI hv h
      rw [h1]; exact h2
    cases hm : cfg.mode f with
    | shared => simp only [hm] at h; exact shared h
    | plain =>
      simp only [hm] at h
      have hout : ∀ b, e.out b → b < w.heap.size := hI.out
      have hs : Sees e (e.inner e.out) := ⟨rfl, fun b _ h => ⟨inner_own, h⟩⟩
      have key : ∀ args', VRs (e.inner e.out) w args' vs.toList → (match enterF P ih f args' { tr := .leaf, next := 0 } with
        | some (.ret v, _) => match plainA 8 v with
          | true => some (AOut.ret v, H)
          | false => none
        | some (.pan (.iface t v), _) => match plainA 8 v with
          | true => some (AOut.pan (.iface t v), H)
          | false => none
        | _ => none) = some (out, H') → Fires P e w H' out ((callFunc f vs).run P w) := fun args' ha h => by
        cases hr : enterF P ih f args' { tr := .leaf, next := 0 } with
        | none => simp only [hr] at h; cases h
        | some q =>
          obtain ⟨o, H2⟩ := q
          cases o with
          | pan z =>
            cases z <;> simp only [hr] at h <;> try (cases h; done)
            rename_i t v
            cases hp : plainA 8 v with
            | false => simp only [hp] at h; cases h
            | true =>
              simp only [hp] at h
              cases h
              obtain ⟨h1, h2⟩ := enterF_ok (H := emptyH) hih (inner_inv hI hout) ha hr
              rw [h1]
              refine h2.mono fun en w' hr => ?_
              cases en with
              | returned u => obtain ⟨x, e', hx, _⟩ := hr; cases hx
              | panicked ch =>
                obtain ⟨x, u, e', hx, hch, hle, hinv, hvr⟩ := hr
                cases hx
                simp only [VR] at hvr
                obtain ⟨u', rfl, hvr⟩ := hvr
                exact ⟨_, _, e, rfl, hch, inner_le hle, inner_back hI hle, by simp only [VR]; exact ⟨u', rfl, plain_ok 8 _ hp _ hvr⟩⟩
              | outgrown => exact hr.elim
          | ret v =>
            simp only [hr] at h
            cases hp : plainA 8 v with
            | false => simp only [hp] at h; cases h
            | true =>
              simp only [hp] at h
              cases h
              obtain ⟨h1, h2⟩ := enterF_ok (H := emptyH) hih (inner_inv hI hout) ha hr
              rw [h1]
              refine h2.mono fun en w' hr => ?_
              cases en with
              | returned u =>
                obtain ⟨x, e', hx, hle, hinv, hvr⟩ := hr
                cases hx
                exact ⟨_, e, rfl, inner_le hle, inner_back hI hle, plain_ok 8 _ hp _ hvr⟩
              | panicked ch => obtain ⟨x, u, e', hx, _⟩ := hr; cases hx
              | outgrown => exact hr.elim
      cases hn : lall (noRefs 24) args with
      | true =>
        simp only [hn] at h
        exact key args (noRefs_all hs hn hv) h
      | false =>
        simp only [hn] at h
        cases hfz : omap (freeze 24 H) args with
        | none => simp only [hfz] at h; cases h
        | some args' =>
          simp only [hfz] at h
          exact key args' (freeze_all hI hs (fun b hb => ⟨inner_own, let ⟨_, _, _, _, hb⟩ := hb; (hI.own _ _ _ _ _ hb).2.2.1⟩) hfz hv) h
    | apart =>
      simp only [hm] at h
      cases hn : lall (noRefs 24) args with
      | false => simp only [hn] at h; exact shared h
      | true =>
        simp only [hn] at h
        have hs : Sees e (e.inner fun b => e.out b ∨ e.own b) := ⟨rfl, fun b h1 h2 => ⟨inner_own, fun h => h.elim h2 h1⟩⟩
        have hout : ∀ b, (e.out b ∨ e.own b) → b < w.heap.size := fun b hb => hb.elim (hI.out b) fun ⟨_, _, _, _, hb⟩ => (hI.own _ _ _ _ _ hb).1
        cases hr : enterF P ih f args { tr := .leaf, next := 0 } with
        | none => simp only [hr] at h; cases h
        | some q =>
          obtain ⟨o, H2⟩ := q
          cases o with
          | pan v => simp only [hr] at h; cases h
          | ret v =>
            simp only [hr] at h
            cases hz : freeze 24 H2 v with
            | none => simp only [hz] at h; cases h
            | some y =>
              simp only [hz] at h
              cases h
              obtain ⟨h1, h2⟩ := enterF_ok (H := emptyH) hih (inner_inv hI hout) (noRefs_all hs hn hv) hr
              rw [h1]
              refine h2.mono fun en w' hr => ?_
              cases en with
              | returned u =>
                obtain ⟨x, e', hx, hle, hinv, hvr⟩ := hr
                cases hx
                have hs' : Sees e' e := ⟨hle.base.symm, fun b hb1 hb2 => by
                  rw [hle.out] at hb2
                  exact ⟨fun hh => hb2 (.inr hh), fun hh => hb2 (.inl hh)⟩⟩
                refine ⟨y, e, rfl, inner_le hle, inner_back hI hle, freeze_ok hinv hs' (fun b hb => ?_) 24 _ _ hz _ hvr⟩
                obtain ⟨_, _, _, _, hb⟩ := hb
                have := (hinv.own _ _ _ _ _ hb).2.2.1
                rw [hle.out] at this
                exact ⟨fun hh => this (.inr hh), fun hh => this (.inl hh)⟩
              | panicked ch => obtain ⟨x, u, e', hx, _⟩ := hr; cases hx
              | outgrown => exact hr.elim

/-! Operations. -/
theorem callA_ok (hih : IHOk P ih) (hx : ExtOk cfg P) {c : Call} {o : Oper} {T : ATmps} {a : Act} {out : AOut} (ho : o.op = .call c) (hI : Inv e H w) (hT : TR e w T a.tmps) (h : callA cfg P ih c T H = some (out, H')) :
    Fires P e w H' out ((execOp a.eval o).run P w) := by
  have hargs := args_ok hT c.args
  have he : execOp a.eval o = (do let d ← resolve a.eval c o.type; invoke d.target d.args) := by unfold execOp; rw [ho]
  rw [he]
  unfold callA at h
  split at h
  · rename_i hc
    split at h
    · rename_i t v rest hl
      cases h
      rw [hl] at hargs
      simp only [VRs] at hargs
      obtain ⟨u, us, hu, hr, _⟩ := hargs
      simp only [VR] at hr
      obtain ⟨u', rfl, hr⟩ := hr
      have : (c.args.map a.eval).getD 0 .nilIface = .iface t u' := by
        rw [Array.getD_eq_getD_getElem?, ← Array.getElem?_toList, hu]; rfl
      have hrun : (do let d ← resolve a.eval c o.type; invoke d.target d.args : Sem Next).run P w = .halt (.panic (.iface t u')) w := by
        unfold resolve
        simp only [hc]
        rw [bind_ok (s := pure _) (w' := w) rfl]
        simp only [invoke, builtin, this]
        rfl
      rw [hrun]
      exact ⟨_, e, rfl, Le.refl e w, hI, by simp only [VR]; exact ⟨u', rfl, hr⟩⟩
    · cases h
  · rename_i b hb hc
    cases hr : builtinA P H b c.argTypes.toList (argsA T c.args) with
    | none => rw [hr] at h; cases h
    | some q =>
      obtain ⟨v, H2⟩ := q
      rw [hr] at h
      cases h
      have hrun : (do let d ← resolve a.eval c o.type; invoke d.target d.args : Sem Next).run P w = (builtin b c.argTypes o.type (c.args.map fun | .const _ => true | _ => false) (c.args.map a.eval)).run P w := by
        unfold resolve
        simp only [hc]
        rw [bind_ok (s := pure _) (w' := w) rfl]
        rfl
      rw [hrun]
      exact (builtinA_ok hI hargs hr).fires
  · rename_i f hc
    split at h
    · rename_i g first captured hf
      have hfv := operand_ok hT f
      rw [hf] at hfv
      simp only [VR] at hfv
      obtain ⟨fa, fc, hfe, h1, h2⟩ := hfv
      have hrun : (do let d ← resolve a.eval c o.type; invoke d.target d.args : Sem Next).run P w = (callFunc g (fa ++ c.args.map a.eval ++ fc)).run P w := by
        unfold resolve
        simp only [hc, hfe, Deferred.ofValue]
        rw [bind_ok (s := pure _) (w' := w) rfl]
        rfl
      rw [hrun]
      refine callF_ok hih hx hI ?_ h
      simp only [lapp_eq, Array.toList_append, List.append_assoc]
      exact h1.append (hargs.append h2)
    · cases h
  · cases h
theorem opA_no {imm : Bool} {c : Call} {T : ATmps} : opA imm (.call c) P T H = none := rfl
theorem anyOp_ok {imm : Bool} (hih : IHOk P ih) (hx : ExtOk cfg P) {o : Oper} {T : ATmps} {a : Act} {out : AOut} (hI : Inv e H w) (hT : TR e w T a.tmps) (h : anyOp cfg imm P ih o.op T H = some (out, H')) :
    Fires P e w H' out ((execOp a.eval o).run P w) := by
  have key : ∀ r, opA imm o.op P T H = r → (match r with
      | some (v, H) => some (AOut.ret v, H)
      | none => none) = some (out, H') → Fires P e w H' out ((execOp a.eval o).run P w) := fun r hr h => by
    cases r with
    | none => cases h
    | some q => cases h; exact (opA_ok hI hT hr).fires
  cases hop : o.op
  case call c => rw [hop] at h; exact callA_ok hih hx hop hI hT h
  case panic x =>
    rw [hop] at h
    simp only [anyOp] at h
    split at h
    · rename_i t v hl
      cases h
      have hv := operand_ok hT x
      rw [hl] at hv
      simp only [VR] at hv
      obtain ⟨u, hu, hr⟩ := hv
      have hrun : (execOp a.eval o).run P w = .halt (.panic (.iface t u)) w := by
        unfold execOp
        simp only [hop, hu]
        rfl
      rw [hrun]
      exact ⟨_, e, rfl, Le.refl e w, hI, by simp only [VR]; exact ⟨u, rfl, hr⟩⟩
    · cases h
  all_goals (rw [hop] at h key; exact key _ rfl h)

/-! Guards, temporaries. -/
theorem guard_ok {ops : Array Oper} {o : Oper} {T : ATmps} {a : Act} {t : Bool} (hT : TR e w T a.tmps) (hn : ∀ (j : Nat) (o' : Oper) (d : Tmp), ops[j]? = some o' → o'.dst = some d → d < a.tmps.size) (h : guardA ops.toList T o.guard = some t) : Region.wanted o (yielded ops a.tmps) = t := by
  unfold guardA at h
  unfold Region.wanted
  cases hg : o.guard with
  | none => simp only [hg] at h; cases h; rfl
  | some p =>
    obtain ⟨j, want⟩ := p
    simp only [hg] at h
    simp only [yielded]
    rw [lget_eq, Array.getElem?_toList] at h
    cases ho : ops[j]? with
    | none => simp only [ho] at h; cases h; simp
    | some o' =>
      simp only [ho] at h
      cases hd : o'.dst with
      | none => simp only [hd] at h; cases h; simp [hd]
      | some d =>
        simp only [hd] at h
        have hlt := hn j o' d ho hd
        have hv := hT d
        rw [Array.getD_eq_getD_getElem?, Array.getElem?_eq_getElem hlt] at hv
        simp only [Option.getD_some] at hv
        simp only [Option.bind_some, hd, Array.getElem?_eq_getElem hlt]
        generalize a.tmps[d] = v at hv
        generalize ATmps.at T d = x at h hv
        cases x <;> simp only at h <;> (try (cases h; done)) <;> simp only [VR] at hv
        case bool b =>
          subst hv
          cases b <;> cases want <;> cases h <;> rfl
        case int => cases h; subst hv; simp
        case str => cases h; obtain ⟨_, rfl, _⟩ := hv; simp
        case agg => cases h; obtain ⟨_, rfl, _⟩ := hv; simp
        case tup => cases h; obtain ⟨_, rfl, _⟩ := hv; simp
        case nilp => cases h; subst hv; simp
        case ptr => cases h; obtain ⟨_, _, _, _, rfl⟩ := hv; simp
        case gptr => cases h; subst hv; simp
        case vptr => cases h; obtain ⟨_, _, rfl, _⟩ := hv; simp
        case nils => cases h; subst hv; simp
        case sl => cases h; obtain ⟨_, _, _, _, _, _, rfl, _⟩ := hv; simp
        case vsl => cases h; obtain ⟨_, _, _, _, rfl, _⟩ := hv; simp
        case nilm => cases h; subst hv; simp
        case map => cases h; obtain ⟨_, _, _, _, rfl⟩ := hv; simp
        case fn => cases h; obtain ⟨_, _, rfl, _⟩ := hv; simp
        case nilf => cases h; subst hv; simp
        case iface => cases h; obtain ⟨_, rfl, _⟩ := hv; simp
        case nili => cases h; subst hv; simp
theorem put_size (a : Act) (d : Option Tmp) (v : Value) : (a.put d v).tmps.size = a.tmps.size := by cases d <;> simp [Act.put]
theorem put_defers' (a : Act) (d : Option Tmp) (v : Value) : (a.put d v).defers = a.defers := by cases d <;> rfl
theorem put_TR {T : ATmps} {a : Act} {d : Option Tmp} {x : AV} {v : Value} (hT : TR e w T a.tmps) (hd : ∀ k, d = some k → k < a.tmps.size) (hv : VR e w x v) : TR e w (putA T d x) (a.put d v).tmps := by
  cases d with
  | none => exact hT
  | some k =>
    intro t
    show VR e w (ATmps.at (Tr.set T x k) t) ((a.tmps.setIfInBounds k v).getD t undef)
    rw [ATmps.at_set, Array.getD_eq_getD_getElem?, Array.getElem?_setIfInBounds]
    by_cases ht : t = k
    · subst ht
      rw [if_pos rfl, if_pos rfl, if_pos (hd _ rfl)]; exact hv
    · rw [if_neg ht, if_neg (fun hh => ht hh.symm), ← Array.getD_eq_getD_getElem?]; exact hT t
end Go.Proofs.Ytcjfjfhggfcnfaa.Am
