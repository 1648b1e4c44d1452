/- The logic's rules for functions, calls and loops. -/
import Derived.Test.YtcjfjfhggfcnfaaAmWpB
set_option linter.unusedSimpArgs false
set_option linter.unusedVariables false
namespace Go.Proofs.Ytcjfjfhggfcnfaa.Am
open Go
variable {cfg : Cfg} {P : Program}

def endW (P : Program) (rs : List ResultVar) (Q : AOut → AHeap → Prop) : WPost := fun ex T H => match ex with
  | .normal | .ret => ∃ v, resultsA P rs T H = some v ∧ Q (.ret v) H
  | .pan v => Q (.pan v) H
  | .exit _ => False
theorem endW_ret {rs : List ResultVar} {Q : AOut → AHeap → Prop} {T : ATmps} {H : AHeap} : endW P rs Q .ret T H = ∃ v, resultsA P rs T H = some v ∧ Q (.ret v) H := rfl
theorem endW_normal {rs : List ResultVar} {Q : AOut → AHeap → Prop} {T : ATmps} {H : AHeap} : endW P rs Q .normal T H = ∃ v, resultsA P rs T H = some v ∧ Q (.ret v) H := rfl
theorem endW_pan {rs : List ResultVar} {Q : AOut → AHeap → Prop} {T : ATmps} {H : AHeap} {v : AV} : endW P rs Q (.pan v) T H = Q (.pan v) H := rfl
theorem endW_ret1 {t : Nat} {Q : AOut → AHeap → Prop} {T : ATmps} {H : AHeap} : endW P [.tmp t] Q .ret T H = Q (.ret (ATmps.at T t)) H := by
  simp only [endW, resultsA, omap, listRec, resA]
  exact propext ⟨fun ⟨v, h, k⟩ => by cases h; exact k, fun h => ⟨_, rfl, h⟩⟩
theorem endW_normal1 {t : Nat} {Q : AOut → AHeap → Prop} {T : ATmps} {H : AHeap} : endW P [.tmp t] Q .normal T H = Q (.ret (ATmps.at T t)) H := endW_ret1 (P := P)
theorem endW_ret2 {t u : Nat} {Q : AOut → AHeap → Prop} {T : ATmps} {H : AHeap} : endW P [.tmp t, .tmp u] Q .ret T H = Q (.ret (.tup [ATmps.at T t, ATmps.at T u])) H := by
  simp only [endW, resultsA, omap, listRec, resA]
  exact propext ⟨fun ⟨v, h, k⟩ => by cases h; exact k, fun h => ⟨_, rfl, h⟩⟩
theorem endW_ret3 {t u s : Nat} {Q : AOut → AHeap → Prop} {T : ATmps} {H : AHeap} : endW P [.tmp t, .tmp u, .tmp s] Q .ret T H = Q (.ret (.tup [ATmps.at T t, ATmps.at T u, ATmps.at T s])) H := by
  simp only [endW, resultsA, omap, listRec, resA]
  exact propext ⟨fun ⟨v, h, k⟩ => by cases h; exact k, fun h => ⟨_, rfl, h⟩⟩

theorem enters_ok {f : Nat} {fn : Func} {c : Code} {args : List AV} {H : AHeap} {Q : AOut → AHeap → Prop} (hf : P.funcs[f]? = some fn) (hb : fn.body = some c) (hn : (fn.name == "runtime.NumGoroutine") = false)
    (hc : codeOk fn.ntmps c = true) (hl : Nat.ble (llen args) fn.ntmps = true) (h : wC cfg P c (endW P fn.results.toList Q) (enterA args) H) : Enters cfg P f args H Q := by
  obtain ⟨n, r, h1, h2⟩ := wC_ok c h
  obtain ⟨ex, T, H'⟩ := r
  have go : ∀ m, n ≤ m → ev cfg P m c (enterA args) H = some (ex, T, H') := h1
  cases ex with
  | normal =>
    obtain ⟨v, g1, g2⟩ := h2
    exact ⟨n, .ret v, H', fun m hm => by simp only [enterF, hf, hb, hn, hc, hl, go m hm]; simp only at g1; rw [g1], g2⟩
  | ret =>
    obtain ⟨v, g1, g2⟩ := h2
    exact ⟨n, .ret v, H', fun m hm => by simp only [enterF, hf, hb, hn, hc, hl, go m hm]; simp only at g1; rw [g1], g2⟩
  | pan v => exact ⟨n, .pan v, H', fun m hm => by simp only [enterF, hf, hb, hn, hc, hl, go m hm], h2⟩
  | exit i => exact h2.elim
theorem Enters.mono {f : Nat} {args : List AV} {H : AHeap} {Q Q' : AOut → AHeap → Prop} (h : Enters cfg P f args H Q) (k : ∀ o H, Q o H → Q' o H) : Enters cfg P f args H Q' :=
  let ⟨n, o, H', h1, h2⟩ := h; ⟨n, o, H', h1, k _ _ h2⟩
theorem CallsTo.mono {f : Nat} {args : List AV} {H : AHeap} {Q Q' : AOut → AHeap → Prop} (h : CallsTo cfg P f args H Q) (k : ∀ o H, Q o H → Q' o H) : CallsTo cfg P f args H Q' :=
  let ⟨n, o, H', h1, h2⟩ := h; ⟨n, o, H', h1, k _ _ h2⟩
theorem calls_shared {f : Nat} {args : List AV} {H : AHeap} {Q : AOut → AHeap → Prop} (hx : cfg.ext f = none) (hm : cfg.mode f = .shared) (h : Enters cfg P f args H Q) : CallsTo cfg P f args H Q := by
  obtain ⟨n, o, H', h1, h2⟩ := h
  exact ⟨n, o, H', fun m hm' => by simp only [callF, hx, hm]; exact h1 m hm', h2⟩
/-- a call of a function of its own heap, out of frozen arguments -/
theorem calls_plain {f : Nat} {args : List AV} {H : AHeap} {Q : AOut → AHeap → Prop} {v : AV} (hx : cfg.ext f = none) (hm : cfg.mode f = .plain) (hn : lall (noRefs 24) args = true)
    (h : Enters cfg P f args emptyH fun out _ => out = .ret v) (hp : plainA 8 v = true) (hq : Q (.ret v) H) : CallsTo cfg P f args H Q := by
  obtain ⟨n, o, H', h1, h2⟩ := h
  subst h2
  refine ⟨n, .ret v, H, fun m hm' => ?_, hq⟩
  have := h1 m hm'
  simp only [callF, hx, hm, hn]
  simp only [emptyH] at this
  simp only [this, hp]
theorem calls_plainZ {f : Nat} {args args' : List AV} {H : AHeap} {Q : AOut → AHeap → Prop} {v : AV} (hx : cfg.ext f = none) (hm : cfg.mode f = .plain) (hn : lall (noRefs 24) args = false) (hz : omap (freeze 24 H) args = some args')
    (h : Enters cfg P f args' emptyH fun out _ => out = .ret v) (hp : plainA 8 v = true) (hq : Q (.ret v) H) : CallsTo cfg P f args H Q := by
  obtain ⟨n, o, H', h1, h2⟩ := h
  subst h2
  refine ⟨n, .ret v, H, fun m hm' => ?_, hq⟩
  have := h1 m hm'
  simp only [callF, hx, hm, hn, hz]
  simp only [emptyH] at this
  simp only [this, hp]
theorem calls_apart {f : Nat} {args : List AV} {H : AHeap} {Q : AOut → AHeap → Prop} {v : AV} (hx : cfg.ext f = none) (hm : cfg.mode f = .apart) (hn : lall (noRefs 24) args = true)
    (h : Enters cfg P f args emptyH fun out H' => ∃ u, out = .ret u ∧ freeze 24 H' u = some v) (hq : Q (.ret v) H) : CallsTo cfg P f args H Q := by
  obtain ⟨n, o, H', h1, u, rfl, h2⟩ := h
  refine ⟨n, .ret v, H, fun m hm' => ?_, hq⟩
  have := h1 m hm'
  simp only [callF, hx, hm, hn]
  simp only [emptyH] at this
  simp only [this, h2]
theorem calls_apartS {f : Nat} {args : List AV} {H : AHeap} {Q : AOut → AHeap → Prop} (hx : cfg.ext f = none) (hm : cfg.mode f = .apart) (hn : lall (noRefs 24) args = false)
    (h : Enters cfg P f args H Q) : CallsTo cfg P f args H Q := by
  obtain ⟨n, o, H', h1, h2⟩ := h
  exact ⟨n, o, H', fun m hm' => by simp only [callF, hx, hm, hn]; exact h1 m hm', h2⟩

theorem wC_loop {c : Code} {Q : WPost} {T : ATmps} {H : AHeap} (I : Nat → ATmps → AHeap → Prop) (n : Nat) (h0 : I n T H) (h : ∀ n T H, I n T H → wC cfg P c (againW I n Q) T H) : wC cfg P (.loop c) Q T H := ⟨I, n, h0, h⟩
theorem againW_normal {I : Nat → ATmps → AHeap → Prop} {n : Nat} {Q : WPost} {T : ATmps} {H : AHeap} : againW I n Q .normal T H = ∃ m, m < n ∧ I m T H := rfl
theorem againW_exit {I : Nat → ATmps → AHeap → Prop} {n i : Nat} {Q : WPost} {T : ATmps} {H : AHeap} : againW I n Q (.exit i) T H = Q (.exit i) T H := rfl
theorem againW_ret {I : Nat → ATmps → AHeap → Prop} {n : Nat} {Q : WPost} {T : ATmps} {H : AHeap} : againW I n Q .ret T H = Q .ret T H := rfl
theorem againW_pan {I : Nat → ATmps → AHeap → Prop} {n : Nat} {v : AV} {Q : WPost} {T : ATmps} {H : AHeap} : againW I n Q (.pan v) T H = Q (.pan v) T H := rfl
end Go.Proofs.Ytcjfjfhggfcnfaa.Am
