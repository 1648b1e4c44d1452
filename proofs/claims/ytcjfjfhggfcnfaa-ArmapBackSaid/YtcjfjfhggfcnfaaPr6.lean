/- The law ArmapBack: of any entries whose names are not too long and hold no zero, the names are read back from their index, and an index with a byte more, or less, is refused; with names and no members it is refused. No condition. -/
import Derived.Test.YtcjfjfhggfcnfaaRows
import Derived.Test.YtcjfjfhggfcnfaaPr5
import Derived.Test.YtcjfjfhggfcnfaaAmTop
import Derived.WalkKit
import Derived.ProofKit
import Derived.OpenShut
import Derived.ShutString
import Derived.ChangeOld
import Derived.SizedLaws
set_option linter.unusedSimpArgs false
set_option linter.unusedVariables false
namespace Go.Proofs.Ytcjfjfhggfcnfaa
open Go.ChangeShapes Go.WideShapes Go.ChangeAt Go.RowKit
open Am
set_option maxRecDepth 100000
theorem own : ownKnob Try.prog.godebug = none := by kernel_rfl
theorem laidOut : laidOutB Try.prog = true := by kernel_rfl
theorem cf_ext : ExtOk cf Try.prog := fun f g hf args v hn hg hv e H w vs hI hV => by
  unfold cf at hf
  simp only at hf
  split at hf
  · cases hf; exact extCmp_ok (fn := Try.f20) Try.func20 (by kernel_rfl) (by kernel_rfl) (by kernel_rfl) (by kernel_rfl) hg hI hV
  · cases hf; exact extIdx_ok (fn := Try.f21) Try.func21 (by kernel_rfl) (by kernel_rfl) (by kernel_rfl) (by kernel_rfl) hg hI hV
  · cases hf
theorem top_to {cfg : Cfg} {P : Program} {w : World} (hm : P.follows .mixedOrders = true) (hx : ExtOk cfg P) {f : Nat} {fn : Func} {xs : List AV} {vs : Array Value} (hf : P.funcs[f]? = some fn) (hb : fn.body.isNone = false) (hn : (fn.name == "runtime.NumGoroutine") = false)
    (hv : VRs (startE w) w xs vs.toList) (h : CallsTo cfg P f xs emptyH fun o _ => o = .ret (.bool true)) : Calls P f vs w fun e w' => e = .returned (.bool true) ∧ RowKit.Below w.heap.size w w' := by
  obtain ⟨n, out, H', h1, rfl⟩ := h
  exact top_calls hm hx hf hb hn hv (h1 n (Nat.le_refl n))
theorem entry_of {xs : List AV} (h : Shape Try.prog 9 37 xs) : ∃ x : EntryN, xs = x.enc ∧ x.name.length ≤ maxLen ∧ ∀ c ∈ x.name, c < 256 := by
  unfold Shape at h
  simp only [Try.underlying37, List.map_cons, List.map_nil, Cat] at h
  obtain ⟨y, ys, rfl, h1, z, zs, rfl, h2, rfl⟩ := h
  unfold Shape at h1 h2
  simp only [Try.underlying9, Try.underlying3] at h1 h2
  obtain ⟨s, rfl, h3, h4⟩ := h1
  obtain ⟨n, rfl, h5⟩ := h2
  exact ⟨⟨s, n⟩, rfl, h3, h4⟩
theorem list_of {xs : List AV} (h : Shape Try.prog 10 35 xs) : ∃ v l, xs = [v] ∧ SV v ((l : List EntryN).flatMap EntryN.enc) l.length ∧ l.length ≤ maxLen ∧ ∀ x ∈ l, x.name.length ≤ maxLen ∧ ∀ c ∈ x.name, c < 256 := by
  unfold Shape at h
  simp only [Try.underlying35] at h
  rcases h with rfl | ⟨es, rfl, h1, h2⟩
  · exact ⟨.nils, [], rfl, SV.nil, by simp, by simp⟩
  · have : ∃ l : List EntryN, es = l.map EntryN.enc ∧ ∀ x ∈ l, x.name.length ≤ maxLen ∧ ∀ c ∈ x.name, c < 256 := by
      clear h1
      induction es with
      | nil => exact ⟨[], rfl, by simp⟩
      | cons a es ih =>
        obtain ⟨l, rfl, h3⟩ := ih fun x hx => h2 x (List.mem_cons_of_mem _ hx)
        obtain ⟨x, rfl, h4⟩ := entry_of (h2 a (List.mem_cons_self ..))
        exact ⟨x :: l, rfl, fun y hy => by rcases List.mem_cons.mp hy with rfl | hy; exact h4; exact h3 y hy⟩
    obtain ⟨l, rfl, h3⟩ := this
    refine ⟨_, l, rfl, ?_, by simpa using h1, h3⟩
    rw [List.length_map, ← List.flatMap_def]
    exact SV.v
namespace armapBack
theorem lifted (os : Os) (started : os.Started) (H : Type) (enc : TypeId × Value → H) :
    ReturnsInHanded {} Try.checked os 4 .any (Rows.armapBackSpec.pre6 enc Try.prog Try.f4 Rows.armapBackRow.domain false) (Rows.armapBackSpec.post enc Try.prog Try.f4 false true false false) := by
  refine returnsInHanded_of_change_sized (C := Try.checked) own started (by kernel_rfl) Try.func4
    (ChangeSpec.witness6 (enc := enc) (C := Try.checked) false ⟨#[], #[.slice none 0 0, .int .u8 0], []⟩ 8 (by kernel_rfl) (by kernel_rfl) (by kernel_rfl) (by kernel_rfl)) ?_
  intro W base args ds gs before hval0 hW hcnd hsz0 _
  have hval : ∀ (j : Nat) t v, Try.f4.params[j]? = some t → args[j]? = some v → Value.okWide Try.prog W .any base t v := hval0
  have hW' := hW
  obtain ⟨p, q, hA0, hV, rfl, hfz, hnd⟩ := hW
  have hA : DataW.TrodAll enc Try.prog W 0 (fun _ => true) true Try.f4.params.toList args.toList ds p := hA0
  rw [Try.params4] at hA hval
  obtain ⟨v0, vs0, d0, ds0, p0, q0, hargs, rfl, rfl, h0, r0⟩ := trodAll_cons hA
  obtain ⟨v1, vs1, d1, ds1, p1, q1, rfl, rfl, rfl, h1, r1⟩ := trodAll_cons r0
  obtain ⟨rfl, rfl, rfl⟩ := trodAll_nil r1
  obtain rfl : args = #[v0, v1] := by cases args; simp_all
  obtain ⟨rfl, rfl⟩ := trodVars_none hV
  have lt0 : ∀ x ∈ p0, x.block < W.heap.size := by obtain ⟨m, hm⟩ := h0; exact DataW.trod_lt m _ _ _ hm
  obtain ⟨a0, len0, cap0, rfl⟩ := okWide_slice Try.underlying35 (hval 0 35 v0 rfl rfl)
  obtain ⟨xs0, s0, vr0⟩ := trod_ok (d := 10) (by kernel_rfl) h0
  obtain ⟨a1, rfl, rfl, rfl, w1⟩ := open_int Try.underlying5 (hval 1 5 v1 rfl rfl) h1
  obtain ⟨x, l, rfl, sv, hll, hx⟩ := list_of s0
  have hml : maxLen ≤ 9223372036854775807 := by decide
  have hn1 : ∃ n : Nat, a1 = (n : Int) ∧ n < 256 := by
    have : 0 ≤ a1 ∧ a1 ≤ 255 := by simpa [Lit.wf, IntKind.min, IntKind.max, IntKind.signed, IntKind.bits] using w1
    exact ⟨a1.toNat, by omega, by omega⟩
  obtain ⟨n, rfl, hn⟩ := hn1
  clear hA0 hval0
  have call : CallsTo cf Try.prog 4 [x, .int .u8 (n : Int)] emptyH fun o _ => o = .ret (.bool true) :=
    calls_plain rfl rfl (by
      rw [lall_all]
      have : noRefs 24 x = true := sv.noRefs (d := 23) (by simp [EntryN.enc]; rintro c x hx (rfl | rfl) <;> rfl)
      simp [this]) (law_ok sv hn (fun x hx' => (hx x hx').2) (by omega) (fun x hx' => by have := (hx x hx').1; omega)) rfl rfl
  have vr : VRs (startE W) W [x, .int .u8 (n : Int)] (#[.slice a0 len0 cap0, .int .u8 (n : Int)] : Array Value).toList := by
    have e : (Value.slice a0 len0 cap0).cells.toList = [.slice a0 len0 cap0] := rfl
    rw [e] at vr0
    simp only [VRs] at vr0 ⊢
    obtain ⟨u, us, hu, h2, h3⟩ := vr0
    subst h3
    cases hu
    exact ⟨_, _, rfl, h2, _, _, rfl, by simp only [VR], rfl⟩
  refine (top_to (by kernel_rfl) cf_ext Try.func4 (by kernel_rfl) (by kernel_rfl) vr call).mono fun e W' ⟨he, bel⟩ => ?_
  subst he
  exact ⟨_, rfl, _, _, _, [], _, [], hW', trodAll_mk1 (shut_bool Try.underlying4 _), (trodAll_cons_mk (Below.trod laidOut (by kernel_rfl) (of_decide_eq_true (by kernel_rfl)) h0 bel lt0) (trodAll_cons_mk (shut_int Try.underlying5 w1) trodAll_mk0)), rfl, bel.frame _, fun h => by cases h⟩
theorem over : Rows.armapBackRow.holds Try.pinned (OpenSpec.ofChange Rows.armapBackSpec) :=
  OpenClaim.holds_of_wide 4 Try.f4 rfl rfl rfl rfl rfl rfl rfl ⟨rfl, rfl, rfl, rfl, rfl⟩ rfl rfl rfl rfl rfl (by kernel_rfl) Try.func4 (by kernel_rfl)
    (of_decide_eq_true (by kernel_rfl)) (by unfold Func.isWrapper; first | (rw [if_pos (by decide +kernel)]; kernel_rfl) | (rw [if_neg (by decide +kernel)]; exact ⟨rfl, rfl⟩))
    (fun os started H enc _ => lifted os started H enc)
end armapBack
theorem armapBack_holds : Rows.ArmapBackSaid := armapBack.over
#print axioms armapBack_holds
end Go.Proofs.Ytcjfjfhggfcnfaa
