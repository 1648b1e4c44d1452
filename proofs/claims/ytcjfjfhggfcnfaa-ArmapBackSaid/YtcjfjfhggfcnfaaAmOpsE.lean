/- Addresses, parts and pieces, held against the model's. -/
import Derived.Test.YtcjfjfhggfcnfaaAmOpsD
import Derived.Laws.BytesString
import Derived.Lib.Strings
set_option linter.unusedSimpArgs false
set_option linter.unusedVariables false
namespace Go.Proofs.Ytcjfjfhggfcnfaa.Am
open Go
variable {P : Program} {w : World} {e : Env} {H H' : AHeap}

theorem natOfA_ok {a : AV} {v : Value} {n : Nat} (hv : VR e w a v) (h : natOfA a = some n) : ∃ k, v = .int k n := by
  cases a <;> try (cases h; done)
  rename_i k i
  cases i with
  | ofNat m =>
    simp only [natOfA, Option.some.injEq] at h
    subst h
    simp only [VR] at hv
    exact ⟨k, hv⟩
  | negSucc m => cases h
def OptOk (e : Env) (w : World) : Option AV → Option Value → Prop
  | none, none => True
  | some a, some v => VR e w a v
  | _, _ => False

theorem run_bound {k : IntKind} {n y : Nat} (code : BoundsCode) (h : n ≤ y) : (Instr.sliceBound (.int k n) y code).run P w = .ok n w := by
  unfold Instr.sliceBound
  rw [bind_ok (s := asIntOf _) (a := (k, (n : Int))) (w' := w) rfl]
  simp only
  rw [if_pos ⟨by omega, by omega⟩]; rfl
theorem bound_cases {d n : Nat} {o : Option AV} {v : Option Value} (ho : OptOk e w o v) (h : boundA d o = some n) : (o = none ∧ v = none ∧ n = d) ∨ (∃ a k, o = some a ∧ v = some (.int k n)) := by
  cases o with
  | none => cases v with
    | none => simp only [boundA, Option.some.injEq] at h; exact .inl ⟨rfl, rfl, h.symm⟩
    | some v => exact ho.elim
  | some a => cases v with
    | none => exact ho.elim
    | some v =>
      obtain ⟨k, rfl⟩ := natOfA_ok ho h
      exact .inr ⟨a, k, rfl, rfl⟩
theorem run_bounds2 {b : Bool} {len cap l h : Nat} {lo hi : Option AV} {vl vh : Option Value} (hl : OptOk e w lo vl) (hh : OptOk e w hi vh)
    (h1 : boundA 0 lo = some l) (h2 : boundA len hi = some h) (h3 : l ≤ h) (h4 : h ≤ len) (h5 : len ≤ cap) : (Instr.sliceBounds b len cap vl vh none).run P w = .ok (l, h, cap) w := by
  unfold Instr.sliceBounds
  rcases bound_cases hl h1 with ⟨_, rfl, rfl⟩ | ⟨_, kl, _, rfl⟩ <;> rcases bound_cases hh h2 with ⟨_, rfl, rfl⟩ | ⟨_, kh, _, rfl⟩ <;> simp only
  · rfl
  · rw [bind_ok (run_pure P cap w), bind_ok (run_bound _ (by omega))]; rfl
  · rw [bind_ok (run_pure P cap w), bind_ok (run_pure P _ w), bind_ok (run_bound _ (by omega))]; rfl
  · rw [bind_ok (run_pure P cap w), bind_ok (run_bound _ (by omega)), bind_ok (run_bound _ (by omega))]; rfl
theorem run_bounds3 {b : Bool} {len cap l h m : Nat} {lo hi mx : Option AV} {vl vh vm : Option Value} (hl : OptOk e w lo vl) (hh : OptOk e w hi vh) (hm : OptOk e w mx vm)
    (h1 : boundA 0 lo = some l) (h2 : boundA len hi = some h) (h0 : boundA len mx = some m) (hs : hi.isSome = true) (hs' : mx.isSome = true) (h3 : l ≤ h) (h4 : h ≤ m) (h5 : m ≤ cap) :
    (Instr.sliceBounds b len cap vl vh vm).run P w = .ok (l, h, m) w := by
  unfold Instr.sliceBounds
  rcases bound_cases hm h0 with ⟨rfl, _⟩ | ⟨_, km, _, rfl⟩
  · cases hs'
  · rcases bound_cases hh h2 with ⟨rfl, _⟩ | ⟨_, kh, _, rfl⟩
    · cases hs
    · rcases bound_cases hl h1 with ⟨_, rfl, rfl⟩ | ⟨_, kl, _, rfl⟩ <;> simp only
      · rw [bind_ok (run_bound _ h5), bind_ok (run_bound _ h4)]; rfl
      · rw [bind_ok (run_bound _ h5), bind_ok (run_bound _ h4), bind_ok (run_bound _ h3)]; rfl

theorem sliceAt_slice {t : TypeId} {v : Value} {a b c : Option Value} {d : TypeDesc} (hk : P.underlying t = some d) (hd : ∀ n q, d ≠ .array n q) : (Instr.sliceAt t v a b c).run P w = (Instr.slice t v a b c).run P w := by
  unfold Instr.sliceAt
  rw [bind_ok (run_underlying hk)]
  cases d <;> first
    | rfl
    | exact absurd rfl (hd _ _)
theorem ble_iff {a b : Nat} : Nat.ble a b = true ↔ a ≤ b := by rw [Nat.ble_eq]
theorem run_slice_sl {t el : TypeId} {n l h m len c b o : Nat} {vl vh vm : Option Value} (hk : P.underlying t = some (.slice el)) (hs : szOf P el = some n)
    (hb : (Instr.sliceBounds true len c vl vh vm).run P w = .ok (l, h, m) w) :
    (Instr.slice t (.slice (some ⟨b, o, none⟩) len c) vl vh vm).run P w = .ok (.slice (some (if m = l then ⟨b, o, none⟩ else ⟨b, o + l * n, none⟩)) (h - l) (m - l)) w := by
  unfold Instr.slice
  rw [bind_ok (run_underlying hk)]
  simp only
  rw [bind_ok hb]
  simp only
  rw [bind_ok (run_sizeOf hs)]
  by_cases h0 : m = l
  · simp only [h0, if_true]; rfl
  · simp only [h0, if_false, Option.map_some, add_eq]; rfl

theorem run_slice_same {t el : TypeId} {n l h len c : Nat} {ad : Addr} {vl vh vm : Option Value} (hk : P.underlying t = some (.slice el)) (hs : szOf P el = some n)
    (hb : (Instr.sliceBounds true len c vl vh vm).run P w = .ok (l, h, l) w) :
    (Instr.slice t (.slice (some ad) len c) vl vh vm).run P w = .ok (.slice (some ad) (h - l) (l - l)) w := by
  unfold Instr.slice
  rw [bind_ok (run_underlying hk)]
  simp only
  rw [bind_ok hb]
  simp only
  rw [bind_ok (run_sizeOf hs)]
  simp only [if_true]; rfl
theorem sliceA_ok {t : TypeId} {x y : AV} {v : Value} {lo hi mx : Option AV} {vl vh vm : Option Value} (hv : VR e w x v) (hl : OptOk e w lo vl) (hh : OptOk e w hi vh) (hm : OptOk e w mx vm)
    (h : sliceA P t x lo hi mx = some y) : ∃ u, (Instr.sliceAt t v vl vh vm).run P w = .ok u w ∧ VR e w y u := by
  unfold sliceA at h
  split at h
  · -- texts
    rename_i s hk
    rw [sliceAt_slice hk (by simp)]
    split at h
    · rename_i l q h1 h2
      have hvm : vm = none := by cases vm with
        | none => rfl
        | some v => exact hm.elim
      subst hvm
      split at h
      · rename_i h3 h4
        rw [ble_iff] at h3 h4
        rw [llen_eq] at h4 h2
        cases h
        simp only [VR] at hv
        obtain ⟨bs, rfl, rfl⟩ := hv
        have hsz : (bs.data.toList.map UInt8.toNat).length = bs.size := str_size rfl
        rw [hsz] at h2 h4
        have hb := run_bounds2 (P := P) (b := false) (cap := bs.size) hl hh h1 h2 h3 h4 (Nat.le_refl _)
        refine ⟨.string (bs.extract l q), ?_, ?_⟩
        · unfold Instr.slice
          rw [bind_ok (run_underlying hk)]
          simp only [Option.isSome_none, Bool.false_eq_true, if_false]
          rw [bind_ok hb]; rfl
        · simp only [VR]
          refine ⟨_, rfl, ?_⟩
          rw [Lib.extract_data, ltake_eq, ldrop_eq, List.map_take, List.map_drop]; rfl
      · cases h
    · cases h
  · -- nil
    rename_i el hk
    rw [sliceAt_slice hk (by simp)]
    simp only [VR] at hv
    subst hv
    split at h
    · rename_i h1 h2 h3 hn0
      have hx : y = .nils ∧ ¬ (hi = none ∧ mx.isSome = true) := by
        split at h
        · cases h
        · rename_i hh
          cases h
          refine ⟨rfl, fun ⟨ha, hb⟩ => ?_⟩
          cases mx with
          | none => cases hb
          | some m => exact hh _ ha rfl
      obtain ⟨rfl, hnot⟩ := hx
      have hb : (Instr.sliceBounds true 0 0 vl vh vm).run P w = .ok (0, 0, 0) w := by
        cases hmx : mx with
        | none =>
          have hvm : vm = none := by
            rw [hmx] at hm
            cases vm with
            | none => rfl
            | some v => exact hm.elim
          subst hvm
          exact run_bounds2 hl hh h1 h2 (Nat.le_refl _) (Nat.le_refl _) (Nat.le_refl _)
        | some m =>
          have hsome : hi.isSome = true := by
            cases hhi : hi with
            | none => exact absurd ⟨hhi, by rw [hmx]; rfl⟩ hnot
            | some q => rfl
          exact run_bounds3 hl hh hm h1 h2 h3 hsome (by rw [hmx]; rfl) (Nat.le_refl _) (Nat.le_refl _) (Nat.le_refl _)
      have hsz : ∃ n, szOf P el = some n := by
        cases hsz : szOf P el with
        | none => rw [hsz] at hn0; cases hn0
        | some n => exact ⟨n, rfl⟩
      obtain ⟨n, hsz⟩ := hsz
      refine ⟨.slice none 0 0, ?_, by simp only [VR]⟩
      unfold Instr.slice
      rw [bind_ok (run_underlying hk)]
      simp only
      rw [bind_ok hb]
      simp only
      rw [bind_ok (run_sizeOf hsz)]
      rfl
    · cases h
  · -- a family's
    rename_i el id ver off len esz cap hk
    rw [sliceAt_slice hk (by simp)]
    split at h
    · rename_i n l q m hs h1 h2 h3
      split at h
      · rename_i g1 g2 g3 g4 g5
        obtain rfl := Nat.eq_of_beq_eq_true g1
        rw [ble_iff] at g2 g3 g4 g5
        simp only [VR] at hv
        obtain ⟨b, N, X, o, c, hβ, rfl, hlen, hX, hcap, ho⟩ := hv
        have hmul : ∀ a b : Nat, a ≤ b → a * n ≤ b * n := fun a b h => Nat.mul_le_mul_right n h
        have hqn := hmul _ _ g3
        split at h
        · cases h
        · rename_i am ah _
          cases h
          have hb := run_bounds3 (P := P) (w := w) (b := true) hl hh hm h1 h2 h3 rfl rfl g2 g5 (Nat.le_trans g4 hlen)
          refine ⟨_, run_slice_sl hk hs hb, ?_⟩
          simp only [VR]
          refine ⟨b, N, X, if m = l then o else o + l * n, m - l, hβ, by split <;> rfl, by show q - l ≤ m - l; omega, ?_, fun c' hc => Option.some.inj hc, ?_⟩
          · have h5 : off + l * n + (q - l) * n = off + q * n := by rw [Nat.add_assoc, ← Nat.add_mul]; congr 2; omega
            show off + l * n + (q - l) * n ≤ X
            omega
          · by_cases hml : m = l
            · right; show q - l = 0 ∧ m - l = 0; omega
            · left
              rcases ho with ⟨rfl, hN⟩ | ⟨rfl, rfl⟩
              · refine ⟨by rw [if_neg hml]; rfl, ?_⟩
                have h5 : o + l * n + (m - l) * n = o + m * n := by rw [Nat.add_assoc, ← Nat.add_mul]; congr 2; omega
                have := hmul m c (Nat.le_trans g4 hlen)
                show o + l * n + (m - l) * n ≤ N
                omega
              · exact absurd (show m = l by omega) hml
        · rename_i hnone _ _
          cases h
          have hvm : vm = none := by cases vm with
            | none => rfl
            | some v => exact hm.elim
          subst hvm
          have hb := run_bounds2 (P := P) (w := w) (b := true) (cap := c) hl hh h1 h2 g2 g3 hlen
          refine ⟨_, run_slice_sl hk hs hb, ?_⟩
          simp only [VR]
          refine ⟨b, N, X, if c = l then o else o + l * n, c - l, hβ, by split <;> rfl, by show q - l ≤ c - l; omega, ?_, ?_, ?_⟩
          · have h5 : off + l * n + (q - l) * n = off + q * n := by rw [Nat.add_assoc, ← Nat.add_mul]; congr 2; omega
            show off + l * n + (q - l) * n ≤ X
            omega
          · intro c' hc
            cases cap with
            | none => cases hc
            | some c0 => have := hcap c0 rfl; cases hc; rw [this]; rfl
          · by_cases hml : c = l
            · right; show q - l = 0 ∧ c - l = 0; omega
            · left
              rcases ho with ⟨rfl, hN⟩ | ⟨rfl, rfl⟩
              · refine ⟨by rw [if_neg hml]; rfl, ?_⟩
                have h5 : o + l * n + (c - l) * n = o + c * n := by rw [Nat.add_assoc, ← Nat.add_mul]; congr 2; omega
                show o + l * n + (c - l) * n ≤ N
                omega
              · exact absurd (show 0 = l by omega) hml
      · cases h
    · cases h
  · -- one that stays as it is
    rename_i el cells len capped fresh hk
    rw [sliceAt_slice hk (by simp)]
    split at h
    · rename_i n l q m hs h1 h2 h3
      split at h
      · rename_i g2 g3 g4 g5 g6
        rw [ble_iff] at g2 g3 g4 g5
        have g6 := Nat.eq_of_beq_eq_true g6
        rw [llen_eq] at g6
        change cells.length = len * n at g6
        simp only [VR] at hv
        obtain ⟨b, o, sp, c, rfl, hsp, hlen, hcap, hfr, hM⟩ := hv
        rcases hsp with rfl | ⟨hc0, hfr0⟩
        case inr =>
          have hl0 : len = 0 := by omega
          have hq0 : q = 0 := by omega
          have hm0 : m = 0 := by omega
          have hz0 : l = 0 := by omega
          subst hl0 hq0 hm0 hz0 hc0
          have hnil : VM e w (ltake (Nat.mul (Nat.sub 0 0) n) (ldrop (Nat.mul 0 n) cells)) b o := by
            rw [ltake_eq]
            show VM e w (List.take ((0 - 0) * n) _) b _
            rw [Nat.sub_zero, Nat.zero_mul, List.take_zero]
            simp only [VM]
          split at h
          · cases h
          · rename_i am ah _
            cases h
            have hb := run_bounds3 (P := P) (w := w) (b := true) hl hh hm h1 h2 h3 rfl rfl g2 g5 (Nat.le_trans g4 hlen)
            refine ⟨_, run_slice_same hk hs hb, ?_⟩
            simp only [VR]
            exact ⟨b, o, sp, 0, rfl, .inr ⟨rfl, hfr0⟩, Nat.le_refl _, fun _ => rfl, hfr, hnil⟩
          · rename_i hnone _ _
            cases h
            have hvm : vm = none := by cases vm with
              | none => rfl
              | some v => exact hm.elim
            subst hvm
            have hb := run_bounds2 (P := P) (w := w) (b := true) (cap := 0) hl hh h1 h2 g2 g3 hlen
            refine ⟨_, run_slice_same hk hs hb, ?_⟩
            simp only [VR]
            exact ⟨b, o, sp, 0, rfl, .inr ⟨rfl, hfr0⟩, Nat.le_refl _, fun _ => rfl, hfr, hnil⟩
        have hcut : ∀ (z : Nat), VM e w (ltake (Nat.mul (Nat.sub q l) n) (ldrop (Nat.mul l n) cells)) b (if z = l then o else o + l * n) ∨ z ≠ l ∨ q - l ≠ 0 := by
          intro z
          by_cases hz : z = l
          · by_cases hq : q - l = 0
            · left
              rw [ltake_eq]
              show VM e w (List.take ((q - l) * n) _) b _
              rw [hq, Nat.zero_mul, List.take_zero]
              simp only [VM]
            · exact .inr (.inr hq)
          · exact .inr (.inl hz)
        have hcut' : VM e w (ltake (Nat.mul (Nat.sub q l) n) (ldrop (Nat.mul l n) cells)) b (o + l * n) := by
          rw [ltake_eq, ldrop_eq]; exact (hM.drop _).take _
        have hfin : ∀ z, l ≤ z → q ≤ z → VM e w (ltake (Nat.mul (Nat.sub q l) n) (ldrop (Nat.mul l n) cells)) b (if z = l then o else o + l * n) := by
          intro z hz1 hz2
          by_cases hz : z = l
          · rcases hcut z with h | h | h
            · exact h
            · exact absurd hz h
            · omega
          · rw [if_neg hz]; exact hcut'
        split at h
        · cases h
        · rename_i am ah _
          cases h
          have hb := run_bounds3 (P := P) (w := w) (b := true) hl hh hm h1 h2 h3 rfl rfl g2 g5 (Nat.le_trans g4 hlen)
          refine ⟨_, run_slice_sl hk hs hb, ?_⟩
          simp only [VR]
          refine ⟨b, if m = l then o else o + l * n, none, m - l, by split <;> rfl, .inl rfl, by show q - l ≤ m - l; omega, fun hc => ?_, hfr, hfin m (by omega) g5⟩
          have := Nat.eq_of_beq_eq_true hc
          subst this; rfl
        · rename_i hnone _ _
          cases h
          have hvm : vm = none := by cases vm with
            | none => rfl
            | some v => exact hm.elim
          subst hvm
          have hb := run_bounds2 (P := P) (w := w) (b := true) (cap := c) hl hh h1 h2 g2 g3 hlen
          refine ⟨_, run_slice_sl hk hs hb, ?_⟩
          simp only [VR]
          refine ⟨b, if c = l then o else o + l * n, none, c - l, by split <;> rfl, .inl rfl, by show q - l ≤ c - l; omega, fun hc => ?_, hfr, hfin c (by omega) (by omega)⟩
          cases capped with
          | false => cases hc
          | true =>
            have h7 := hcap rfl
            have h8 := Nat.eq_of_beq_eq_true hc
            subst h8; rw [h7]; rfl
      · cases h
    · cases h
  · cases h
end Go.Proofs.Ytcjfjfhggfcnfaa.Am
