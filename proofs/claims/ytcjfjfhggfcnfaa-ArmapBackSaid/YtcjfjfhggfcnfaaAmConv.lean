/- Shifts, conversions, slicing, stores, as rules. -/
import Derived.Test.YtcjfjfhggfcnfaaAmData
import Derived.Test.YtcjfjfhggfcnfaaAmExt
set_option linter.unusedSimpArgs false
set_option linter.unusedVariables false
namespace Go.Proofs.Ytcjfjfhggfcnfaa.Am
open Go
variable {cfg : Cfg} {P : Program}

@[simp] theorem bits_i64 : IntKind.bits .i64 = 64 := rfl
@[simp] theorem bits_i32 : IntKind.bits .i32 = 32 := rfl
@[simp] theorem bits_u64 : IntKind.bits .u64 = 64 := rfl
@[simp] theorem bits_u32 : IntKind.bits .u32 = 32 := rfl
@[simp] theorem bits_u16 : IntKind.bits .u16 = 16 := rfl
@[simp] theorem bits_u8 : IntKind.bits .u8 = 8 := rfl
theorem shrF_nat {k : IntKind} {x : Int} {n : Nat} : shrF k x (n : Int) = some (.int k (x / (2 ^ min n k.bits : Int))) := by
  have hp : (0 : Int) ≤ 2 ^ min n k.bits := Int.pow_nonneg (by decide)
  show (match x with
    | .ofNat m => some (AV.int k (.ofNat (Nat.div m (Nat.pow 2 (minN n (bitsOf k))))))
    | .negSucc m => some (AV.int k (.negSucc (Nat.div m (Nat.pow 2 (minN n (bitsOf k))))))) = _
  rw [minN_eq, bitsOf_eq]
  cases x with
  | ofNat m => simp only; rw [shr_pos, Int.fdiv_eq_ediv_of_nonneg _ hp]
  | negSucc m => simp only; rw [shr_neg, Int.fdiv_eq_ediv_of_nonneg _ hp]
theorem shrF_pos {k : IntKind} {x y : Int} (h : 0 ≤ y) : shrF k x y = some (.int k (x / (2 ^ min y.toNat k.bits : Int))) := by
  obtain ⟨n, rfl⟩ := Int.eq_ofNat_of_zero_le h
  exact shrF_nat
attribute [simp] shrF_pos
theorem shlF_nat {k : IntKind} {x : Int} {n : Nat} : shlF k x (n : Int) = some (.int k (k.wrap (x * 2 ^ min n k.bits))) := by
  show some (AV.int k (wrapF k (mulI x (.ofNat (Nat.pow 2 (minN n (bitsOf k))))))) = _
  rw [shl_eq]
theorem shlF_pos {k : IntKind} {x y : Int} (h : 0 ≤ y) : shlF k x y = some (.int k (k.wrap (x * 2 ^ min y.toNat k.bits))) := by
  obtain ⟨n, rfl⟩ := Int.eq_ofNat_of_zero_le h
  exact shlF_nat
attribute [simp] shlF_pos natOf_pos

noncomputable def cvI (s d : Option TypeDesc) (n : Int) (H : AHeap) : Res := match s, d with
  | some _, some (.int k) => some (.int k (k.wrap n), H)
  | _, _ => none
@[simp] theorem convA_int {imm : Bool} {s d : TypeId} {k : IntKind} {n : Int} {H : AHeap} : convA imm P s d (.int k n) H = cvI (P.underlying s) (P.underlying d) n H := by
  unfold convA cvI
  cases P.underlying s with
  | none => cases P.underlying d <;> rfl
  | some a => cases P.underlying d with
    | none => rfl
    | some b => cases b <;> (try (simp only [wrapF_eq]; done)) <;> cases a <;> (try rfl) <;> (simp only; rename_i e; try (rename_i e'; cases P.underlying e' <;> rfl)) <;> (try (cases P.underlying e <;> rfl)) <;> (split <;> simp_all [slLen])
@[simp] theorem cvI_int {a : TypeDesc} {k : IntKind} {n : Int} {H : AHeap} : cvI (some a) (some (.int k)) n H = some (.int k (k.wrap n), H) := rfl
/-- a byte, whatever it was -/
theorem u8_nat (n : Int) : ∃ b : Nat, b < 256 ∧ IntKind.wrap .u8 n = (b : Int) ∧ (b : Int) = n % 256 := by
  have h := wrap_of_rest .u8 n
  have e : ((modulus .u8 : Nat) : Int) = 256 := rfl
  rw [e] at h
  have h1 : IntKind.wrap .u8 n = n % 256 := by rw [h]; rfl
  have h2 : 0 ≤ n % 256 := Int.emod_nonneg _ (by decide)
  have h3 : n % 256 < 256 := Int.emod_lt_of_pos _ (by decide)
  exact ⟨(n % 256).toNat, by omega, by omega, by omega⟩
/-- bytes as a text -/
theorem oq_toStr {imm : Bool} {s d e : TypeId} {v : AV} {l : List Nat} {H : AHeap} {R : AV → AHeap → Prop} (hs : P.underlying s = some (.slice e)) (he : P.underlying e = some (.int .u8)) (hd : P.underlying d = some .string) (h : SV v (bs l) l.length) (hb : ∀ x ∈ l, x < 256)
    (k : R (.str l) H) : oqx (convA imm P s d v H) ⟨R⟩ () := by
  refine x_oq ?_
  rcases h with ⟨rfl, h1, h2⟩ | ⟨c, f, rfl⟩
  · have : l = [] := List.eq_nil_of_length_eq_zero h2
    subst this
    simp only [convA, hs, he, hd, slLen, slCells]
    exact k
  · have : convA imm P s d (.vsl (bs l) l.length c f) H = some (.str l, H) := by
      simp only [convA, hs, he, hd, slLen, slCells, nble_t (Nat.le_refl _), llen_eq, bs_length, ltake_eq]
      rw [nble_t (by show l.length * 1 ≤ l.length; omega)]
      simp only
      rw [List.take_of_length_le (by rw [bs_length]; show l.length ≤ l.length * 1; omega), omap_byte l hb]
    rw [this]; exact k
@[simp] theorem lput_nil0 {α : Type} {l : List α} {k : Nat} : lput l k [] = l := lput_nil l k
@[simp] theorem lput_z {α : Type} {a x : α} {l xs : List α} : lput (a :: l) 0 (x :: xs) = x :: lput l 0 xs := rfl
@[simp] theorem lput_s {α : Type} {a : α} {l xs : List α} {k : Nat} : lput (a :: l) (k + 1) xs = a :: lput l k xs := rfl
@[simp] theorem lcopies_z {α : Type} {l : List α} : lcopies 0 l = [] := rfl
@[simp] theorem lcopies_s {α : Type} {l : List α} {n : Nat} : lcopies (n + 1) l = l ++ lcopies n l := by show lapp l (lcopies n l) = _; rw [lapp_eq]
@[simp] theorem cellsOf_int {k : IntKind} {n : Int} : cellsOf (.int k n) = [.int k n] := rfl
@[simp] theorem cellsOf_str {s : List Nat} : cellsOf (.str s) = [.str s] := rfl
@[simp] theorem cellsOf_bool {b : Bool} : cellsOf (.bool b) = [.bool b] := rfl
@[simp] theorem cellsOf_agg {l : List AV} : cellsOf (.agg l) = l := rfl
@[simp] theorem cellsOf_nils : cellsOf .nils = [.nils] := rfl
@[simp] theorem cellsOf_vsl {c : List AV} {n : Nat} {a b : Bool} : cellsOf (.vsl c n a b) = [.vsl c n a b] := rfl
@[simp] theorem cellsOf_sl {id ver off len esz : Nat} {cap : Option Nat} : cellsOf (.sl id ver off len esz cap) = [.sl id ver off len esz cap] := rfl
@[simp] theorem known_int {k : IntKind} {n : Int} : known (.int k n) = some (.int k n) := rfl
@[simp] theorem known_str {s : List Nat} : known (.str s) = some (.str s) := rfl
@[simp] theorem known_bool {b : Bool} : known (.bool b) = some (.bool b) := rfl
@[simp] theorem known_agg {l : List AV} : known (.agg l) = some (.agg l) := rfl
@[simp] theorem known_nils : known .nils = some .nils := rfl
@[simp] theorem known_vsl {c : List AV} {n : Nat} {a b : Bool} : known (.vsl c n a b) = some (.vsl c n a b) := rfl
@[simp] theorem known_sl {id ver off len esz : Nat} {cap : Option Nat} : known (.sl id ver off len esz cap) = some (.sl id ver off len esz cap) := rfl
@[simp] theorem oAlloc_eq {t : TypeId} {H : AHeap} : oAlloc P t H = Option.elim (zeroOf P t) none (fun z => some (.ptr H.next 0 0, H.new (.arr (cellsOf z) 0 0 [(cellsOf z).length]))) := by
  unfold oAlloc
  cases zeroOf P t with
  | none => rfl
  | some z => show some (_, AHeap.new H (.arr (cellsOf z) 0 0 [llen (cellsOf z)])) = _; rw [llen_eq]; rfl
/-- a store over a whole object of its own -/
theorem storeM_own {n id off : Nat} {v : AV} {H : AHeap} {cells : List AV} (hg : H.get id = some (.arr cells 0 0 [cells.length])) (h1 : (cellsOf v).length = n) (h2 : (cellsOf v).all oneCell = true) (h3 : off + n ≤ cells.length) :
    storeM (some n) (.ptr id 0 off) v H = some (.tup [], H.put id (.arr (lput cells off (cellsOf v)) 0 0 [(lput cells off (cellsOf v)).length])) := by
  unfold storeM
  simp only [llen_eq, nbeq_t h1, lall_eq, h2, wrMem_p, wrObj, hg, wrArr]
  rw [nble_t (show Nat.add off (cellsOf v).length ≤ cells.length by rw [h1]; exact h3)]
  simp only [lput_length]
@[simp] theorem moveA_ptr {n id ver off : Nat} : moveA n (.ptr id ver off) = some (.ptr id ver (off + n)) := rfl
theorem moveA_v {n : Nat} {cells : List AV} (h : n ≤ cells.length) : moveA n (.vptr cells) = some (.vptr (cells.drop n)) := by
  simp only [moveA, llen_eq, nble_t h, ldrop_eq]
theorem lput_all {α : Type} : ∀ {cells xs : List α}, xs.length = cells.length → lput cells 0 xs = xs
  | [], xs, h => by
    have : xs = [] := List.eq_nil_of_length_eq_zero h
    subst this; rfl
  | a :: cells, [], h => by cases h
  | a :: cells, x :: xs, h => by rw [lput_z, lput_all (by simpa using h)]
/-- a store into what was made just now -/
theorem oq_storeNew {n k : Nat} {v : AV} {cells : List AV} {H : AHeap} {R : AV → AHeap → Prop} (h1 : (cellsOf v).length = n) (h2 : (cellsOf v).all oneCell = true) (hk : k = cells.length) (h3 : n = cells.length)
    (kk : R (.tup []) ((H.new (.arr cells 0 0 [k])).put H.next (.arr (cellsOf v) 0 0 [n]))) : oqx (storeM (some n) (.ptr H.next 0 0) v (H.new (.arr cells 0 0 [k]))) ⟨R⟩ () := by
  refine x_oq ?_
  subst hk
  rw [storeM_own (get_new_same rfl) h1 h2 (by omega), lput_all (by omega), h1]
  exact kk
@[simp] theorem rdObj_one {cells : List AV} {off n k : Nat} : rdObj 0 off n (some (.arr cells 0 0 [k])) = if off + n ≤ k then some ((cells.drop off).take n) else none := by
  simp only [rdObj, rdArr, arrRead, ltake_eq, ldrop_eq]
  by_cases h : off + n ≤ k
  · rw [if_pos h, nble_t (show Nat.add off n ≤ extOf [k] 0 0 from h)]
  · rw [if_neg h, nble_f (show extOf [k] 0 0 < Nat.add off n from by show k < off + n; omega)]
noncomputable def slvM (d : Option IxI) (cells : List AV) (len : Nat) (c f : Bool) (lo hi : Option Nat) : Option AV := match d, lo, hi with
  | some (.sl n), some l, some h => if l ≤ h ∧ h ≤ len ∧ cells.length = len * n then some (.vsl ((cells.drop (l * n)).take ((h - l) * n)) (h - l) (c && decide (h = len)) f) else none
  | _, _, _ => none
@[simp] theorem sliceA_v {t : TypeId} {cells : List AV} {len : Nat} {c f : Bool} {lo hi : Option AV} : sliceA P t (.vsl cells len c f) lo hi none = slvM (ixI P t) cells len c f (boundA 0 lo) (boundA len hi) := by
  unfold sliceA slvM ixI
  cases P.underlying t with
  | none => rfl
  | some d =>
    cases d <;> try rfl
    case slice e =>
      simp only
      cases szOf P e with
      | none => rfl
      | some n =>
        cases boundA 0 lo with
        | none => rfl
        | some l =>
          cases boundA len hi with
          | none => rfl
          | some h =>
            simp only [boundA, llen_eq, ldrop_eq, ltake_eq]
            by_cases h1 : l ≤ h
            · by_cases h2 : h ≤ len
              · by_cases h3 : cells.length = len * n
                · rw [nble_t h1, nble_t h2, nble_t (Nat.le_refl len), nbeq_t (show cells.length = Nat.mul len n from h3), if_pos ⟨h1, h2, h3⟩]
                  cases c with
                  | false => rfl
                  | true => simp only [nbeq]; rfl
                · rw [nble_t h1, nble_t h2, nble_t (Nat.le_refl len), nbeq_f (show cells.length ≠ Nat.mul len n from h3), if_neg (fun h => h3 h.2.2)]
              · rw [nble_t h1, nble_f (by omega : len < h), if_neg (fun h => h2 h.2.1)]
            · rw [nble_f (by omega : h < l), if_neg (fun h => h1 h.1)]
    case array len' e =>
      simp only
      cases szOf P e <;> rfl
theorem slvM_ok {n l h len : Nat} {cells : List AV} {c f : Bool} (h1 : l ≤ h) (h2 : h ≤ len) (h3 : cells.length = len * n) : slvM (some (.sl n)) cells len c f (some l) (some h) = some (.vsl ((cells.drop (l * n)).take ((h - l) * n)) (h - l) (c && decide (h = len)) f) := by
  simp only [slvM]; rw [if_pos ⟨h1, h2, h3⟩]
theorem slv_bs {l h len : Nat} {z : List Nat} {c f : Bool} (h1 : l ≤ h) (h2 : h ≤ len) (h3 : z.length = len) : slvM (some (.sl 1)) (bs z) len c f (some l) (some h) = some (.vsl (bs ((z.drop l).take (h - l))) (h - l) (c && decide (h = len)) f) := by
  rw [slvM_ok h1 h2 (by simp [h3]), Nat.mul_one, Nat.mul_one, bs_drop, bs_take]
attribute [simp] slv_bs
@[simp] theorem boundA_none {d : Nat} : boundA d none = some d := rfl
@[simp] theorem boundA_some {d : Nat} {v : AV} : boundA d (some v) = natOfA v := rfl
@[simp] theorem opts_none {T : ATmps} : opts T none = none := rfl
@[simp] theorem opts_some {T : ATmps} {x : Operand} : opts T (some x) = some (operand x T) := rfl
theorem low_nat {M n : Nat} (h : n < M) : low M (n : Int) = n := Nat.mod_eq_of_lt h
theorem bin_or64 {t : TypeId} {x y : Operand} {m n : Nat} (h1 : m < 18446744073709551616) (h2 : n < 18446744073709551616) : binA P .or t x y (.int .u64 (m : Nat)) (.int .u64 (n : Nat)) = some (.int .u64 ((m ||| n : Nat))) := by
  rw [binA_int rfl]
  show some (AV.int .u64 (back .u64 (Nat.lor (low 18446744073709551616 m) (low 18446744073709551616 n)))) = _
  rw [low_nat h1, low_nat h2]
  rfl
@[simp] theorem extractA_z {v : AV} {l : List AV} : extractA 0 (.tup (v :: l)) = some v := rfl
@[simp] theorem extractA_s {v : AV} {l : List AV} {n : Nat} : extractA (n + 1) (.tup (v :: l)) = extractA n (.tup l) := rfl
@[simp] theorem extractA_1 {v u : AV} {l : List AV} : extractA 1 (.tup (v :: u :: l)) = some u := rfl
@[simp] theorem extractA_2 {v u x : AV} {l : List AV} : extractA 2 (.tup (v :: u :: x :: l)) = some x := rfl
theorem calls_ext {f : Nat} {g : List AV → Option AV} {args : List AV} {v : AV} {H : AHeap} {Q : AOut → AHeap → Prop} (hx : cfg.ext f = some g) (hn : lall (noRefs 24) args = true) (hg : g args = some v) (hv : noRefs 24 v = true) (hq : Q (.ret v) H) : CallsTo cfg P f args H Q :=
  ⟨0, .ret v, H, fun m _ => by simp only [callF, hx, hn, hg, hv], hq⟩
theorem bytesA_bs {v : AV} {l : List Nat} (h : SV v (bs l) l.length) (hb : ∀ x ∈ l, x < 256) : bytesA v = some l := by
  rcases h with ⟨rfl, h1, h2⟩ | ⟨c, f, rfl⟩
  · rw [List.eq_nil_of_length_eq_zero h2]; rfl
  · simp only [bytesA, llen_eq, bs_length, nble_t (Nat.le_refl _), ltake_eq]
    rw [List.take_of_length_le (by simp), omap_byte l hb]
theorem extIdx_bs {v : AV} {l : List Nat} {c : Nat} (h : SV v (bs l) l.length) (hb : ∀ x ∈ l, x < 256) (hc : c < 256) : extIdx [v, .int .u8 (c : Nat)] = some (.int .i64 (idxA l c)) := by
  show (match bytesA v, Nat.ble c 255 with
    | some l, true => some (AV.int .i64 (idxA l c))
    | _, _ => none) = _
  rw [bytesA_bs h hb, nble_t (by omega)]
@[simp] theorem noRefs_int {k : IntKind} {n : Int} : noRefs 24 (.int k n) = true := rfl
@[simp] theorem noRefs_str {s : List Nat} : noRefs 24 (.str s) = true := rfl
@[simp] theorem noRefs_bool {b : Bool} : noRefs 24 (.bool b) = true := rfl
@[simp] theorem noRefs_nils : noRefs 24 .nils = true := rfl
@[simp] theorem noRefs_bs {l : List Nat} {n : Nat} {c f : Bool} : noRefs 24 (.vsl (bs l) n c f) = true := by rw [noRefs_succ]; exact lall_all.mpr (bs_noRefs l _)
theorem SV.bs_noRefs {v : AV} {l : List Nat} (h : SV v (bs l) l.length) : Am.noRefs 24 v = true := h.noRefs (d := 23) (Am.bs_noRefs l _)
@[simp] theorem enterA_0  : enterA [] = .leaf := rfl
@[simp] theorem enterA_1 {a0 : AV} : enterA [a0] = (Tr.set .leaf a0 0) := rfl
@[simp] theorem enterA_2 {a0 a1 : AV} : enterA [a0, a1] = (Tr.set (Tr.set .leaf a0 0) a1 1) := rfl
@[simp] theorem enterA_3 {a0 a1 a2 : AV} : enterA [a0, a1, a2] = (Tr.set (Tr.set (Tr.set .leaf a0 0) a1 1) a2 2) := rfl
@[simp] theorem enterA_4 {a0 a1 a2 a3 : AV} : enterA [a0, a1, a2, a3] = (Tr.set (Tr.set (Tr.set (Tr.set .leaf a0 0) a1 1) a2 2) a3 3) := rfl
@[simp] theorem enterA_5 {a0 a1 a2 a3 a4 : AV} : enterA [a0, a1, a2, a3, a4] = (Tr.set (Tr.set (Tr.set (Tr.set (Tr.set .leaf a0 0) a1 1) a2 2) a3 3) a4 4) := rfl
@[simp] theorem enterA_6 {a0 a1 a2 a3 a4 a5 : AV} : enterA [a0, a1, a2, a3, a4, a5] = (Tr.set (Tr.set (Tr.set (Tr.set (Tr.set (Tr.set .leaf a0 0) a1 1) a2 2) a3 3) a4 4) a5 5) := rfl
@[simp] theorem enterA_7 {a0 a1 a2 a3 a4 a5 a6 : AV} : enterA [a0, a1, a2, a3, a4, a5, a6] = (Tr.set (Tr.set (Tr.set (Tr.set (Tr.set (Tr.set (Tr.set .leaf a0 0) a1 1) a2 2) a3 3) a4 4) a5 5) a6 6) := rfl
@[simp] theorem enterA_8 {a0 a1 a2 a3 a4 a5 a6 a7 : AV} : enterA [a0, a1, a2, a3, a4, a5, a6, a7] = (Tr.set (Tr.set (Tr.set (Tr.set (Tr.set (Tr.set (Tr.set (Tr.set .leaf a0 0) a1 1) a2 2) a3 3) a4 4) a5 5) a6 6) a7 7) := rfl
@[simp] theorem enterA_9 {a0 a1 a2 a3 a4 a5 a6 a7 a8 : AV} : enterA [a0, a1, a2, a3, a4, a5, a6, a7, a8] = (Tr.set (Tr.set (Tr.set (Tr.set (Tr.set (Tr.set (Tr.set (Tr.set (Tr.set .leaf a0 0) a1 1) a2 2) a3 3) a4 4) a5 5) a6 6) a7 7) a8 8) := rfl
noncomputable def fillM (pl : Option (Nat × Nat)) (kn : Option AV) (v : AV) (cells : List AV) (go : List AV → Option (List AV)) : Option (List AV) := match pl with
  | none => none
  | some (off, size) => match kn with
    | none => none
    | some _ => if (cellsOf v).length = size ∧ off + size ≤ cells.length then go (lput cells off (cellsOf v)) else none
@[simp] theorem fillA_nil {place : Nat → Option (Nat × Nat)} {cells : List AV} : fillA place [] cells = some cells := rfl
@[simp] theorem fillA_cons {place : Nat → Option (Nat × Nat)} {p : Nat × AV} {ps : List (Nat × AV)} {cells : List AV} : fillA place (p :: ps) cells = fillM (place p.1) (known p.2) p.2 cells (fillA place ps) := by
  show (match place p.1 with
    | none => none
    | some (off, size) => match known p.2 with
      | none => none
      | some _ => match Nat.beq (llen (cellsOf p.2)) size, Nat.ble (Nat.add off size) (llen cells) with
        | true, true => fillA place ps (lput cells off (cellsOf p.2))
        | _, _ => none) = _
  unfold fillM
  cases place p.1 with
  | none => rfl
  | some q =>
    obtain ⟨off, size⟩ := q
    cases known p.2 with
    | none => rfl
    | some _ =>
      simp only [llen_eq]
      by_cases h1 : (cellsOf p.2).length = size
      · by_cases h2 : off + size ≤ cells.length
        · rw [nbeq_t h1, nble_t (show Nat.add off size ≤ _ from h2), if_pos ⟨h1, h2⟩]
        · rw [nbeq_t h1, nble_f (show _ < Nat.add off size by show _ < off + size; omega), if_neg (fun h => h2 h.2)]
      · rw [nbeq_f h1, if_neg (fun h => h1 h.1)]
@[simp] theorem fillM_some {off size : Nat} {u v : AV} {cells : List AV} {go : List AV → Option (List AV)} : fillM (some (off, size)) (some u) v cells go = if (cellsOf v).length = size ∧ off + size ≤ cells.length then go (lput cells off (cellsOf v)) else none := rfl
@[simp] theorem rd_one {a : AV} {l : List AV} {H : AHeap} : rdMem 1 (.vptr (a :: l)) H = some [a] := by rw [rdMem_v (by simp)]; rfl
noncomputable def strIx (d : Option TypeDesc) (s : List Nat) (i : Option Nat) : Option AV := match d, i with
  | some .string, some i => match s[i]? with
    | some b => some (.int .u8 (b : Nat))
    | none => none
  | _, _ => none
@[simp] theorem indexA_str {t : TypeId} {s : List Nat} {i : AV} : indexA P t (.str s) i = strIx (P.underlying t) s (natOfA i) := by
  unfold indexA strIx
  cases P.underlying t with
  | none => rfl
  | some d =>
    cases natOfA i with
    | none => cases d <;> rfl
    | some i => cases d <;> first | rfl | (simp only [lget_eq]; cases s[i]? <;> rfl)
theorem strIx_lt {s : List Nat} {i : Nat} (h : i < s.length) : strIx (some .string) s (some i) = some (.int .u8 (s[i] : Nat)) := by
  simp only [strIx, List.getElem?_eq_getElem h]
attribute [simp] strIx_lt moveA_v
end Go.Proofs.Ytcjfjfhggfcnfaa.Am
