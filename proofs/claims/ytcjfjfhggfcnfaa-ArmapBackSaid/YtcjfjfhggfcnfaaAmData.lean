/- Slices as they are met: views, slices that grow; appending, freezing. -/
import Derived.Test.YtcjfjfhggfcnfaaAmX
import Derived.Test.YtcjfjfhggfcnfaaAmMono
set_option linter.unusedSimpArgs false
set_option linter.unusedVariables false
namespace Go.Proofs.Ytcjfjfhggfcnfaa.Am
open Go
variable {cfg : Cfg} {P : Program}

/-- A slice without memory behind it, of so many cells, so many elements. -/
def SV (v : AV) (cells : List AV) (n : Nat) : Prop := (v = .nils ∧ cells = [] ∧ n = 0) ∨ ∃ c f, v = .vsl cells n c f
/-- A slice that only this call holds, and that may grow. -/
def Grow (H : AHeap) (v : AV) (esz : Nat) (cells : List AV) (n : Nat) : Prop :=
  (v = .nils ∧ cells = [] ∧ n = 0) ∨ ∃ id ver low exts, v = .sl id ver 0 n esz none ∧ H.get id = some (.arr cells low ver (cells.length :: exts)) ∧ cells.length = n * esz ∧ low ≤ ver ∧ id < H.next
def idOf : AV → List Nat
  | .sl id .. => [id]
  | .ptr id .. => [id]
  | .map id => [id]
  | _ => []
/-- All but some objects stay. -/
def Keeps (H H' : AHeap) (ids : List Nat) : Prop := H.next ≤ H'.next ∧ ∀ j, j < H.next → j ∉ ids → H'.get j = H.get j
theorem Keeps.refl (H : AHeap) (ids : List Nat) : Keeps H H ids := ⟨Nat.le_refl _, fun _ _ _ => rfl⟩
theorem Keeps.trans {H H' H'' : AHeap} {ids : List Nat} (h : Keeps H H' ids) (k : Keeps H' H'' ids) : Keeps H H'' ids :=
  ⟨Nat.le_trans h.1 k.1, fun j hj hn => (k.2 j (Nat.lt_of_lt_of_le hj h.1) hn).trans (h.2 j hj hn)⟩
theorem Keeps.mono {H H' : AHeap} {ids ids' : List Nat} (h : Keeps H H' ids) (k : ∀ i, i ∈ ids → i ∈ ids') : Keeps H H' ids' :=
  ⟨h.1, fun j hj hn => h.2 j hj fun hh => hn (k _ hh)⟩
theorem Keeps.new (H : AHeap) (o : AObj) (ids : List Nat) : Keeps H (H.new o) ids := ⟨Nat.le_succ _, fun j hj _ => by rw [AHeap.get_new, if_neg (by omega)]⟩
theorem Keeps.put {H H' : AHeap} {ids : List Nat} (h : Keeps H H' ids) {i : Nat} (o : AObj) (hi : H.next ≤ i ∨ i ∈ ids) : Keeps H (H'.put i o) ids :=
  ⟨h.1, fun j hj hn => by
    rw [AHeap.get_put, if_neg (fun hh => by subst hh; rcases hi with h | h; omega; exact hn h)]
    exact h.2 j hj hn⟩
theorem Keeps.new' {H H' : AHeap} {ids : List Nat} (h : Keeps H H' ids) (o : AObj) : Keeps H (H'.new o) ids :=
  ⟨Nat.le_trans h.1 (Nat.le_succ _), fun j hj hn => by rw [AHeap.get_new, if_neg (by have := h.1; omega)]; exact h.2 j hj hn⟩
theorem Grow.keep {H H' : AHeap} {v : AV} {esz n : Nat} {cells : List AV} {ids : List Nat} (g : Grow H v esz cells n) (k : Keeps H H' ids) (hd : ∀ i ∈ idOf v, i ∉ ids) : Grow H' v esz cells n := by
  rcases g with h | ⟨id, ver, low, exts, rfl, h1, h2, h3, h4⟩
  · exact .inl h
  · exact .inr ⟨id, ver, low, exts, rfl, by rw [k.2 id h4 (hd id (by simp [idOf]))]; exact h1, h2, h3, Nat.lt_of_lt_of_le h4 k.1⟩
theorem Grow.keep' {H H' : AHeap} {v : AV} {esz n : Nat} {cells : List AV} (g : Grow H v esz cells n) (k : Keeps H H' []) : Grow H' v esz cells n := g.keep k fun _ _ => by simp
theorem Grow.nil {H : AHeap} {esz : Nat} : Grow H .nils esz [] 0 := .inl ⟨rfl, rfl, rfl⟩
theorem SV.nil : SV .nils [] 0 := .inl ⟨rfl, rfl, rfl⟩
theorem SV.v {cells : List AV} {n : Nat} {c f : Bool} : SV (.vsl cells n c f) cells n := .inr ⟨c, f, rfl⟩
theorem Grow.len {H : AHeap} {v : AV} {esz n : Nat} {cells : List AV} (g : Grow H v esz cells n) : cells.length = n * esz := by
  rcases g with ⟨_, rfl, rfl⟩ | ⟨id, ver, low, exts, rfl, h1, h2, h3, h4⟩
  · simp
  · exact h2
theorem Grow.id_lt {H : AHeap} {v : AV} {esz n : Nat} {cells : List AV} (g : Grow H v esz cells n) : ∀ i ∈ idOf v, i < H.next := by
  rcases g with ⟨rfl, rfl, rfl⟩ | ⟨id, ver, low, exts, rfl, h1, h2, h3, h4⟩
  · simp [idOf]
  · simpa [idOf] using h4

/-! Lengths. -/
noncomputable def lenM (d : Option TypeDesc) (v : AV) (H : AHeap) : Option AV := match d, v with
    | some .string, .str s => some (.int .i64 (.ofNat (llen s)))
    | some (.slice _), .nils => some (.int .i64 (.ofNat 0))
    | some (.slice _), .sl _ _ _ len _ _ => some (.int .i64 (.ofNat len))
    | some (.slice _), .vsl _ len _ _ => some (.int .i64 (.ofNat len))
    | some (.map _ _), .nilm => some (.int .i64 (.ofNat 0))
    | some (.map _ _), .map id => match entriesA (.map id) H with
      | some (es, _) => some (.int .i64 (.ofNat (llen es)))
      | none => none
    | some (.array n _), _ => some (.int .i64 (.ofNat n))
    | _, _ => none
@[simp] theorem lenA_M {H : AHeap} {t : TypeId} {ts : List TypeId} {v : AV} {vs : List AV} : lenA P H (t :: ts) (v :: vs) = lenM (P.underlying t) v H := rfl
@[simp] theorem lenM_str {H : AHeap} {s : List Nat} : lenM (some .string) (.str s) H = some (.int .i64 (s.length : Nat)) := by
  show some (AV.int .i64 (.ofNat (llen s))) = _
  rw [llen_eq]; rfl
@[simp] theorem lenM_nil {H : AHeap} {e : TypeId} : lenM (some (.slice e)) .nils H = some (.int .i64 (0 : Nat)) := rfl
@[simp] theorem lenM_sl {H : AHeap} {e id ver off len esz : Nat} {cap : Option Nat} : lenM (some (.slice e)) (.sl id ver off len esz cap) H = some (.int .i64 (len : Nat)) := rfl
@[simp] theorem lenM_vsl {H : AHeap} {e len : Nat} {cells : List AV} {c f : Bool} : lenM (some (.slice e)) (.vsl cells len c f) H = some (.int .i64 (len : Nat)) := rfl
@[simp] theorem lenM_arr {H : AHeap} {e n : Nat} {v : AV} : lenM (some (.array n e)) v H = some (.int .i64 (n : Nat)) := by cases v <;> rfl
theorem SV.lenM {H : AHeap} {v : AV} {cells : List AV} {n e : Nat} (h : SV v cells n) : lenM (some (.slice e)) v H = some (.int .i64 (n : Nat)) := by
  rcases h with ⟨rfl, rfl, rfl⟩ | ⟨c, f, rfl⟩ <;> rfl
theorem Grow.lenM {H H' : AHeap} {v : AV} {cells : List AV} {n e esz : Nat} (h : Grow H' v esz cells n) : lenM (some (.slice e)) v H = some (.int .i64 (n : Nat)) := by
  rcases h with ⟨rfl, rfl, rfl⟩ | ⟨id, ver, low, exts, rfl, h⟩ <;> rfl

/-! Elements. -/
inductive IxI where
  | sl (n : Nat)
  | ar (len n : Nat)
noncomputable def ixI (P : Program) (t : TypeId) : Option IxI := match P.underlying t with
  | some (.slice e) => match szOf P e with
    | some n => some (.sl n)
    | none => none
  | some (.array len e) => match szOf P e with
    | some n => some (.ar len n)
    | none => none
  | _ => none
noncomputable def ixM (d : Option IxI) (x i : AV) : Option AV := match d, natOfA i with
  | some (.sl n), some i => match x with
    | .sl id ver off len esz _ => if n = esz then (if i < len then some (.ptr id ver (off + i * esz)) else none) else none
    | .vsl cells len _ _ => if i < len then some (.vptr (cells.drop (i * n))) else none
    | _ => none
  | some (.ar len n), some i => if i < len then moveA (i * n) x else none
  | _, _ => none
@[simp] theorem indexAddrA_M {t : TypeId} {x i : AV} : indexAddrA P t x i = ixM (ixI P t) x i := by
  unfold indexAddrA ixM ixI
  cases natOfA i with
  | none =>
    cases P.underlying t with
    | none => rfl
    | some d => cases d <;> (try rfl) <;> (simp only; rename_i e; cases szOf P e <;> rfl)
  | some i' =>
    cases P.underlying t with
    | none => rfl
    | some d =>
      cases d <;> try rfl
      case slice e =>
        simp only
        cases szOf P e with
        | none => rfl
        | some n =>
          simp only
          cases x <;> try rfl
          case sl id ver off len esz cap =>
            simp only
            by_cases hn : n = esz
            · rw [nbeq_t hn, if_pos hn]
              by_cases h : i' < len
              · rw [nble_t (show Nat.succ i' ≤ len from h), if_pos h]; rfl
              · rw [nble_f (show len < Nat.succ i' by omega), if_neg h]
            · rw [nbeq_f hn, if_neg hn]
          case vsl cells len c f =>
            simp only
            by_cases h : i' < len
            · rw [nble_t (show Nat.succ i' ≤ len from h), if_pos h, ldrop_eq]; rfl
            · rw [nble_f (show len < Nat.succ i' by omega), if_neg h]
      case array len e =>
        simp only
        cases szOf P e with
        | none => rfl
        | some n =>
          simp only
          by_cases h : i' < len
          · rw [nble_t (show Nat.succ i' ≤ len from h), if_pos h]; rfl
          · rw [nble_f (show len < Nat.succ i' by omega), if_neg h]
theorem ixM_v {n i len : Nat} {k : IntKind} {cells : List AV} {c f : Bool} (h : i < len) : ixM (some (.sl n)) (.vsl cells len c f) (.int k (i : Nat)) = some (.vptr (cells.drop (i * n))) := by
  simp only [ixM, natOf_cast]; rw [if_pos h]
theorem ixM_s {n i len id ver off : Nat} {k : IntKind} {cap : Option Nat} (h : i < len) : ixM (some (.sl n)) (.sl id ver off len n cap) (.int k (i : Nat)) = some (.ptr id ver (off + i * n)) := by
  simp only [ixM, natOf_cast, if_true]; rw [if_pos h]
theorem ixM_vp {n len : Nat} {x : Int} {k : IntKind} {cells : List AV} {c f : Bool} (h0 : 0 ≤ x) (h : x < len) : ixM (some (.sl n)) (.vsl cells len c f) (.int k x) = some (.vptr (cells.drop (x.toNat * n))) := by
  obtain ⟨i, rfl⟩ := Int.eq_ofNat_of_zero_le h0
  exact ixM_v (by omega)
theorem ixM_sp {n len id ver off : Nat} {x : Int} {k : IntKind} {cap : Option Nat} (h0 : 0 ≤ x) (h : x < len) : ixM (some (.sl n)) (.sl id ver off len n cap) (.int k x) = some (.ptr id ver (off + x.toNat * n)) := by
  obtain ⟨i, rfl⟩ := Int.eq_ofNat_of_zero_le h0
  exact ixM_s (by omega)
attribute [simp] ixM_vp ixM_sp
theorem SV.ix {v : AV} {cells : List AV} {n esz i : Nat} {k : IntKind} (h : SV v cells n) (hi : i < n) : ixM (some (.sl esz)) v (.int k (i : Nat)) = some (.vptr (cells.drop (i * esz))) := by
  rcases h with ⟨rfl, rfl, rfl⟩ | ⟨c, f, rfl⟩
  · omega
  · exact ixM_v hi

/-! Elements that are laid one behind the other. -/
theorem len_flat {α : Type} {enc : α → List AV} {n : Nat} (h : ∀ x, (enc x).length = n) (l : List α) : (l.flatMap enc).length = l.length * n := by
  induction l with
  | nil => simp
  | cons a l ih => rw [List.flatMap_cons, List.length_append, ih, h, List.length_cons, Nat.succ_mul, Nat.add_comm]
theorem drop_flat {α : Type} {enc : α → List AV} {n : Nat} (h : ∀ x, (enc x).length = n) (l : List α) (i : Nat) : (l.flatMap enc).drop (i * n) = (l.drop i).flatMap enc := by
  induction i generalizing l with
  | zero => simp
  | succ i ih =>
    cases l with
    | nil => simp
    | cons a l => rw [List.flatMap_cons, List.drop_succ_cons, Nat.succ_mul, Nat.add_comm, ← List.drop_drop, ← h a, List.drop_left, h a, ih]
theorem take_flat {α : Type} {enc : α → List AV} {n : Nat} (h : ∀ x, (enc x).length = n) (l : List α) (i : Nat) : (l.flatMap enc).take (i * n) = (l.take i).flatMap enc := by
  induction i generalizing l with
  | zero => simp
  | succ i ih =>
    cases l with
    | nil => simp
    | cons a l =>
      rw [List.flatMap_cons, List.take_succ_cons, List.flatMap_cons, Nat.succ_mul, Nat.add_comm, List.take_append, h a, List.take_of_length_le (by rw [h a]; omega), Nat.add_sub_cancel_left, ih]
theorem drop_elem {α : Type} {enc : α → List AV} {n : Nat} (h : ∀ x, (enc x).length = n) (l : List α) (i : Nat) (hi : i < l.length) : (l.flatMap enc).drop (i * n) = enc l[i] ++ (l.drop (i + 1)).flatMap enc := by
  rw [drop_flat h, List.drop_eq_getElem_cons hi, List.flatMap_cons]
theorem get_flat {α : Type} {enc : α → List AV} {n : Nat} (h : ∀ x, (enc x).length = n) (l : List α) (i : Nat) (hi : i < l.length) : ((l.flatMap enc).drop (i * n)).take n = enc l[i] := by
  rw [drop_elem h l i hi, List.take_append_of_le_length (by rw [h]; omega), List.take_of_length_le (by rw [h]; omega)]
theorem rd_flat {α : Type} {enc : α → List AV} {n : Nat} (h : ∀ x, (enc x).length = n) {H : AHeap} {l : List α} {i : Nat} (hi : i < l.length) : rdMem n (.vptr ((l.flatMap enc).drop (i * n))) H = some (enc l[i]) := by
  rw [rdMem_v, get_flat h l i hi]
  rw [drop_elem h l i hi, List.length_append, h]; omega
def bs (l : List Nat) : List AV := l.map fun b => .int .u8 (b : Nat)
@[simp] theorem bs_length (l : List Nat) : (bs l).length = l.length := by simp [bs]
theorem bs_append (l m : List Nat) : bs (l ++ m) = bs l ++ bs m := by simp [bs]
theorem bs_drop (l : List Nat) (n : Nat) : (bs l).drop n = bs (l.drop n) := by simp [bs, List.map_drop]
theorem bs_take (l : List Nat) (n : Nat) : (bs l).take n = bs (l.take n) := by simp [bs, List.map_take]
theorem rd_bs {H : AHeap} {l : List Nat} {i : Nat} (hi : i < l.length) : rdMem 1 (.vptr ((bs l).drop i)) H = some [.int .u8 (l[i] : Nat)] := by
  rw [rdMem_v (by rw [List.length_drop, bs_length]; omega), bs_drop, bs_take, List.drop_eq_getElem_cons hi]
  rfl
theorem omap_byte (l : List Nat) (h : ∀ n ∈ l, n < 256) : omap byteOfA (bs l) = some l := by
  induction l with
  | nil => rfl
  | cons a l ih =>
    show (Option.casesOn (byteOfA (.int .u8 (a : Nat))) none (fun b => Option.casesOn (omap byteOfA (bs l)) none (fun bs => some (b :: bs))) : Option (List Nat)) = _
    have : byteOfA (.int .u8 (a : Nat)) = some a := by
      show (Bool.casesOn (Nat.ble a 255) none (some a) : Option Nat) = _
      rw [nble_t (by have := h a (List.mem_cons_self ..); omega)]
    rw [this, ih fun n hn => h n (List.mem_cons_of_mem _ hn)]

/-! Appending. -/
noncomputable def apM (si : Option (TypeId × Nat × Nat)) (nz zt : Bool) (zo : TypeId → Option AV) (s x : AV) (H : AHeap) : Res := match si, slLen s, isStrA s with
    | some (el, esz, bytes), some len, false => match nz with
      | true => match slLen x with
        | none => none
        | some n => match Nat.beq n 0, Nat.ble 1 esz, roomA (Nat.add len n) bytes, zo el with
          | true, true, _, _ => some (s, H)
          | false, true, true, some z => match Nat.beq (llen (cellsOf z)) esz, slCells n esz x H with
            | true, some xs => putOn len n esz xs s H
            | _, _ => none
          | _, _, _, _ => none
      | false => match zt, madeN x with
        | true, some n => match Nat.beq n 0, Nat.ble 1 esz, roomA (Nat.add len n) bytes, zo el with
          | false, true, true, some z => match Nat.beq (llen (cellsOf z)) esz with
            | true => putOn len n esz (lcopies n (cellsOf z)) s H
            | false => none
          | _, _, _, _ => none
        | _, _ => none
    | _, _, _ => none
theorem appendA_M {H : AHeap} {t : TypeId} {ts : List TypeId} {s x : AV} {r : List AV} : appendA P H (t :: ts) (s :: x :: r) = apM (sliceInfo P t) (notZeros P ts) (zerosT P ts) (zeroOf P) s x H := rfl
theorem Grow.slLen {H : AHeap} {v : AV} {esz n : Nat} {cells : List AV} (g : Grow H v esz cells n) : slLen v = some n ∧ isStrA v = false := by
  rcases g with ⟨rfl, rfl, rfl⟩ | ⟨id, ver, low, exts, rfl, h⟩ <;> exact ⟨rfl, rfl⟩
theorem room_ok {m b : Nat} (h1 : m ≤ 70368744177664) (h2 : (m + m + 1024) * b ≤ 281474976710656) : roomA m b = true := by
  unfold roomA
  rw [nble_t h1]
  exact nble_t h2
theorem putOn_grow {H : AHeap} {v : AV} {esz n m : Nat} {cells xs : List AV} (g : Grow H v esz cells n) (he : 1 ≤ esz) (hl : xs.length = m * esz) (ho : lall oneCell xs = true) : ∃ v' H', putOn n m esz xs v H = some (v', H') ∧ Grow H' v' esz (cells ++ xs) (n + m) ∧ Keeps H H' (idOf v) ∧ (∀ i ∈ idOf v', i ∈ idOf v ∨ H.next ≤ i) := by
  rcases g with ⟨rfl, rfl, rfl⟩ | ⟨id, ver, low, exts, rfl, h1, h2, h3, h4⟩
  · refine ⟨.sl H.next 0 0 m esz none, H.new (.arr xs 0 0 [xs.length]), ?_, .inr ⟨H.next, 0, 0, [], by simp, ?_, by simpa using hl, Nat.le_refl _, Nat.lt_succ_self _⟩, Keeps.new _ _ _, fun i hi => .inr (by simp [idOf] at hi; omega)⟩
    · simp only [putOn, ho, freshFam, newArr, llen_eq]
    · rw [get_new_same rfl]; rfl
  · refine ⟨.sl id (ver + 1) 0 (n + m) esz none, H.put id (.arr (cells ++ xs) low (ver + 1) ((cells ++ xs).length :: cells.length :: exts)), ?_, .inr ⟨id, ver + 1, low, _, rfl, get_put_same rfl, ?_, by omega, h4⟩, (Keeps.refl H _).put _ (.inr (by simp [idOf])), fun i hi => .inl hi⟩
    · simp only [putOn, ho, nbeq_t rfl, h1, growFam, lapp_eq, llen_eq]
      rw [nbeq_t (by rw [h2]; exact Nat.zero_add _)]
      simp only
      rw [List.length_append, show Nat.add (Nat.add 0 (Nat.mul n esz)) xs.length = cells.length + xs.length from by rw [h2]; show 0 + n * esz + xs.length = _; omega]
      rfl
    · rw [List.length_append, h2, hl, Nat.add_mul]
theorem oq_append {H : AHeap} {v x : AV} {esz n m t el bytes : Nat} {ts : List TypeId} {cells xs : List AV} {z : AV} {R : AV → AHeap → Prop} (g : Grow H v esz cells n) (hs : sliceInfo P t = some (el, esz, bytes)) (hz : zeroOf P el = some z) (hzl : (cellsOf z).length = esz) (hn : notZeros P ts = true)
    (he : 1 ≤ esz) (hx : slLen x = some m) (hm : m ≠ 0) (hc : slCells m esz x H = some xs) (hl : xs.length = m * esz) (ho : lall oneCell xs = true) (hr1 : n + m ≤ 70368744177664) (hr2 : (n + m + (n + m) + 1024) * bytes ≤ 281474976710656)
    (k : ∀ v' H', Grow H' v' esz (cells ++ xs) (n + m) → Keeps H H' (idOf v) → (∀ i ∈ idOf v', i ∈ idOf v ∨ H.next ≤ i) → R v' H') : oqx (appendA P H (t :: ts) [v, x]) ⟨R⟩ () := by
  refine x_oq ?_
  obtain ⟨v', H', h1, h2, h3, h4⟩ := putOn_grow (m := m) g he hl ho
  have : appendA P H (t :: ts) [v, x] = some (v', H') := by
    rw [appendA_M]
    obtain ⟨g1, g2⟩ := g.slLen
    simp only [apM, hs, g1, g2, hn, hx, nbeq_f hm, nble_t he, room_ok (m := Nat.add n m) hr1 hr2, hz, hc, llen_eq, nbeq_t hzl, h1]
  rw [this]
  exact k v' H' h2 h3 h4
theorem oq_append0 {H : AHeap} {v x : AV} {esz n t el bytes : Nat} {ts : List TypeId} {cells : List AV} {R : AV → AHeap → Prop} (g : Grow H v esz cells n) (hs : sliceInfo P t = some (el, esz, bytes)) (hn : notZeros P ts = true)
    (he : 1 ≤ esz) (hx : slLen x = some 0) (k : R v H) : oqx (appendA P H (t :: ts) [v, x]) ⟨R⟩ () := by
  refine x_oq ?_
  have : appendA P H (t :: ts) [v, x] = some (v, H) := by
    rw [appendA_M]
    obtain ⟨g1, g2⟩ := g.slLen
    simp only [apM, hs, g1, g2, hn, hx, nbeq_t rfl, nble_t he]
  rw [this]
  exact k

theorem oq_appendAny {H : AHeap} {v x : AV} {esz n m t el bytes : Nat} {ts : List TypeId} {cells xs : List AV} {z : AV} {R : AV → AHeap → Prop} (g : Grow H v esz cells n) (hs : sliceInfo P t = some (el, esz, bytes)) (hz : zeroOf P el = some z) (hzl : (cellsOf z).length = esz) (hn : notZeros P ts = true)
    (he : 1 ≤ esz) (hx : slLen x = some m) (hc : slCells m esz x H = some xs) (hl : xs.length = m * esz) (ho : lall oneCell xs = true) (hr1 : n + m ≤ 70368744177664) (hr2 : (n + m + (n + m) + 1024) * bytes ≤ 281474976710656)
    (k : ∀ v' H', Grow H' v' esz (cells ++ xs) (n + m) → Keeps H H' (idOf v) → (∀ i ∈ idOf v', i ∈ idOf v ∨ H.next ≤ i) → R v' H') : oqx (appendA P H (t :: ts) [v, x]) ⟨R⟩ () := by
  refine x_oq ?_
  by_cases hm : m = 0
  · subst hm
    have : xs = [] := List.eq_nil_of_length_eq_zero (by simpa using hl)
    subst this
    exact oq_append0 g hs hn he hx (k v H (by simpa using g) (Keeps.refl _ _) fun i hi => .inl hi)
  · exact oq_append g hs hz hzl hn he hx hm hc hl ho hr1 hr2 k
theorem slCells_str {s : List Nat} {H : AHeap} : slCells s.length 1 (.str s) H = some (bs s) := by
  simp only [slCells, nbeq_t, llen_eq, nble_t (Nat.le_refl _), ltake_eq, List.take_length, lmap_eq]
  rfl
theorem bs_one (l : List Nat) : lall oneCell (bs l) = true := by
  rw [lall_eq, List.all_eq_true]
  intro x hx
  obtain ⟨b, _, rfl⟩ := List.mem_map.mp hx
  rfl
theorem bs_noRefs (l : List Nat) (d : Nat) : ∀ c ∈ bs l, noRefs (d + 1) c = true := fun c hc => by
  obtain ⟨b, _, rfl⟩ := List.mem_map.mp hc
  rfl
/-! Freezing. -/
theorem omap_id {f : AV → Option AV} : ∀ {l : List AV}, (∀ x ∈ l, f x = some x) → omap f l = some l
  | [], _ => rfl
  | a :: l, h => by
    show (Option.casesOn (f a) none (fun b => Option.casesOn (omap f l) none (fun bs => some (b :: bs))) : Option (List AV)) = _
    rw [h a (List.mem_cons_self ..), omap_id fun x hx => h x (List.mem_cons_of_mem _ hx)]
theorem noRefs_succ {d : Nat} {v : AV} : noRefs (d + 1) v = match v with
    | .ptr .. | .sl .. | .map _ => false
    | .agg cs | .tup cs | .vptr cs => lall (noRefs d) cs
    | .vsl cs _ _ _ => lall (noRefs d) cs
    | .fn _ a b => match lall (noRefs d) a with
      | true => lall (noRefs d) b
      | false => false
    | .iface _ v => noRefs d v
    | _ => true := by cases v <;> rfl
theorem lall_all {p : AV → Bool} {l : List AV} : lall p l = true ↔ ∀ x ∈ l, p x = true := by rw [lall_eq, List.all_eq_true]
theorem noRefs_mono : ∀ {d d' : Nat} {v : AV}, noRefs d v = true → d ≤ d' → noRefs d' v = true
  | 0, _, _, h, _ => by cases h
  | d + 1, 0, _, _, hd => by omega
  | d + 1, d' + 1, v, h, hd => by
    have ih : ∀ {l : List AV}, lall (noRefs d) l = true → lall (noRefs d') l = true := fun h => by
      rw [lall_all] at h ⊢
      exact fun x hx => noRefs_mono (h x hx) (by omega)
    rw [noRefs_succ] at h ⊢
    cases v <;> simp only at h ⊢ <;> try (first | exact ih h | exact h | exact noRefs_mono h (by omega))
    rename_i f a b
    cases ha : lall (noRefs d) a with
    | false => rw [ha] at h; cases h
    | true => rw [ha] at h; rw [ih ha]; exact ih h
theorem freeze_id {H : AHeap} : ∀ {d : Nat} {v : AV}, noRefs d v = true → freeze d H v = some v
  | 0, _, h => by cases h
  | d + 1, v, h => by
    have ih : ∀ {l : List AV}, lall (noRefs d) l = true → omap (freeze d H) l = some l := fun h => by
      rw [lall_all] at h
      exact omap_id fun x hx => freeze_id (h x hx)
    rw [noRefs_succ] at h
    cases v <;> simp only at h <;> try (first | (cases h; done) | rfl)
    · rw [freeze_agg, ih h]
    · rw [freeze_tup, ih h]
    · rw [freeze_vptr, ih h]
    · rw [freeze_vsl, ih h]
    · rename_i f a b
      cases ha : lall (noRefs d) a with
      | false => rw [ha] at h; cases h
      | true => rw [ha] at h; rw [freeze_fn, ih ha, ih h]
    · rw [freeze_iface, freeze_id h]
theorem slCells_grow {H : AHeap} {esz n id ver low : Nat} {exts : List Nat} {cells : List AV} (h1 : H.get id = some (.arr cells low ver (cells.length :: exts))) (h2 : cells.length = n * esz) (h3 : low ≤ ver) {cap : Option Nat} : slCells n esz (.sl id ver 0 n esz cap) H = some cells := by
  simp only [slCells, nbeq_t, nble_t (Nat.le_refl n), h1, rdArr, arrRead, nble_t h3, nble_t (Nat.le_refl ver)]
  have : Nat.ble (Nat.add 0 (Nat.mul n esz)) (extOf (cells.length :: exts) ver ver) = true := by
    have : extOf (cells.length :: exts) ver ver = cells.length := by
      unfold extOf
      rw [show Nat.sub ver ver = 0 from Nat.sub_self ver]
      rfl
    rw [this]
    exact nble_t (by rw [h2]; show 0 + n * esz ≤ _; omega)
  simp only [this, ldrop_eq, ltake_eq, List.drop_zero]
  rw [List.take_of_length_le (by rw [h2]; exact Nat.le_refl _)]
theorem Grow.freeze {H : AHeap} {v : AV} {esz n d : Nat} {cells : List AV} (g : Grow H v esz cells n) (hc : ∀ c ∈ cells, noRefs d c = true) : ∃ v', Am.freeze (d + 1) H v = some v' ∧ SV v' cells n ∧ noRefs (d + 1) v' = true := by
  rcases g with ⟨rfl, rfl, rfl⟩ | ⟨id, ver, low, exts, rfl, h1, h2, h3, h4⟩
  · exact ⟨.nils, rfl, .nil, rfl⟩
  · refine ⟨.vsl cells n false true, ?_, .v, ?_⟩
    · rw [freeze_sl, slCells_grow h1 h2 h3]
      simp only
      rw [omap_id fun x hx => freeze_id (hc x hx)]
    · rw [noRefs_succ]; exact lall_all.mpr hc
theorem SV.noRefs {v : AV} {cells : List AV} {n d : Nat} (h : SV v cells n) (hc : ∀ c ∈ cells, noRefs d c = true) : Am.noRefs (d + 1) v = true := by
  rcases h with ⟨rfl, rfl, rfl⟩ | ⟨c, f, rfl⟩
  · rfl
  · rw [noRefs_succ]; exact lall_all.mpr hc
end Go.Proofs.Ytcjfjfhggfcnfaa.Am
