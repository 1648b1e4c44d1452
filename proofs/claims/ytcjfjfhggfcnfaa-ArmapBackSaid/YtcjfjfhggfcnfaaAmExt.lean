/- Functions without a body: bytes sought, texts held against one another. -/
import Derived.Test.YtcjfjfhggfcnfaaAmSound
import Derived.Laws.Externs
import Derived.Lib.Bytealg
import Derived.Lib.BytesEntry
set_option linter.unusedSimpArgs false
set_option linter.unusedVariables false
namespace Go.Proofs.Ytcjfjfhggfcnfaa.Am
open Go
variable {P : Program} {w : World} {e : Env} {H : AHeap}

noncomputable section
/-- the bytes that a text, or a slice, holds -/
def bytesA : AV → Option (List Nat)
  | .str s => some s
  | .nils => some []
  | .vsl cells len _ _ => match Nat.ble len (llen cells) with
    | true => omap byteOfA (ltake len cells)
    | false => none
  | _ => none
def idxA (l : List Nat) (c : Nat) : Int := listRec (Int.negSucc 0) (fun b _ r => match Nat.beq b c with
  | true => .ofNat 0
  | false => match r with
    | .ofNat n => .ofNat (Nat.succ n)
    | .negSucc m => .negSucc m) l
def cmpN (a : List Nat) : List Nat → Int :=
  listRec (fun b => List.casesOn b (Int.ofNat 0) (fun _ _ => Int.negSucc 0))
    (fun x _ r b => List.casesOn b (Int.ofNat 1) (fun y b => match Nat.ble (Nat.succ x) y, Nat.ble (Nat.succ y) x with
      | true, _ => Int.negSucc 0
      | false, true => Int.ofNat 1
      | false, false => r b)) a
/-- internal/bytealg.IndexByte, IndexByteString -/
def extIdx : List AV → Option AV
  | [x, .int .u8 (.ofNat c)] => match bytesA x, Nat.ble c 255 with
    | some l, true => some (.int .i64 (idxA l c))
    | _, _ => none
  | _ => none
/-- internal/bytealg.Compare, abigen_runtime_cmpstring -/
def extCmp : List AV → Option AV
  | [x, y] => match bytesA x, bytesA y with
    | some l, some m => some (.int .i64 (cmpN l m))
    | _, _ => none
  | _ => none
end

theorem byteOfA_some {x : AV} {n : Nat} (h : byteOfA x = some n) : x = .int .u8 (n : Int) ∧ n < 256 := by
  unfold byteOfA at h
  split at h
  · rename_i m
    cases hb : Nat.ble m 255 with
    | false => rw [hb] at h; cases h
    | true =>
      rw [hb] at h
      cases h
      exact ⟨rfl, Nat.lt_succ_of_le (Nat.le_of_ble_eq_true hb)⟩
  · cases h
theorem bytes_cells : ∀ {cells : List AV} {l : List Nat} {b o : Nat}, omap byteOfA cells = some l → VM e w cells b o → cells.length = l.length ∧ (∀ n ∈ l, n < 256) ∧ ∀ (j : Nat) (x : Nat), l[j]? = some x → w.cell? ⟨b, o + j, none⟩ = some (.int .u8 x)
  | [], l, b, o, h, _ => by cases h; exact ⟨rfl, fun n hn => (by cases hn), fun j x hx => (by cases hx)⟩
  | c :: cells, l, b, o, h, hv => by
    have h' : Option.casesOn (byteOfA c) none (fun b => Option.casesOn (omap byteOfA cells) none (fun bs => some (b :: bs))) = some l := h
    cases hc : byteOfA c with
    | none => rw [hc] at h'; cases h'
    | some n =>
      rw [hc] at h'
      cases hr : omap byteOfA cells with
      | none => rw [hr] at h'; cases h'
      | some m =>
        rw [hr] at h'
        cases h'
        simp only [VM] at hv
        obtain ⟨_, _, ⟨u, hu, hru⟩, hv⟩ := hv
        obtain ⟨rfl, hn⟩ := byteOfA_some hc
        obtain ⟨h1, h2, h3⟩ := bytes_cells hr hv
        refine ⟨by simp [h1], fun k hk => ?_, fun j x hx => ?_⟩
        · rcases List.mem_cons.mp hk with rfl | hk
          · exact hn
          · exact h2 k hk
        · cases j with
          | zero =>
            simp only [VR] at hru
            cases hx
            rw [Nat.add_zero, hu, hru]
          | succ j =>
            have := h3 j x (by simpa using hx)
            rw [← this]
            congr 2
            omega
theorem bytesA_ok {x : AV} {v : Value} {l : List Nat} (hv : VR e w x v) (h : bytesA x = some l) : ∃ bs : ByteArray, (Extern.Bytes.bytesOf v).run P w = .ok bs w ∧ bs.data.toList.map UInt8.toNat = l := by
  cases x <;> simp only [bytesA] at h <;> try (cases h; done)
  case str s =>
    simp only [VR] at hv
    obtain ⟨t, rfl, ht⟩ := hv
    cases h
    exact ⟨t, rfl, ht⟩
  case nils =>
    simp only [VR] at hv
    subst hv
    cases h
    exact ⟨.empty, rfl, rfl⟩
  case vsl cells len capped fresh =>
    simp only [VR] at hv
    obtain ⟨b, o, sp, c, rfl, hsp, hlc, _, _, hm⟩ := hv
    split at h
    · rename_i hb
      rw [ltake_eq] at h
      obtain ⟨h1, h2, h3⟩ := bytes_cells h (hm.take len)
      have hl : l.length = len := by
        rw [← h1, List.length_take]
        rw [nble, llen_eq, decide_eq_true_eq] at hb
        omega
      have e1 : l = (l.map UInt8.ofNat).map UInt8.toNat := by
        rw [List.map_map]
        conv => lhs; rw [← List.map_id l]
        refine List.map_congr_left fun n hn => ?_
        have := h2 n hn
        simp only [id, Function.comp, UInt8.toNat_ofNat']
        omega
      refine ⟨ByteArray.mk (l.map UInt8.ofNat).toArray, ?_, ?_⟩
      · show (Extern.Bytes.loadBytes ⟨b, o, sp⟩ len .empty).run P w = _
        by_cases hz : len = 0
        · subst hz
          have : l = [] := List.eq_nil_of_length_eq_zero hl
          subst this
          rfl
        · have hsp' : sp = none := by
            rcases hsp with h | ⟨h, _⟩
            · exact h
            · omega
          subst hsp'
          have := Lib.run_loadBytesX (P := P) (w := w) (l.map fun n : Nat => (n : Int)) ⟨b, o, none⟩ .empty (fun j x hx => by
            rw [List.getElem?_map] at hx
            cases hj : l[j]? with
            | none => rw [hj] at hx; cases hx
            | some n =>
              rw [hj] at hx
              cases hx
              rw [add_eq]
              exact h3 j n hj)
          rw [List.length_map, hl] at this
          rw [this]
          congr 1
          apply ByteArray.ext
          simp [Lib.bytesOf]
      · show (l.map UInt8.ofNat).toArray.toList.map UInt8.toNat = l
        rw [List.toList_toArray]
        exact e1.symm
    · cases h

theorem idxA_nil (c : Nat) : idxA [] c = -1 := rfl
theorem idxA_cons (b : Nat) (l : List Nat) (c : Nat) : idxA (b :: l) c = if b = c then 0 else if idxA l c < 0 then idxA l c else idxA l c + 1 := by
  show (match Nat.beq b c with
  | true => Int.ofNat 0
  | false => match idxA l c with
    | .ofNat n => .ofNat (Nat.succ n)
    | .negSucc m => .negSucc m) = _
  rw [nbeq]
  by_cases h : b = c
  · simp [h]
  · simp only [h, decide_false, if_false]
    cases idxA l c with
    | ofNat n => rw [if_neg (by have := Int.natCast_nonneg n; simp only [Int.ofNat_eq_natCast]; omega)]; rfl
    | negSucc m => rw [if_pos (Int.negSucc_lt_zero m)]
theorem idxA_lib : ∀ (l : List UInt8) (c : UInt8), Lib.indexByte l c = idxA (l.map UInt8.toNat) c.toNat
  | [], c => rfl
  | b :: l, c => by
    have e : Lib.indexByte (b :: l) c = if (b == c) = true then 0 else if (Lib.indexByte l c == -1) = true then -1 else Lib.indexByte l c + 1 := by rw [Lib.indexByte]
    rw [List.map_cons, idxA_cons, ← idxA_lib l c, e]
    have : (b == c) = decide (b.toNat = c.toNat) := by
      by_cases h : b = c
      · simp [h]
      · have h' : ¬ b.toNat = c.toNat := fun hh => h (UInt8.toNat_inj.mp hh)
        simp [h, h']
    rw [this]
    have hge := Lib.indexByte_ge l c
    by_cases h : b.toNat = c.toNat
    · simp [h]
    · simp only [h, decide_false, Bool.false_eq_true, if_false]
      have : (Lib.indexByte l c == -1) = decide (Lib.indexByte l c < 0) := by
        by_cases hh : Lib.indexByte l c = -1
        · rw [hh]; rfl
        · have : ¬ Lib.indexByte l c < 0 := by omega
          simp [hh, this]
      rw [this]
      by_cases hh : Lib.indexByte l c < 0
      · simp only [hh, decide_true, if_true]; omega
      · simp only [hh, decide_false, Bool.false_eq_true, if_false]
theorem cmpN_lib : ∀ (a b : List UInt8), Lib.compareBytes a b = cmpN (a.map UInt8.toNat) (b.map UInt8.toNat)
  | [], [] => rfl
  | [], _ :: _ => rfl
  | _ :: _, [] => rfl
  | x :: a, y :: b => by
    rw [List.map_cons, List.map_cons]
    show _ = (match Nat.ble (Nat.succ x.toNat) y.toNat, Nat.ble (Nat.succ y.toNat) x.toNat with
      | true, _ => Int.negSucc 0
      | false, true => Int.ofNat 1
      | false, false => cmpN (a.map UInt8.toNat) (b.map UInt8.toNat))
    unfold Lib.compareBytes
    rw [nble, nble, ← cmpN_lib a b]
    by_cases h : x < y
    · have h1 : x.toNat + 1 ≤ y.toNat := h
      simp [h, h1]
    · have h1 : ¬ x.toNat + 1 ≤ y.toNat := h
      by_cases k : y < x
      · have k1 : y.toNat + 1 ≤ x.toNat := k
        simp [h, h1, k, k1]
      · have k1 : ¬ y.toNat + 1 ≤ x.toNat := k
        simp [h, h1, k, k1]
theorem fires_value {f : Nat} {fn : Func} {en : Array Value → Sem Value} {x : AV} {v : Value} (hf : P.funcs[f]? = some fn) (hname : (fn.name == "runtime.NumGoroutine") = false)
    (hb : fn.body.isNone = true) (hn : Extern.findNext fn = none) (he : Extern.find fn = some en) {vs : Array Value} (h : (en vs).run P w = .ok v w) (hI : Inv e H w) (hv : VR e w x v) : Fires P e w H (.ret x) ((callFunc f vs).run P w) := by
  rw [run_callFunc_extern hf hname hb hn he, h]
  exact ⟨x, e, rfl, Le.refl e w, hI, hv⟩
theorem VRs_two {x y : AV} {vs : Array Value} (h : VRs e w [x, y] vs.toList) : ∃ u v, vs = #[u, v] ∧ VR e w x u ∧ VR e w y v := by
  simp only [VRs] at h
  obtain ⟨u, us, h1, h2, v, vs', h3, h4, h5⟩ := h
  subst h5 h3
  refine ⟨u, v, ?_, h2, h4⟩
  apply Array.ext'
  exact h1
theorem extIdx_ok {f : Nat} {fn : Func} (hf : P.funcs[f]? = some fn) (hname : (fn.name == "runtime.NumGoroutine") = false)
    (hb : fn.body.isNone = true) (hn : Extern.findNext fn = none) (he : Extern.find fn = some Extern.BytealgIndexByte.indexByte) {args : List AV} {x : AV} (h : extIdx args = some x) (hI : Inv e H w) {vs : Array Value} (hv : VRs e w args vs.toList) :
    Fires P e w H (.ret x) ((callFunc f vs).run P w) := by
  unfold extIdx at h
  split at h
  · rename_i y c
    split at h
    · rename_i l hl hc
      cases h
      obtain ⟨u, v, rfl, h1, h2⟩ := VRs_two hv
      simp only [VR] at h2
      subst h2
      obtain ⟨bs, h3, h4⟩ := bytesA_ok (P := P) h1 hl
      refine fires_value (v := .int .i64 (idxA l c)) hf hname hb hn he ?_ hI (by simp only [VR])
      have h5 : (Extern.BytealgIndexByte.indexByte #[u, .int .u8 (c : Int)]).run P w = (Extern.BytealgIndexByte.indexByte #[.string bs, .int .u8 (c : Int)]).run P w := by
        change Sem.run P (do
          let b ← Extern.Bytes.bytesOf u
          let c' ← Extern.Bytes.asByte (.int .u8 c)
          match (List.range b.size).find? fun i => b[i]! == c' with
          | some i => pure (goInt i)
          | none => pure (goInt (-1))) w = Sem.run P (do
          let b ← Extern.Bytes.bytesOf (.string bs)
          let c' ← Extern.Bytes.asByte (.int .u8 c)
          match (List.range b.size).find? fun i => b[i]! == c' with
          | some i => pure (goInt i)
          | none => pure (goInt (-1))) w
        rw [Sem.run_bind, h3]
        rfl
      rw [show (Int.ofNat c) = (c : Int) from rfl, h5, Lib.run_indexByteString, idxA_lib, h4]
      have : ((c : Int).toNat.toUInt8).toNat = c := by
        have := Nat.le_of_ble_eq_true hc
        simp only [Int.toNat_natCast, Nat.toUInt8, UInt8.toNat_ofNat']
        omega
      rw [this]
    · cases h
  · cases h
theorem extCmp_ok {f : Nat} {fn : Func} (hf : P.funcs[f]? = some fn) (hname : (fn.name == "runtime.NumGoroutine") = false)
    (hb : fn.body.isNone = true) (hn : Extern.findNext fn = none) (he : Extern.find fn = some Extern.BytealgCompare.compare) {args : List AV} {x : AV} (h : extCmp args = some x) (hI : Inv e H w) {vs : Array Value} (hv : VRs e w args vs.toList) :
    Fires P e w H (.ret x) ((callFunc f vs).run P w) := by
  unfold extCmp at h
  split at h
  · rename_i y z
    split at h
    · rename_i l m hl hm
      cases h
      obtain ⟨u, v, rfl, h1, h2⟩ := VRs_two hv
      obtain ⟨bs, h3, h4⟩ := bytesA_ok (P := P) h1 hl
      obtain ⟨cs, h5, h6⟩ := bytesA_ok (P := P) h2 hm
      refine fires_value (v := .int .i64 (cmpN l m)) hf hname hb hn he ?_ hI (by simp only [VR])
      change Sem.run P (do pure (goInt (Extern.BytealgCompare.cmp (← Extern.Bytes.bytesOf u) (← Extern.Bytes.bytesOf v)))) w = _
      rw [Sem.run_bind, h3]
      simp only [Result.andThen]
      rw [Sem.run_bind, h5]
      simp only [Result.andThen, Sem.run_pure, Lib.cmp_eq, cmpN_lib, h4, h6]
      rfl
    · cases h
  · cases h
theorem idxA_lt (l : List Nat) (c : Nat) : idxA l c < l.length := by
  induction l with
  | nil => rw [idxA_nil]; decide
  | cons b l ih =>
    rw [idxA_cons, List.length_cons]
    split
    · omega
    · split <;> omega
end Go.Proofs.Ytcjfjfhggfcnfaa.Am
