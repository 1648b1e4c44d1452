/- Slices' cells, conversions, what is made, append and copy, held against the model's. -/
import Derived.Test.YtcjfjfhggfcnfaaAmOpsF
set_option linter.unusedSimpArgs false
set_option linter.unusedVariables false
namespace Go.Proofs.Ytcjfjfhggfcnfaa.Am
open Go
variable {P : Program} {w : World} {e : Env} {H H' : AHeap}

theorem rdArr_some {ver off n : Nat} {o : AObj} {cs : List AV} (h : rdArr ver off n o = some cs) : ∃ cells low cur exts, o = .arr cells low cur exts ∧ low ≤ ver ∧ ver ≤ cur ∧ off + n ≤ extOf exts cur ver ∧ cs = (cells.drop off).take n := by
  cases o <;> simp only [rdArr] at h <;> try (cases h; done)
  exact ⟨_, _, _, _, rfl, arrRead_some h⟩
theorem slCells_ok {n esz : Nat} {x : AV} {v : Value} {cs : List AV} (hI : Inv e H w) (hv : VR e w x v) (h : slCells n esz x H = some cs) : ∃ a : Array Value, (Builtin.firstCells esz n v).run P w = .ok a w ∧ VRs e w cs a.toList := by
  cases x <;> simp only [slCells] at h <;> try (cases h; done)
  · -- a text
    rename_i s
    split at h
    · rename_i h1 h2
      obtain rfl := Nat.eq_of_beq_eq_true h1
      rw [ble_iff, llen_eq] at h2
      cases h
      simp only [VR] at hv
      obtain ⟨t, rfl, rfl⟩ := hv
      refine ⟨(t.extract 0 n).data.map fun b => .int .u8 b.toNat, rfl, ?_⟩
      rw [Array.toList_map, Lib.extract_data, lmap_eq, ltake_eq, ← List.map_take, List.map_map]
      simp only [List.drop_zero, Nat.sub_zero]
      exact VRs.map _ _ _ fun b _ => by simp only [VR, Function.comp]; rfl
    · cases h
  · -- nil
    simp only [VR] at hv
    subst hv
    cases n with
    | zero => cases h; exact ⟨#[], rfl, by simp only [VRs]⟩
    | succ n => cases h
  · -- a family's
    rename_i id ver off len esz' cap
    split at h
    · rename_i h1 h2
      obtain rfl := Nat.eq_of_beq_eq_true h1
      rw [ble_iff] at h2
      cases ho : H.get id with
      | none => rw [ho] at h; cases h
      | some o =>
        simp only [ho] at h
        obtain ⟨cells, low, cur, exts, rfl, g1, g2, g3, rfl⟩ := rdArr_some h
        obtain ⟨b, m, c, t, f, k⟩ := (hI.obj _ _ ho).2.2 ver g1 g2
        simp only [VR] at hv
        obtain ⟨b', N, X, o, c', hβ, rfl, hlen, hX, hcap, ho'⟩ := hv
        rw [k.β] at hβ
        simp only [Option.some.injEq, Prod.mk.injEq] at hβ
        obtain ⟨rfl, rfl, rfl⟩ := hβ
        obtain ⟨vs, hl, hc, hr⟩ := k.read g3
        refine ⟨vs.toArray, ?_, by simpa using hr⟩
        show (loadCells ⟨b, o, none⟩ (n * esz)).run P w = _
        refine run_loadCells vs hl fun j u hj => ?_
        rcases ho' with ⟨rfl, _⟩ | ⟨rfl, _⟩
        · exact hc j u hj
        · have : n = 0 := by omega
          subst this
          have : vs = [] := by rw [← List.length_eq_zero_iff, hl]; exact Nat.zero_mul _
          subst this; simp at hj
    · cases h
  · -- one that stays
    rename_i cells len capped fresh
    split at h
    · rename_i h1 h2
      rw [ble_iff] at h1 h2
      rw [llen_eq] at h2
      cases h
      simp only [VR] at hv
      obtain ⟨b, o, sp, c, rfl, hsp, hlen, hcap, hfr, hM⟩ := hv
      rcases hsp with rfl | ⟨hc0, _⟩
      case inr =>
        obtain rfl : n = 0 := by omega
        refine ⟨#[], by show (loadCells _ (0 * esz)).run P w = _; rw [Nat.zero_mul]; rfl, ?_⟩
        show VRs e w (ltake (0 * esz) cells) []
        rw [Nat.zero_mul, ltake_eq, List.take_zero]
        simp only [VRs]
      have hptr : VR e w (.vptr cells) (.pointer (some ⟨b, o, none⟩)) := by simp only [VR]; exact ⟨b, o, rfl, hM⟩
      obtain ⟨b', o', vs, he, hl, hc, hr⟩ := rdMem_ok (n := n * esz) (cs := ltake (n * esz) cells) hI (by
        show (match Nat.ble (n * esz) (llen cells) with | true => some (ltake (n * esz) cells) | false => none) = _
        rw [llen_eq, show Nat.ble (n * esz) cells.length = true from ble_iff.mpr h2]) hptr
      simp only [Value.pointer.injEq, Option.some.injEq, Addr.mk.injEq] at he
      obtain ⟨rfl, rfl, _⟩ := he
      exact ⟨vs.toArray, run_loadCells vs hl hc, by simpa using hr⟩
    · cases h
theorem slLen_ok {x : AV} {v : Value} {n : Nat} (hv : VR e w x v) (h : slLen x = some n) : (Builtin.lenOf v).run P w = .ok n w := by
  cases x <;> simp only [slLen] at h <;> try (cases h; done)
  · cases h
    simp only [VR] at hv
    obtain ⟨t, rfl, rfl⟩ := hv
    rw [llen_eq, str_size rfl]; rfl
  · cases h
    simp only [VR] at hv
    subst hv; rfl
  · cases h
    simp only [VR] at hv
    obtain ⟨b', N, X, o, c', hβ, rfl, _⟩ := hv; rfl
  · cases h
    simp only [VR] at hv
    obtain ⟨b, o, sp, c, rfl, _⟩ := hv; rfl

theorem bytes_vals {cs : List AV} {s : List Nat} {vs : List Value} (hv : VRs e w cs vs) (h : omap byteOfA cs = some s) : ∃ ns : List Int, vs = ns.map (Value.int .u8) ∧ (ns.map fun n => (UInt8.ofNat n.toNat)).map UInt8.toNat = s := by
  induction cs generalizing s vs with
  | nil =>
    simp only [omap_nil, Option.some.injEq] at h
    subst h
    simp only [VRs] at hv
    subst hv
    exact ⟨[], rfl, rfl⟩
  | cons c cs ih =>
    rw [omap_cons] at h
    obtain ⟨b, bs, h1, h2, rfl⟩ := h
    simp only [VRs] at hv
    obtain ⟨u, us, rfl, hu, hus⟩ := hv
    obtain ⟨ns, rfl, hn⟩ := ih hus h2
    cases c <;> try (cases h1; done)
    rename_i k i
    cases k <;> try (cases h1; done)
    cases i <;> try (cases h1; done)
    rename_i m
    simp only [byteOfA] at h1
    rw [nble] at h1
    by_cases hm : m ≤ 255
    · rw [decide_eq_true hm] at h1
      cases h1
      simp only [VR] at hu
      subst hu
      refine ⟨(b : Int) :: ns, rfl, ?_⟩
      simp only [List.map_cons, hn, List.cons.injEq, and_true]
      have : (Int.toNat (b : Int)) = b := rfl
      rw [this]
      simp; omega
    · rw [decide_eq_false hm] at h1; cases h1
theorem foldl_push (ns : List Int) (s : ByteArray) : (ns.foldl (fun r n => r.push (UInt8.ofNat n.toNat)) s).data.toList = s.data.toList ++ ns.map fun n => (UInt8.ofNat n.toNat) := by
  induction ns generalizing s with
  | nil => simp
  | cons n ns ih =>
    rw [List.foldl_cons, ih]
    show (s.data.push _).toList ++ _ = _
    simp
theorem bytes_string {x : AV} {v : Value} {n : Nat} {cs : List AV} {s : List Nat} (hI : Inv e H w) (hv : VR e w x v) (hx : ∀ t, x ≠ .str t) (hl : slLen x = some n) (h : slCells n 1 x H = some cs) (hb : omap byteOfA cs = some s) :
    ∃ t : ByteArray, (Conv.bytesToString v).run P w = .ok (.string t) w ∧ t.data.toList.map UInt8.toNat = s := by
  obtain ⟨a, hrun, hr⟩ := slCells_ok (P := P) hI hv h
  obtain ⟨ns, hns, hm⟩ := bytes_vals hr hb
  have key : ∀ (ad : Addr) (c : Nat), v = .slice (some ad) n c → ∃ t : ByteArray, (Conv.bytesToString v).run P w = .ok (.string t) w ∧ t.data.toList.map UInt8.toNat = s := by
    rintro ad c rfl
    have hrun' : (loadCells ad n).run P w = .ok (ns.map (Value.int .u8)).toArray w := by
      have h1 : (loadCells ad (n * 1)).run P w = .ok a w := hrun
      rw [Nat.mul_one] at h1
      rw [h1, ← hns]
    refine ⟨_, run_bytesToString w ad n c ns hrun', ?_⟩
    rw [foldl_push]
    simpa using hm
  cases x <;> simp only [slLen] at hl <;> try (cases hl; done)
  · exact absurd rfl (hx _)
  · cases hl
    simp only [VR] at hv
    subst hv
    simp only [slCells] at h
    cases h
    cases hb
    exact ⟨.empty, rfl, rfl⟩
  · cases hl
    simp only [VR] at hv
    obtain ⟨b', N, X, o, c', hβ, he, _⟩ := hv
    exact key _ _ he
  · cases hl
    simp only [VR] at hv
    obtain ⟨b, o, sp, c, he, _⟩ := hv
    exact key _ _ he

theorem run_toBytes {el : TypeId} {s : ByteArray} : ∃ (cap : Nat) (c : Array Value), s.size ≤ cap ∧ c.size = cap ∧ (∀ i : Nat, i < s.size → c[i]? = some (.int .u8 ((s.data.toList[i]?).getD 0).toNat)) ∧
    (Conv.stringToBytes el s).run P w = .ok (.slice (some ⟨w.heap.size, 0, none⟩) s.size cap) (setBlock (pushBlock (drewW w) (.cells c el)) w.heap.size (.cells c el (refroz (0, 0) c.size))) := by
  obtain ⟨cap, hrun, hcap⟩ := run_choose (P := P) (w := w) (.appendCap s.size 0 el) rfl
  have hge : s.size ≤ cap := by rw [hcap]; exact cap_ge _ _ _ _
  let c : Array Value := s.data.map (fun b => .int .u8 b.toNat) ++ Array.replicate (cap - s.size) (.int .u8 0)
  have hc : c.size = cap := by
    show (s.data.map _ ++ Array.replicate _ _).size = cap
    rw [Array.size_append, Array.size_map, Array.size_replicate]
    have : s.data.size = s.size := rfl
    omega
  refine ⟨cap, c, hge, hc, fun i hi => ?_, ?_⟩
  · have hi' : i < s.data.size := hi
    show (s.data.map _ ++ Array.replicate _ _)[i]? = _
    rw [Array.getElem?_append_left (by simpa using hi'), Array.getElem?_map, Array.getElem?_toList, Array.getElem?_eq_getElem hi']
    rfl
  · unfold Conv.stringToBytes
    rw [bind_ok hrun]
    have hnew : (newRow el c).run P (drewW w) = .ok ⟨w.heap.size, 0, none⟩ (pushBlock (drewW w) (.cells c el)) := rfl
    refine (bind_ok hnew).trans ?_
    have hblk : (pushBlock (drewW w) (.cells c el)).heap[w.heap.size]? = some (.cells c el (0, 0)) := by
      rw [pushBlock_get]; exact if_pos rfl
    rw [bind_ok (mark_block hblk rfl)]
    rfl
theorem slice_of_len {x : AV} {v : Value} {n : Nat} (hv : VR e w x v) (hl : slLen x = some n) (hx : ∀ t, x ≠ .str t) : ∃ a len c, v = .slice a len c := by
  cases x <;> simp only [slLen] at hl <;> try (cases hl; done)
  · exact absurd rfl (hx _)
  · simp only [VR] at hv; exact ⟨_, _, _, hv⟩
  · simp only [VR] at hv
    obtain ⟨b', N, X, o, c', hβ, he, _⟩ := hv
    exact ⟨_, _, _, he⟩
  · simp only [VR] at hv
    obtain ⟨b, o, sp, c, he, _⟩ := hv
    exact ⟨_, _, _, he⟩
theorem convA_ok {imm : Bool} {src dst : TypeId} {x y : AV} {v : Value} (hI : Inv e H w) (hv : VR e w x v) (h : convA imm P src dst x H = some (y, H')) : Goes P e w (convert src dst v) y H' := by
  unfold convA at h
  split at h
  · -- numbers
    rename_i d1 k k' n h1 h2
    cases h
    simp only [VR] at hv
    subst hv
    refine .same (v := .int k (k.wrap n)) hI ?_ (by simp only [VR, wrapF_eq])
    unfold convert
    rw [bind_ok (run_underlying h1), bind_ok (run_underlying h2)]
    rfl
  · rename_i d1 s h1 h2
    cases h
    have hv0 := hv
    simp only [VR] at hv
    obtain ⟨t, rfl, rfl⟩ := hv
    refine .same (v := .string t) hI ?_ hv0
    unfold convert
    rw [bind_ok (run_underlying h1), bind_ok (run_underlying h2)]
    rfl
  · -- a text's bytes
    rename_i d1 el s h1 h2
    split at h
    · rename_i hel
      simp only [VR] at hv
      obtain ⟨t, rfl, rfl⟩ := hv
      obtain ⟨cap, c, hge, hc, hget, hrun⟩ := run_toBytes (P := P) (w := w) (el := el) (s := t)
      have hbody : (convert src dst (.string t)).run P w = (Conv.stringToBytes el t).run P w := by
        unfold convert
        rw [bind_ok (run_underlying h1), bind_ok (run_underlying h2)]
        simp only
        rw [bind_ok (run_underlying hel)]
      have hsz := str_size (s := t) rfl
      have hlen : (lmap (fun b => AV.int .u8 (.ofNat b)) (t.data.toList.map UInt8.toNat)).length = t.size := by rw [lmap_eq, List.length_map, hsz]
      have hI1 := drew_inv hI
      have hcell : ∀ (i : Nat) (y : AV), (lmap (fun b => AV.int .u8 (.ofNat b)) (t.data.toList.map UInt8.toNat))[i]? = some y → ∃ u, c[i]? = some u ∧ VR e (drewW w) y u := by
        intro i y hy
        have hi : i < t.size := by
          have := (List.getElem?_eq_some_iff.mp hy).1
          omega
        rw [lmap_eq, List.getElem?_map, List.getElem?_map] at hy
        refine ⟨_, hget i hi, ?_⟩
        cases hg : t.data.toList[i]? with
        | none => rw [hg] at hy; cases hy
        | some q =>
          rw [hg] at hy
          simp only [Option.map_some, Option.some.injEq] at hy
          subst hy
          simp only [VR]; rfl
      have hbase := hI.base
      cases imm
      · cases h
        obtain ⟨hle, hinv, hβ⟩ := newArr_ok hI1 (lmap (fun b => AV.int .u8 (.ofNat b)) (t.data.toList.map UInt8.toNat)) c el (by omega) hcell
        have hblk : (pushBlock (drewW w) (.cells c el)).heap[w.heap.size]? = some (.cells c el (0, 0)) := by rw [pushBlock_get]; exact if_pos rfl
        have hle2 := refroz_le (e := e.add H.next 0 ((drewW w).heap.size, c.size, (lmap (fun b => AV.int .u8 (.ofNat b)) (t.data.toList.map UInt8.toNat)).length)) (f' := refroz (0, 0) c.size) hblk hbase refroz_ok
        have hinv2 := refroz_inv hinv hblk hbase refroz_ok
        refine ⟨_, _, _, hbody.trans hrun, ((drew_le e w).trans hle).trans hle2, hinv2, ?_⟩
        simp only [VR]
        refine ⟨_, _, _, 0, cap, hβ, by rw [llen_eq, hsz]; rfl, by rw [llen_eq, hsz]; exact hge, ?_, by simp, .inl ⟨rfl, by omega⟩⟩
        rw [llen_eq]; omega
      · cases h
        have hle := push_le hI1 (.cells c el)
        have hinv := push_inv hI1 (.cells c el)
        have hblk : (pushBlock (drewW w) (.cells c el)).heap[w.heap.size]? = some (.cells c el (0, 0)) := by rw [pushBlock_get]; exact if_pos rfl
        have hle2 := refroz_le (e := e) (f' := refroz (0, 0) c.size) hblk hbase refroz_ok
        have hinv2 := refroz_inv hinv hblk hbase refroz_ok
        refine ⟨_, _, _, hbody.trans hrun, ((drew_le e w).trans hle).trans hle2, hinv2, ?_⟩
        simp only [VR]
        refine ⟨w.heap.size, 0, none, cap, by rw [llen_eq, hsz], .inl rfl, by rw [llen_eq, hsz]; exact hge, by simp, fun _ => hbase, VM.of_get fun i y hy => ?_⟩
        obtain ⟨u, hu, hr⟩ := hcell i y hy
        refine ⟨fun ⟨id, ver, n, x, ho⟩ => ?_, fun ho => ?_, u, ?_, VR.mono (hle.trans hle2) _ _ hr⟩
        · have := (hI.own _ _ _ _ _ ho).1; omega
        · have := hI.out _ ho; omega
        · have hlt : w.heap.size < (pushBlock (drewW w) (.cells c el)).heap.size := by rw [pushBlock_size]; exact Nat.lt_succ_self _
          rw [Nat.zero_add, cell_of (by rw [setBlock_get, if_pos ⟨rfl, hlt⟩])]
          exact hu
    · cases h
  · -- a slice as a slice of the same type
    rename_i e0 el h1 h2 hns
    have key : ∀ (b o len c : Nat), v = .slice (some ⟨b, o, none⟩) len c → src = dst → P.underlying el = some (.int .u8) → e.base ≤ b → VR e w y v → H = H' → Goes P e w (convert src dst v) y H' := by
      rintro b o len c rfl rfl hel hb hy rfl
      obtain ⟨w', hrun, hle, hinv⟩ := mark_any (P := P) (o := o) hI hb
      refine ⟨e, w', _, ?_, hle, hinv, VR.mono hle _ _ hy⟩
      unfold convert
      rw [bind_ok (run_underlying h2), bind_ok (run_underlying h2)]
      simp only
      rw [bind_ok (run_underlying hel)]
      simp only [beq_self_eq_true]
      rw [bind_ok hrun]; rfl
    split at h
    · rename_i id ver off len esz cap hs hel
      obtain rfl := Nat.eq_of_beq_eq_true hs
      cases h
      have hv0 := hv
      simp only [VR] at hv
      obtain ⟨b, N, X, o, c, hβ, rfl, rest⟩ := hv
      exact key b o len c rfl rfl hel (hI.own _ _ _ _ _ hβ).2.1 hv0 rfl
    · rename_i cells len capped hs hel
      obtain rfl := Nat.eq_of_beq_eq_true hs
      cases h
      have hv0 := hv
      simp only [VR] at hv
      obtain ⟨b, o, sp, c, rfl, hsp, hlen, hcap, hfr, hM⟩ := hv
      obtain rfl : sp = none := hsp.elim id fun hh => by cases hh.2
      exact key b o len c rfl rfl hel (hfr trivial) hv0 rfl
    · cases h
  · -- bytes as a text
    rename_i el h1 h2 hnot
    split at h
    · rename_i n hel hl
      split at h
      · cases h
      · rename_i hx
        split at h
        · cases h
        · rename_i cs hcs
          split at h
          · rename_i s hb
            cases h
            obtain ⟨t, hrun, ht⟩ := bytes_string (P := P) hI hv (fun t ht => hx t ht) hl hcs hb
            refine .same (v := .string t) hI ?_ (by simp only [VR]; exact ⟨t, rfl, ht⟩)
            have hsl := slice_of_len hv hl (fun t ht => hx t ht)
            obtain ⟨a, len, c, rfl⟩ := hsl
            unfold convert
            rw [bind_ok (run_underlying h1), bind_ok (run_underlying h2)]
            simp only
            rw [bind_ok (run_underlying hel)]
            exact hrun
          · cases h
    · cases h
  · cases h
end Go.Proofs.Ytcjfjfhggfcnfaa.Am
