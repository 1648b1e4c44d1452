/- Slices that may be read, wherever they lie. -/
import Derived.Test.YtcjfjfhggfcnfaaAmConv
set_option linter.unusedSimpArgs false
set_option linter.unusedVariables false
namespace Go.Proofs.Ytcjfjfhggfcnfaa.Am
open Go
variable {cfg : Cfg} {P : Program}

def RS (H : AHeap) (v : AV) (esz : Nat) (cells : List AV) (n : Nat) : Prop :=
  (SV v cells n ∧ cells.length = n * esz) ∨ ∃ id ver off cap all low cur exts, v = .sl id ver off n esz cap ∧ H.get id = some (.arr all low cur exts) ∧ low ≤ ver ∧ ver ≤ cur ∧ off + n * esz ≤ extOf exts cur ver ∧ off + n * esz ≤ all.length ∧ cells = (all.drop off).take (n * esz) ∧ id < H.next
/-- whatever could be read still can, as it was -/
def Reads (H H' : AHeap) : Prop := ∀ v e c n, RS H v e c n → RS H' v e c n
theorem Reads.refl (H : AHeap) : Reads H H := fun _ _ _ _ h => h
theorem Reads.trans {H H' H'' : AHeap} (h : Reads H H') (k : Reads H' H'') : Reads H H'' := fun v e c n x => k v e c n (h v e c n x)
theorem Keeps.reads {H H' : AHeap} (k : Keeps H H' []) : Reads H H' := fun v e c n h => by
  rcases h with h | ⟨id, ver, off, cap, all, low, cur, exts, rfl, h1, h2, h3, h4, h5, h6, h7⟩
  · exact .inl h
  · exact .inr ⟨id, ver, off, cap, all, low, cur, exts, rfl, by rw [k.2 id h7 (by simp)]; exact h1, h2, h3, h4, h5, h6, Nat.lt_of_lt_of_le h7 k.1⟩
theorem SV.rs {H : AHeap} {v : AV} {cells : List AV} {n esz : Nat} (h : SV v cells n) (hl : cells.length = n * esz) : RS H v esz cells n := .inl ⟨h, hl⟩
theorem Grow.rs {H : AHeap} {v : AV} {esz n : Nat} {cells : List AV} (g : Grow H v esz cells n) : RS H v esz cells n := by
  rcases g with ⟨rfl, rfl, rfl⟩ | ⟨id, ver, low, exts, rfl, h1, h2, h3, h4⟩
  · exact .inl ⟨SV.nil, by simp⟩
  · refine .inr ⟨id, ver, 0, none, cells, low, ver, _, rfl, h1, h3, Nat.le_refl _, ?_, by omega, ?_, h4⟩
    · unfold extOf
      rw [show Nat.sub ver ver = 0 from Nat.sub_self ver]
      show 0 + n * esz ≤ cells.length
      omega
    · rw [List.drop_zero, List.take_of_length_le (by omega)]
theorem RS.len {H : AHeap} {v : AV} {esz n : Nat} {cells : List AV} (h : RS H v esz cells n) : cells.length = n * esz := by
  rcases h with ⟨_, h⟩ | ⟨id, ver, off, cap, all, low, cur, exts, rfl, h1, h2, h3, h4, h5, h6, h7⟩
  · exact h
  · rw [h6, List.length_take, List.length_drop]; omega
theorem RS.lenM {H H0 : AHeap} {v : AV} {cells : List AV} {n e esz : Nat} (h : RS H0 v esz cells n) : lenM (some (.slice e)) v H = some (.int .i64 (n : Nat)) := by
  rcases h with ⟨h, _⟩ | ⟨id, ver, off, cap, all, low, cur, exts, rfl, _⟩
  · exact h.lenM
  · rfl
theorem RS.slLen {H : AHeap} {v : AV} {esz n : Nat} {cells : List AV} (h : RS H v esz cells n) : slLen v = some n := by
  rcases h with ⟨⟨rfl, rfl, rfl⟩ | ⟨c, f, rfl⟩, _⟩ | ⟨id, ver, off, cap, all, low, cur, exts, rfl, _⟩ <;> rfl
theorem RS.cells {H : AHeap} {v : AV} {esz n : Nat} {cells : List AV} (h : RS H v esz cells n) : slCells n esz v H = some cells := by
  rcases h with ⟨⟨rfl, rfl, rfl⟩ | ⟨c, f, rfl⟩, hl⟩ | ⟨id, ver, off, cap, all, low, cur, exts, rfl, h1, h2, h3, h4, h5, h6, h7⟩
  · rfl
  · simp only [slCells, nble_t (Nat.le_refl _), llen_eq, hl, nble_t (show Nat.mul n esz ≤ n * esz from Nat.le_refl _), ltake_eq]
    rw [List.take_of_length_le (by rw [hl]; exact Nat.le_refl _)]
  · simp only [slCells, nbeq_t, nble_t (Nat.le_refl n), h1, rdArr, arrRead, nble_t h2, nble_t h3, nble_t (show Nat.add off (Nat.mul n esz) ≤ extOf exts cur ver from h4), ldrop_eq, ltake_eq]
    rw [h6]; rfl
/-- an element's address, and what is read there -/
theorem RS.at {H : AHeap} {v : AV} {esz n i m o : Nat} {k : IntKind} {cells : List AV} {R : VH} (h : RS H v esz cells n) (hi : i < n)
    (kk : ∀ p, (∀ m o, o + m ≤ esz → ∀ q, moveA o p = some q → rdMem m q H = some ((cells.drop (i * esz + o)).take m)) → (∀ m, m ≤ esz → rdMem m p H = some ((cells.drop (i * esz)).take m)) → (∀ o, o ≤ esz → ∃ q, moveA o p = some q) → R p H) : oqx (pureO (ixM (some (.sl esz)) v (.int k (i : Nat))) H) ⟨R⟩ () := by
  have hb : i * esz + esz ≤ n * esz := by rw [← Nat.succ_mul]; exact Nat.mul_le_mul_right _ hi
  have hl := h.len
  rcases h with ⟨h, _⟩ | ⟨id, ver, off, cap, all, low, cur, exts, rfl, h1, h2, h3, h4, h5, h6, h7⟩
  · rw [h.ix hi]
    refine kk _ ?_ ?_ ?_
    · intro m o ho q hq
      rw [moveA_v (by rw [List.length_drop]; omega), List.drop_drop] at hq
      cases hq
      rw [rdMem_v (by rw [List.length_drop]; omega)]
    · intro m hm
      rw [rdMem_v (by rw [List.length_drop]; omega)]
    · intro o ho
      exact ⟨_, moveA_v (by rw [List.length_drop]; omega)⟩
  · rw [ixM_s hi]
    have rd : ∀ m o, o + m ≤ esz → rdMem m (.ptr id ver (off + i * esz + o)) H = some ((cells.drop (i * esz + o)).take m) := fun m o ho => by
      rw [rdMem_p, h1]
      simp only [rdObj, rdArr, arrRead, nble_t h2, nble_t h3]
      rw [nble_t (show Nat.add (off + i * esz + o) m ≤ extOf exts cur ver by show off + i * esz + o + m ≤ _; omega)]
      simp only [ltake_eq, ldrop_eq]
      rw [h6, List.drop_take, List.drop_drop, List.take_take, Nat.min_eq_left (by omega), Nat.add_assoc off]
    refine kk _ ?_ ?_ ?_
    · intro m o ho q hq
      rw [moveA_ptr] at hq
      cases hq
      exact rd m o ho
    · intro m hm; exact rd m 0 (by omega)
    · intro o ho; exact ⟨_, rfl⟩
theorem RS.slice {H : AHeap} {v : AV} {esz n lo hi t e : Nat} {l h : Option AV} {cells : List AV} {R : VH} (hr : RS H v esz cells n) (hu : P.underlying t = some (.slice e)) (hs : szOf P e = some esz) (hl : boundA 0 l = some lo) (hh : boundA n h = some hi) (h1 : lo ≤ hi) (h2 : hi ≤ n)
    (kk : ∀ u, RS H u esz ((cells.drop (lo * esz)).take ((hi - lo) * esz)) (hi - lo) → R u H) : oqx (pureO (sliceA P t v l h none) H) ⟨R⟩ () := by
  have hc := hr.len
  have hmul : (lo + (hi - lo)) * esz ≤ n * esz := Nat.mul_le_mul_right _ (by omega)
  rw [Nat.add_mul] at hmul
  rcases hr with ⟨⟨rfl, rfl, rfl⟩ | ⟨c, f, rfl⟩, _⟩ | ⟨id, ver, off, cap, all, low, cur, exts, rfl, g1, g2, g3, g4, g5, g6, g7⟩
  · obtain rfl : hi = 0 := by omega
    obtain rfl : lo = 0 := by omega
    have : sliceA P t .nils l h none = some .nils := by
      simp only [sliceA, hu, hl, hh, boundA_none, hs]
    rw [this]
    exact kk _ (.inl ⟨by simpa using SV.nil, by simp⟩)
  · have hx : ixI P t = some (.sl esz) := by simp only [ixI, hu, hs]
    rw [sliceA_v, hx, hl, hh, slvM_ok h1 h2 hc]
    refine kk _ (.inl ⟨SV.v, ?_⟩)
    rw [List.length_take, List.length_drop]; omega
  · have : sliceA P t (.sl id ver off n esz cap) l h none = some (.sl id ver (off + lo * esz) (hi - lo) esz (Option.casesOn cap none (fun c => some (Nat.sub c lo)))) := by
      simp only [sliceA, hu, hl, hh, boundA_none, hs, nbeq_t, nble_t h1, nble_t h2, nble_t (Nat.le_refl n)]
      rfl
    rw [this]
    refine kk _ (.inr ⟨id, ver, off + lo * esz, _, all, low, cur, exts, rfl, g1, g2, g3, by omega, by omega, ?_, g7⟩)
    rw [g6, List.drop_take, List.drop_drop, List.take_take, Nat.min_eq_left (by omega)]
theorem RS.freeze {H : AHeap} {v : AV} {esz n d : Nat} {cells : List AV} (h : RS H v esz cells n) (hc : ∀ c ∈ cells, noRefs d c = true) : ∃ v', Am.freeze (d + 1) H v = some v' ∧ SV v' cells n ∧ noRefs (d + 1) v' = true := by
  have hcs := h.cells
  rcases h with ⟨h, _⟩ | ⟨id, ver, off, cap, all, low, cur, exts, rfl, h1⟩
  · exact ⟨v, freeze_id (h.noRefs hc), h, h.noRefs hc⟩
  · refine ⟨_, by rw [freeze_sl, hcs]; simp only; rw [omap_id fun x hx => freeze_id (hc x hx)], SV.v, ?_⟩
    rw [noRefs_succ]; exact lall_all.mpr hc
/-- a plain function's call, of one slice and of what is no reference -/
theorem calls_plainR {f : Nat} {a : AV} {rest : List AV} {H : AHeap} {Q : AOut → AHeap → Prop} {v : AV} {cells : List AV} {esz n : Nat} (hx : cfg.ext f = none) (hm : cfg.mode f = .plain) (ha : RS H a esz cells n) (hc : ∀ c ∈ cells, noRefs 23 c = true) (hr : ∀ x ∈ rest, noRefs 24 x = true)
    (h : ∀ a', SV a' cells n → Enters cfg P f (a' :: rest) emptyH fun out _ => out = .ret v) (hp : plainA 8 v = true) (hq : Q (.ret v) H) : CallsTo cfg P f (a :: rest) H Q := by
  obtain ⟨a', h1, h2, h3⟩ := ha.freeze (d := 23) hc
  cases hn : lall (noRefs 24) (a :: rest) with
  | true =>
    have : noRefs 24 a = true := lall_all.mp hn a (List.mem_cons_self ..)
    rw [freeze_id this] at h1
    cases h1
    exact calls_plain hx hm hn (h _ h2) hp hq
  | false =>
    refine calls_plainZ hx hm hn (args' := a' :: rest) ?_ (h a' h2) hp hq
    show (Option.casesOn (Am.freeze 24 H a) none (fun b => Option.casesOn (omap (Am.freeze 24 H) rest) none (fun bs => some (b :: bs))) : Option (List AV)) = _
    rw [h1, omap_id fun x hx => freeze_id (hr x hx)]
theorem oq_toStrR {imm : Bool} {s d e : TypeId} {v : AV} {l : List Nat} {H : AHeap} {R : VH} (hs : P.underlying s = some (.slice e)) (he : P.underlying e = some (.int .u8)) (hd : P.underlying d = some .string) (h : RS H v 1 (bs l) l.length) (hb : ∀ x ∈ l, x < 256)
    (k : R (.str l) H) : oqx (convA imm P s d v H) ⟨R⟩ () := by
  have hc := h.cells
  have hn := h.slLen
  have : convA imm P s d v H = some (.str l, H) := by
    rcases h with ⟨⟨rfl, _⟩ | ⟨c, f, rfl⟩, _⟩ | ⟨id, ver, off, cap, all, low, cur, exts, rfl, _⟩ <;> simp only [convA, hs, he, hd, hn, hc, omap_byte l hb]
  rw [this]; exact k
/-- an append leaves what may be read -/
theorem putOn_reads {H : AHeap} {v : AV} {esz n m : Nat} {cells xs : List AV} {v' : AV} {H' : AHeap} (g : Grow H v esz cells n) (ho : lall oneCell xs = true) (h : putOn n m esz xs v H = some (v', H')) : Reads H H' := by
  rcases g with ⟨rfl, rfl, rfl⟩ | ⟨id, ver, low, exts, rfl, h1, h2, h3, h4⟩
  · simp only [putOn, ho, freshFam, newArr] at h
    cases h
    exact (Keeps.new H _ []).reads
  · simp only [putOn, ho, nbeq_t, h1, growFam, lapp_eq, llen_eq] at h
    rw [nbeq_t (show Nat.add 0 (Nat.mul n esz) = cells.length by rw [h2]; exact Nat.zero_add _)] at h
    cases h
    intro u e c k hu
    rcases hu with hu | ⟨id2, ver2, off2, cap2, all2, low2, cur2, exts2, rfl, k1, k2, k3, k4, k5, k6, k7⟩
    · exact .inl hu
    · by_cases hi : id2 = id
      · subst hi
        rw [h1] at k1
        cases k1
        refine .inr ⟨id2, ver2, off2, cap2, cells ++ xs, low, ver + 1, _, rfl, get_put_same rfl, k2, by omega, ?_, by rw [List.length_append]; omega, ?_, h4⟩
        · have e1 : ∀ x, extOf (x :: cells.length :: exts) (ver + 1) ver2 = extOf (cells.length :: exts) ver ver2 := fun x => by
            unfold extOf
            rw [show Nat.sub (ver + 1) ver2 = Nat.sub ver ver2 + 1 from Nat.succ_sub k3]
            rfl
          rw [e1]; exact k4
        · rw [k6, List.drop_append_of_le_length (by omega), List.take_append_of_le_length (by rw [List.length_drop]; omega)]
      · exact .inr ⟨id2, ver2, off2, cap2, all2, low2, cur2, exts2, rfl, by rw [get_put_other hi]; exact k1, k2, k3, k4, k5, k6, k7⟩
theorem oq_appendR {H : AHeap} {v x : AV} {esz n m t el bytes : Nat} {ts : List TypeId} {cells xs : List AV} {z : AV} {R : VH} (g : Grow H v esz cells n) (hs : sliceInfo P t = some (el, esz, bytes)) (hz : zeroOf P el = some z) (hzl : (cellsOf z).length = esz) (hn : notZeros P ts = true)
    (he : 1 ≤ esz) (hx : slLen x = some m) (hc : slCells m esz x H = some xs) (hl : xs.length = m * esz) (ho : lall oneCell xs = true) (hr1 : n + m ≤ 70368744177664) (hr2 : (n + m + (n + m) + 1024) * bytes ≤ 281474976710656)
    (k : ∀ v' H', Grow H' v' esz (cells ++ xs) (n + m) → Keeps H H' (idOf v) → Reads H H' → (∀ i ∈ idOf v', i ∈ idOf v ∨ H.next ≤ i) → R v' H') : oqx (appendA P H (t :: ts) [v, x]) ⟨R⟩ () := by
  by_cases hm : m = 0
  · subst hm
    have : xs = [] := List.eq_nil_of_length_eq_zero (by simpa using hl)
    subst this
    exact oq_append0 g hs hn he hx (k v H (by simpa using g) (Keeps.refl _ _) (Reads.refl _) fun i hi => .inl hi)
  · obtain ⟨v', H', h1, h2, h3, h4⟩ := putOn_grow (m := m) g he hl ho
    have : appendA P H (t :: ts) [v, x] = some (v', H') := by
      rw [appendA_M]
      obtain ⟨g1, g2⟩ := g.slLen
      simp only [apM, hs, g1, g2, hn, hx, nbeq_f hm, nble_t he, room_ok (m := Nat.add n m) hr1 hr2, hz, hc, llen_eq, nbeq_t hzl, h1]
    rw [this]
    exact k v' H' h2 h3 (putOn_reads g ho h1) h4
theorem Keeps.step {H0 H H' : AHeap} {ids : List Nat} (h : Keeps H0 H []) (k : Keeps H H' ids) (hi : ∀ i ∈ ids, H0.next ≤ i) : Keeps H0 H' [] :=
  ⟨Nat.le_trans h.1 k.1, fun j hj hn => by
    rw [k.2 j (Nat.lt_of_lt_of_le hj h.1) (fun hh => by have := hi j hh; omega)]; exact h.2 j hj hn⟩
theorem RS.sliceB {H : AHeap} {v : AV} {n lo hi t e : Nat} {l h : Option AV} {z : List Nat} {R : VH} (hr : RS H v 1 (bs z) n) (hu : P.underlying t = some (.slice e)) (hs : szOf P e = some 1) (hl : boundA 0 l = some lo) (hh : boundA n h = some hi) (h1 : lo ≤ hi) (h2 : hi ≤ n)
    (kk : ∀ u, RS H u 1 (bs ((z.drop lo).take (hi - lo))) (hi - lo) → R u H) : oqx (pureO (sliceA P t v l h none) H) ⟨R⟩ () := by
  refine hr.slice hu hs hl hh h1 h2 fun u hu => kk u ?_
  rwa [Nat.mul_one, Nat.mul_one, bs_drop, bs_take] at hu
noncomputable def saysTrue : CallR → Bool
  | some (.ret (.bool true), _) => true
  | _ => false
/-- a run in the kernel that tells true -/
theorem enters_of {n f : Nat} {args : List AV} {H : AHeap} (h : saysTrue (enterF P (ev cfg P n) f args H) = true) : Enters cfg P f args H fun o _ => o = .ret (.bool true) := by
  unfold saysTrue at h
  split at h
  · rename_i H' he
    refine ⟨n, _, H', fun m hm => ?_, rfl⟩
    obtain ⟨k, rfl⟩ : ∃ k, m = n + k := ⟨m - n, by omega⟩
    exact enterF_up (ev_up n k) he
  · cases h
end Go.Proofs.Ytcjfjfhggfcnfaa.Am
