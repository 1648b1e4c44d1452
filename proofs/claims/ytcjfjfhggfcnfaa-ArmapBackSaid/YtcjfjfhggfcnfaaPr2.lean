import Derived.Test.YtcjfjfhggfcnfaaF
import Derived.Test.YtcjfjfhggfcnfaaAmRS
set_option linter.unusedSimpArgs false
set_option linter.unusedVariables false
namespace Go.Proofs.Ytcjfjfhggfcnfaa
open Am Go
set_option maxRecDepth 10000
theorem put_ok {v : AV} {l : List Nat} {n : Int} {H : AHeap} {Q : AOut → AHeap → Prop} (g : Grow H v 1 (bs l) l.length) (hl : l.length < 10000)
    (k : ∀ v' H' q, q.length = 4 → (∀ x ∈ q, x < 256) → (0 ≤ n → n < 256 → q = [0, 0, 0, n.toNat]) → Grow H' v' 1 (bs (l ++ q)) (l ++ q).length → Keeps H H' (idOf v) → Reads H H' → (∀ i ∈ idOf v', i ∈ idOf v ∨ H.next ≤ i) → Q (.ret v') H') : CallsTo cf Try.prog n_armap_put [v, .int .i64 n] H Q := by
  refine calls_shared rfl rfl (enters_ok f_armap_put rfl (by kernel_rfl) (by kernel_rfl) (by kernel_rfl) ?_)
  simp (disch := omega) [oBuildSlice, newArr]
  obtain ⟨b1, h1, e1, r1⟩ := u8_nat (n / 16777216)
  obtain ⟨b2, h2, e2, r2⟩ := u8_nat (n / 65536)
  obtain ⟨b3, h3, e3, r3⟩ := u8_nat (n / 256)
  obtain ⟨b4, h4, e4, r4⟩ := u8_nat n
  simp only [e1, e2, e3, e4]
  have g' := g.keep' (Keeps.new H (.arr (bs [b1, b2, b3, b4]) 0 0 [4]) [])
  refine oq_appendR g' si38 zero5 rfl (by simp [notZeros]) (by omega) (m := 4) rfl (xs := bs [b1, b2, b3, b4]) (slCells_grow (get_new_same rfl) rfl (Nat.le_refl _)) rfl rfl (by omega) (by omega) fun v' H' g2 hk hr hi => ?_
  rw [← bs_append] at g2
  simp (disch := omega)
  refine k v' H' [b1, b2, b3, b4] rfl (by simp; omega) (fun h h' => by rw [show b1 = 0 by omega, show b2 = 0 by omega, show b3 = 0 by omega, show b4 = n.toNat by omega]) (by simpa using g2) ((Keeps.new H _ _).trans hk) (((Keeps.new H _ []).reads).trans hr) (fun i h => (hi i h).imp id (fun h => Nat.le_of_lt h))

structure EntryN where
  name : List Nat
  mem : Int
def EntryN.enc (p : EntryN) : List AV := [.str p.name, .int .i64 p.mem]
theorem EntryN.len (p : EntryN) : p.enc.length = 2 := rfl
def tailN (l : List EntryN) : List Nat := l.flatMap fun x : EntryN => x.name ++ [0]
/-- what the index's numbers are is of no weight but the first -/
theorem bytes_ok {v : AV} {l : List EntryN} (hv : SV v (l.flatMap EntryN.enc) l.length) (hl : l.length ≤ 20) (hn : ∀ x ∈ l, x.name.length ≤ 60 ∧ ∀ c ∈ x.name, c < 256) {H : AHeap} {Q : AOut → AHeap → Prop}
    (k : ∀ v' H' q, q.length = 4 * l.length → (∀ x ∈ q, x < 256) → Grow H' v' 1 (bs ([0, 0, 0, l.length] ++ q ++ tailN l)) ([0, 0, 0, l.length] ++ q ++ tailN l).length → Keeps H H' [] → (∀ i ∈ idOf v', H.next ≤ i) → Q (.ret v') H') :
    CallsTo cf Try.prog n_armap_Bytes [v] H Q := by
    refine calls_shared rfl rfl (enters_ok f_armap_Bytes rfl (by kernel_rfl) (by kernel_rfl) (by kernel_rfl) ?_)
    generalize hH0 : H = H0 at *
    simp (disch := omega) [hv.lenM]
    refine x_call (put_ok (l := []) Grow.nil (by simp) fun v1 H1 q0 hq0 hb0 hz g1 k1 r1 i1 => ?_)
    have kk1 : Keeps H0 H1 [] := k1.mono (by simp [idOf])
    have ii1 : ∀ i ∈ idOf v1, H0.next ≤ i := fun i h => (i1 i h).elim (by simp [idOf]) id
    simp (disch := omega) [retq, hv.lenM]
    have hz' := hz (by omega) (by omega)
    rw [Int.toNat_natCast] at hz'
    rw [List.nil_append] at g1
    refine x_loop (fun m T H => ∃ i v1 q, m = l.length - i ∧ i ≤ l.length ∧ q.length = 4 * i ∧ (∀ x ∈ q, x < 256) ∧ Grow H v1 1 (bs (q0 ++ q)) (q0 ++ q).length ∧ Keeps H0 H [] ∧ (∀ i ∈ idOf v1, H0.next ≤ i) ∧ ATmps.at T 0 = v ∧ ATmps.at T 3 = v1 ∧ ATmps.at T 11 = v ∧ ATmps.at T 12 = .int .i64 (l.length : Nat) ∧ ATmps.at T 13 = .int .i64 (i : Nat)) l.length
      ⟨0, v1, [], by simp, by omega, rfl, by simp, by simpa using g1, kk1, ii1, by simp, by simp, by simp, by simp, by simp⟩ ?_
    rintro m T H ⟨i, v1, q, rfl, hi, hq, hb, g, kk, ii, h0, h3, h11, h12, h13⟩
    simp (disch := omega) [h0, h3, h11, h12, h13]
    refine ⟨fun hlt => ?_, fun hge => ?_⟩
    · simp (disch := omega) [h0, h3, h11, h12, h13, hv.ix, rd_flat EntryN.len]
      refine oq_storeNew rfl rfl rfl rfl ?_
      simp (disch := omega) [EntryN.enc, h0, h3, h11, h12, h13]
      have kp : Keeps H ((H.new (.arr [.str [], .int .i64 0] 0 0 [2])).put H.next (.arr [.str l[i].name, .int .i64 l[i].mem] 0 0 [2])) [] := (Keeps.new H _ []).put _ (.inl (Nat.le_refl _))
      refine x_call (put_ok (g.keep' kp) (by simp; omega) fun v' H' q1 hq1 hb1 _ g2 k2 r2 i2 => ?_)
      have kk2 := (kk.trans (kp.mono fun _ h => h)).step k2 ii
      have ii2 : ∀ i ∈ idOf v', H0.next ≤ i := fun i h => (i2 i h).elim (ii i) (fun h => Nat.le_trans kk.1 (Nat.le_trans kp.1 h))
      simp (disch := omega) [retq, h0, h3, h11, h12, h13]
      refine ⟨l.length - (i + 1), by omega, i + 1, rfl, by omega, v', q ++ q1, by simp; omega, fun x hx => (List.mem_append.mp hx).elim (hb x) (hb1 x), by simpa [← List.append_assoc, Nat.add_assoc] using g2, kk2, ii2, rfl, wrap_i64 (by omega) (by omega)⟩
    · have : i = l.length := by omega
      subst this
      simp (disch := omega) [h0, h3, h11, h12, h13, hv.lenM]
      refine x_loop (fun m T H => ∃ i v1 t, m = l.length - i ∧ i ≤ l.length ∧ t = tailN (l.take i) ∧ Grow H v1 1 (bs (q0 ++ q ++ t)) (q0 ++ q ++ t).length ∧ Keeps H0 H [] ∧ (∀ i ∈ idOf v1, H0.next ≤ i) ∧ ATmps.at T 0 = v ∧ ATmps.at T 3 = v1 ∧ ATmps.at T 22 = v ∧ ATmps.at T 23 = .int .i64 (l.length : Nat) ∧ ATmps.at T 24 = .int .i64 (i : Nat)) l.length
        ⟨0, v1, [], by simp, by omega, rfl, by simpa using g, kk, ii, by simp [h0], by simp [h3], by simp [h0], by simp, by simp⟩ ?_
      clear h0 h3 h11 h12 h13 g kk ii T H
      rintro m T H ⟨i, v1, t, rfl, hi, rfl, g, kk, ii, h0, h3, h11, h12, h13⟩
      have ht : (tailN (l.take i)).length ≤ 61 * i := by
        have : ∀ m : List EntryN, (∀ x ∈ m, x.name.length ≤ 60 ∧ ∀ c ∈ x.name, c < 256) → (tailN m).length ≤ 61 * m.length := fun m hm => by
          induction m with
          | nil => simp [tailN]
          | cons a m ih =>
            have := ih fun x hx => hm x (List.mem_cons_of_mem _ hx)
            have := (hm a (List.mem_cons_self ..)).1
            simp only [tailN, List.flatMap_cons, List.length_append, List.length_cons, List.length_nil] at *
            omega
        have := this (l.take i) fun x hx => hn x (List.mem_of_mem_take hx)
        rw [List.length_take] at this
        omega
      simp (disch := omega) [h0, h3, h11, h12, h13]
      refine ⟨fun hlt => ?_, fun hge => ?_⟩
      · simp (disch := omega) [h0, h3, h11, h12, h13, hv.ix, rd_flat EntryN.len]
        refine oq_storeNew rfl rfl rfl rfl ?_
        simp (disch := omega) [EntryN.enc, h0, h3, h11, h12, h13]
        have kp : Keeps H ((H.new (.arr [.str [], .int .i64 0] 0 0 [2])).put H.next (.arr [.str l[i].name, .int .i64 l[i].mem] 0 0 [2])) [] := (Keeps.new H _ []).put _ (.inl (Nat.le_refl _))
        have hnm := (hn l[i] (List.getElem_mem hlt)).1
        refine oq_appendR (g.keep' kp) si38 zero5 rfl (by simp [notZeros]) (by omega) rfl (by rw [llen_eq]; exact slCells_str) (by simp) (bs_one _) (by simp; omega) (by simp; omega) fun v2 H2 g2 k2 r2 i2 => ?_
        have kk2 := (kk.trans kp).step k2 ii
        have ii2 : ∀ i ∈ idOf v2, H0.next ≤ i := fun i h => (i2 i h).elim (ii i) (fun h => Nat.le_trans (kk.trans kp).1 h)
        simp (disch := omega) [oBuildSlice, newArr, h0, h3, h11, h12, h13]
        refine oq_appendR (g2.keep' (Keeps.new _ _ _)) si38 zero5 rfl (by simp [notZeros]) (by omega) (m := 1) rfl (xs := bs [0]) (slCells_grow (get_new_same rfl) rfl (Nat.le_refl _)) rfl rfl (by simp; omega) (by simp; omega) fun v3 H3 g3 k3 r3 i3 => ?_
        have kk3 := (kk2.trans (Keeps.new H2 _ [])).step k3 ii2
        have ii3 : ∀ i ∈ idOf v3, H0.next ≤ i := fun i h => (i3 i h).elim (ii2 i) (fun h => Nat.le_trans (kk2.trans (Keeps.new H2 _ [])).1 h)
        simp (disch := omega) [h0, h3, h11, h12, h13]
        refine ⟨l.length - (i + 1), by omega, i + 1, rfl, by omega, v3, ?_, kk3, ii3, rfl, wrap_i64 (by omega) (by omega)⟩
        have e : tailN (l.take (i + 1)) = tailN (l.take i) ++ l[i].name ++ [0] := by
          rw [List.take_succ_eq_append_getElem hlt]
          simp only [tailN, List.flatMap_append, List.flatMap_cons, List.flatMap_nil, List.append_nil, List.append_assoc]
        rw [e]
        simpa [← bs_append, List.append_assoc, Nat.add_assoc] using g3
      · have : i = l.length := by omega
        subst this
        refine k v1 H q (by omega) hb ?_ kk ii
        simpa [hz'] using g
end Go.Proofs.Ytcjfjfhggfcnfaa
