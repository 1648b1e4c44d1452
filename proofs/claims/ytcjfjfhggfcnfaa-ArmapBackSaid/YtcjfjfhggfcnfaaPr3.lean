import Derived.Test.YtcjfjfhggfcnfaaPr2
set_option linter.unusedSimpArgs false
set_option linter.unusedVariables false
namespace Go.Proofs.Ytcjfjfhggfcnfaa
open Am Go
set_option maxRecDepth 10000
theorem idx_ok {v : AV} {l : List Nat} {c : Nat} {H : AHeap} {Q : AOut → AHeap → Prop} (h : RS H v 1 (bs l) l.length) (hb : ∀ x ∈ l, x < 256) (hc : c < 256) (k : Q (.ret (.int .i64 (idxA l c))) H) : CallsTo cf Try.prog n_bytes_IndexByte [v, .int .u8 (c : Nat)] H Q := by
  refine calls_plainR rfl rfl h (bs_noRefs l _) (by simp) (fun a h => enters_ok f_bytes_IndexByte rfl (by kernel_rfl) (by kernel_rfl) (by kernel_rfl) ?_) rfl k
  simp (disch := omega)
  refine x_call (calls_ext (g := extIdx) rfl (by rw [lall_all]; simp [h.bs_noRefs]) (extIdx_bs h hb hc) rfl ?_)
  simp [retq]
theorem number_ok {v : AV} {z : List Nat} {n : Nat} {H : AHeap} {Q : AOut → AHeap → Prop} (h : RS H v 1 (bs (0 :: 0 :: 0 :: n :: z)) (z.length + 4)) (hn : n < 256) (k : Q (.ret (.int .u64 (n : Nat))) H) : CallsTo cf Try.prog n_armap_number [v] H Q := by
  refine calls_plainR rfl rfl h (bs_noRefs _ _) (by simp) (fun a h => enters_ok f_armap_number rfl (by kernel_rfl) (by kernel_rfl) (by kernel_rfl) ?_) rfl k
  rcases h with ⟨_, _, h⟩ | ⟨c, f, rfl⟩
  · omega
  have hz : (0 :: 0 :: 0 :: n :: z).length = z.length + 4 := rfl
  simp (disch := omega) 
  refine x_loop (fun m T H => ∃ i : Nat, m = 4 - i ∧ i ≤ 4 ∧ (∃ c f, ATmps.at T 7 = .vsl (bs [0, 0, 0, n]) 4 c f) ∧ ATmps.at T 8 = .int .i64 4 ∧ ATmps.at T 9 = .int .i64 (i : Nat) ∧ ATmps.at T 3 = .int .u64 ((if i = 4 then n else 0 : Nat))) 4
    ⟨0, rfl, by omega, by simp [SV.v], by simp, by simp, by simp⟩ ?_
  rintro m T H ⟨i, rfl, hi, ⟨c, f, h7⟩, h8, h9, h3⟩
  simp (disch := omega) [h7, h8, h9, h3]
  refine ⟨fun hlt => ?_, fun hge => ?_⟩
  · have or0 : ∀ (m : Nat), m < 256 → binA Try.prog BinOp.or 24 (Operand.tmp 14) (Operand.tmp 16) (.int .u64 0) (.int .u64 (m : Nat)) = some (.int .u64 (m : Nat)) := fun m hm => by
      have := bin_or64 (P := Try.prog) (t := 24) (x := .tmp 14) (y := .tmp 16) (m := 0) (n := m) (by omega) (by omega)
      simpa using this
    have or00 := or0 0 (by omega)
    have orn := or0 n hn
    rcases (by omega : i = 0 ∨ i = 1 ∨ i = 2 ∨ i = 3) with rfl | rfl | rfl | rfl <;> simp at h3 h9 <;> simp (disch := omega) [h7, h8, h9, h3, bs, wrap_u64, wrap_i64] <;> (try simp at or00) <;> (try simp only [or00, orn, x_pure]) <;> simp (disch := omega) [h7, h8, h9, h3, wrap_i64]
    · skip
      exact ⟨3, by omega, 1, rfl, by omega, by cases c <;> cases f <;> simp [bs], rfl, by simp⟩
    · exact ⟨2, by omega, 2, rfl, by omega, by cases c <;> cases f <;> simp [bs], rfl, by simp⟩
    · exact ⟨1, by omega, 3, rfl, by omega, by cases c <;> cases f <;> simp [bs], rfl, by simp⟩
    · exact ⟨4, by omega, by omega, by cases c <;> cases f <;> simp [bs], rfl, by simp⟩
  · have : i = 4 := by omega
    subst this
    simp (disch := omega) [h7, h8, h9, h3]

/-- the names that so many ends of names part -/
noncomputable def parseN : Nat → List Nat → Option (List (List Nat))
  | 0, r => if r = [] then some [] else none
  | k + 1, r => if idxA r 0 < 0 then none else (parseN k (r.drop ((idxA r 0).toNat + 1))).map (r.take (idxA r 0).toNat :: ·)
def strs (l : List (List Nat)) : List AV := l.map .str
def parsed : Option (List (List Nat)) → AV → Int → Prop
  | some l, v, e => SV v (strs l) l.length ∧ e = 0
  | none, v, e => v = .nils ∧ e = 41
theorem parse_ok {u : AV} {z q : List Nat} {n : Nat} {count : Int} {H0 : AHeap} {Q : AOut → AHeap → Prop} (hu : RS H0 u 1 (bs (0 :: 0 :: 0 :: n :: (q ++ z))) ((q ++ z).length + 4)) (hn : n ≤ 20) (hq : q.length = 4 * n) (hb : ∀ x ∈ z, x < 256) (hz : z.length < 10000) (hc : 1 ≤ count ∨ n = 0) (hc2 : -256 ≤ count) (hc3 : count ≤ 256)
    (k : ∀ v H' e, ((∃ l, parseN n z = some l ∧ Grow H' v 1 (strs l) l.length ∧ e = 0) ∨ (parseN n z = none ∧ v = .nils ∧ e = 41)) → Keeps H0 H' [] → Q (.ret (.tup [v, .int .i64 e])) H') : CallsTo cf Try.prog n_armap_Parse [u, .int .i64 count] H0 Q := by
    refine calls_shared rfl rfl (enters_ok f_armap_Parse rfl (by kernel_rfl) (by kernel_rfl) (by kernel_rfl) ?_)
    have hl : (0 :: 0 :: 0 :: n :: (q ++ z)).length = (q ++ z).length + 4 := rfl
    have hqz : (q ++ z).length = 4 * n + z.length := by simp [hq]
    simp (disch := omega) [hu.lenM]
    refine ⟨fun h => by omega, fun _ => ⟨fun h => by omega, fun _ => ?_⟩⟩
    refine x_call (number_ok hu (by omega) ?_)
    have f1 : ¬ (2000 : Int) < (n : Int) := by omega
    have f4 : ¬ ((q.length : Int) + z.length + 4 < 4 + 4 * n) := by omega
    have e1 : (4 + 4 * (n : Int)).toNat = 4 + 4 * n := by omega
    have e2 : ((0 :: 0 :: 0 :: n :: (q ++ z)).drop (4 + 4 * n)).take ((q ++ z).length + 4 - (4 + 4 * n)) = z := by
      rw [show 4 + 4 * n = 4 * n + 1 + 1 + 1 + 1 by omega]
      simp only [List.drop_succ_cons]
      rw [← hq, List.drop_left, List.take_of_length_le (by simp)]
    have e3 : (q ++ z).length + 4 - (4 + 4 * n) = z.length := by omega
    have step : ∀ (k : Nat) (r : List Nat), parseN (k + 1) r = if idxA r 0 < 0 then none else (parseN k (r.drop ((idxA r 0).toNat + 1))).map (r.take (idxA r 0).toNat :: ·) := fun _ _ => rfl
    have hc1 : n ≠ 0 → ¬ count < 1 := by omega
    rcases Nat.eq_zero_or_pos n with h0 | h0
    · simp (disch := omega) [retq, h0, wrap_u64, hu.lenM]
      refine ⟨fun h => by omega, fun _ => ?_⟩
      refine hu.sliceB (lo := 4 + 4 * n) (hi := (q ++ z).length + 4) Try.underlying38 sz5 (by rw [h0]; rfl) (by rfl) (by omega) (by omega) fun r hr => ?_
      rw [e2, e3] at hr
      simp (disch := omega)
      refine x_loop (fun m T H => m = 0 ∧ H = H0 ∧ ATmps.at T 7 = r ∧ ATmps.at T 8 = .nils ∧ ATmps.at T 42 = .int .u64 0 ∧ ATmps.at T 43 = .int .u64 0) 0
        ⟨rfl, rfl, by simp, by simp, by simp, by simp⟩ ?_
      subst h0
      rintro m T H ⟨rfl, rfl, h7, h8, h42, h43⟩
      simp (disch := omega) [h7, h8, h42, h43, hr.lenM]
      have hp' : parseN 0 z = (if z = [] then some [] else none) := rfl
      refine ⟨fun h => k _ _ _ (.inr ⟨?_, rfl, rfl⟩) (Keeps.refl _ _), fun h => k _ _ _ (.inl ⟨[], ?_, Grow.nil, rfl⟩) (Keeps.refl _ _)⟩
      · rw [hp', if_neg (fun hh => by subst hh; simp at h)]
      · rw [hp', if_pos h]
    · have hc2 := hc1 (by omega)
      simp (disch := omega) [retq, f1, f4, hc2, h0, wrap_u64, hu.lenM]
      refine hu.sliceB (lo := 4 + 4 * n) (hi := (q ++ z).length + 4) Try.underlying38 sz5 (by simp (disch := omega) [e1]) (by rfl) (by omega) (by omega) fun r hr => ?_
      rw [e2, e3] at hr
      simp (disch := omega)
      refine x_loop (fun m T H => ∃ i rest names v8 r, m = n - i ∧ i ≤ n ∧ (∀ x ∈ rest, x < 256) ∧ rest.length ≤ z.length ∧ parseN n z = (parseN (n - i) rest).map (names ++ ·) ∧ Grow H v8 1 (strs names) names.length ∧ names.length = i ∧ RS H r 1 (bs rest) rest.length ∧ Keeps H0 H [] ∧ (∀ i ∈ idOf v8, H0.next ≤ i) ∧ ATmps.at T 7 = r ∧ ATmps.at T 8 = v8 ∧ ATmps.at T 42 = .int .u64 (n : Nat) ∧ ATmps.at T 43 = .int .u64 (i : Nat)) n
        ⟨0, z, [], .nils, r, rfl, by omega, hb, by omega, by simp, Grow.nil, rfl, hr, Keeps.refl _ _, by simp [idOf], by simp, by simp, by simp, by simp⟩ ?_
      clear hr
      rintro m T H ⟨i, rest, names, v8, r, rfl, hi, hb, hrl, hp, g, hnl, hr, kk, ii, h7, h8, h42, h43⟩
      simp (disch := omega) [h7, h8, h42, h43]
      refine ⟨fun hlt => ?_, fun hge => ?_⟩
      · obtain ⟨j, hk⟩ : ∃ k, n - i = k + 1 := ⟨n - i - 1, by omega⟩
        rw [hk, step] at hp
        refine x_call (idx_ok (c := 0) hr hb (by omega) ?_)
        simp (disch := omega) [retq, h7, h8, h42, h43]
        have hlen := idxA_lt rest 0
        refine ⟨fun hneg => ?_, fun hpos => ?_⟩
        · refine k _ _ _ (.inr ⟨?_, rfl, rfl⟩) kk
          rw [hp, if_pos hneg]; rfl
        · rw [if_neg (by omega)] at hp
          obtain ⟨a, ha⟩ := Int.eq_ofNat_of_zero_le hpos
          rw [ha, Int.toNat_natCast, Option.map_map] at hp
          rw [ha] at hlen ⊢
          refine hr.sliceB (lo := 0) (hi := a) Try.underlying38 sz5 rfl rfl (by omega) (by omega) fun r2 hr2 => ?_
          have e4 : (rest.take a).length = a := by rw [List.length_take]; omega
          rw [List.drop_zero, Nat.sub_zero] at hr2
          simp (disch := omega) [h7, h8, h42, h43, ha]
          refine oq_toStrR Try.underlying38 Try.underlying5 Try.underlying9 (l := rest.take a) (by rw [e4]; exact hr2) (fun x hx => hb x (List.mem_of_mem_take hx)) ?_
          simp (disch := omega) [oBuildSlice, newArr]
          refine oq_appendR (g.keep' (Keeps.new _ _ _)) si32 zero9 rfl (by simp [notZeros]) (by omega) (m := 1) rfl (xs := [.str (rest.take a)]) (slCells_grow (get_new_same rfl) rfl (Nat.le_refl _)) rfl rfl (by omega) (by omega) fun v3 H3 g3 k3 r3 i3 => ?_
          have kk3 := (kk.trans (Keeps.new H _ [])).step k3 ii
          have ii3 : ∀ i ∈ idOf v3, H0.next ≤ i := fun i h => (i3 i h).elim (ii i) (fun h => Nat.le_trans (kk.trans (Keeps.new H _ [])).1 h)
          have hr3 := r3 _ _ _ _ ((Keeps.new H _ []).reads _ _ _ _ hr)
          simp (disch := omega) [h7, h8, h42, h43, ha, wrap_i64, wrap_u64]
          refine hr3.sliceB (lo := a + 1) (hi := rest.length) Try.underlying38 sz5 (by simp (disch := omega)) (by rfl) (by omega) (by omega) fun r4 hr4 => ?_
          rw [List.take_of_length_le (by simp)] at hr4
          simp (disch := omega) [h7, h8, h42, h43, ha, wrap_i64, wrap_u64]
          refine ⟨j, by omega, i + 1, by omega, by omega, rest.drop (a + 1), fun x hx => hb x (List.mem_of_mem_drop hx), by simp; omega, names ++ [rest.take a], ?_, v3, by simpa [strs] using g3, by simp [hnl], r4, by rw [List.length_drop]; exact hr4, kk3, ii3, rfl, rfl, by omega⟩
          rw [hp, show n - (i + 1) = j by omega]
          congr 1
          funext x
          simp
      · have : i = n := by omega
        subst this
        rw [Nat.sub_self] at hp
        have hp' : parseN i z = (if rest = [] then some [] else none).map (names ++ ·) := hp
        simp (disch := omega) [h7, h8, h42, h43, hr.lenM]
        refine ⟨fun h => k _ _ _ (.inr ⟨?_, rfl, rfl⟩) kk, fun h => k _ _ _ (.inl ⟨names, ?_, g, rfl⟩) kk⟩
        · rw [hp', if_neg (fun hh => by subst hh; simp at h)]; rfl
        · rw [hp', if_pos h]; simp
/-- no members, some names: refused -/
theorem parse_bad {u : AV} {z : List Nat} {n : Nat} {H0 : AHeap} {Q : AOut → AHeap → Prop} (hu : RS H0 u 1 (bs (0 :: 0 :: 0 :: n :: z)) (z.length + 4)) (hn : n ≤ 20) (h0 : n ≠ 0) (hz : z.length < 10000)
    (k : Q (.ret (.tup [.nils, .int .i64 41])) H0) : CallsTo cf Try.prog n_armap_Parse [u, .int .i64 0] H0 Q := by
    refine calls_shared rfl rfl (enters_ok f_armap_Parse rfl (by kernel_rfl) (by kernel_rfl) (by kernel_rfl) ?_)
    simp (disch := omega) [hu.lenM]
    refine ⟨fun h => by omega, fun _ => ⟨fun h => by omega, fun _ => ?_⟩⟩
    refine x_call (number_ok hu (by omega) ?_)
    have f1 : ¬ (2000 : Int) < (n : Int) := by omega
    have hp : 0 < n := by omega
    simp (disch := omega) [retq, f1, hp, wrap_u64, hu.lenM]
    exact k
end Go.Proofs.Ytcjfjfhggfcnfaa
