import Derived.Test.YtcjfjfhggfcnfaaPr4
set_option linter.unusedSimpArgs false
set_option linter.unusedVariables false
namespace Go.Proofs.Ytcjfjfhggfcnfaa
open Am Go
set_option maxRecDepth 10000
theorem parse_short {u : AV} {y : List Nat} {count : Int} {H0 : AHeap} {Q : AOut → AHeap → Prop} (hu : RS H0 u 1 (bs y) y.length) (h0 : y.length ≠ 0) (h4 : y.length < 4)
    (k : Q (.ret (.tup [.nils, .int .i64 41])) H0) : CallsTo cf Try.prog n_armap_Parse [u, .int .i64 count] H0 Q := by
    refine calls_shared rfl rfl (enters_ok f_armap_Parse rfl (by kernel_rfl) (by kernel_rfl) (by kernel_rfl) ?_)
    have h1 : ¬ (y.length : Int) = 0 := by omega
    have h2 : y ≠ [] := fun h => by subst h; exact h0 rfl
    simp (disch := omega) [hu.lenM, h2]
    refine ⟨fun _ => k, fun h => by omega⟩
theorem rd_name {H : AHeap} {l : List EntryN} {i : Nat} (hi : i < l.length) : rdMem 1 (.vptr ((l.flatMap EntryN.enc).drop (i * 2))) H = some [.str l[i].name] := by
  rw [drop_elem EntryN.len l i hi]; exact rd_one
theorem law_ok {v : AV} {l : List EntryN} {count : Nat} (hv : SV v (l.flatMap EntryN.enc) l.length) (hc : count < 256) (hb : ∀ x ∈ l, ∀ c ∈ x.name, c < 256) (hbig : l.length ≤ 9223372036854775807) (hbn : ∀ x ∈ l, x.name.length ≤ 9223372036854775807) :
    Enters cf Try.prog n_dovetaillaw18_ArmapBack [v, .int .u8 (count : Nat)] emptyH fun o _ => o = .ret (.bool true) := by
  refine enters_ok f_dovetaillaw18_ArmapBack rfl (by kernel_rfl) (by kernel_rfl) (by kernel_rfl) ?_
  simp (disch := omega)
  refine x_call (known_ok ?_)
  simp (disch := omega) [retq, hv.lenM]
  intro h20
  refine x_loop (fun m T H => ∃ i w, m = l.length - i ∧ i ≤ l.length ∧ Grow H w 1 (strs ((l.take i).map (·.name))) i ∧ (∀ x ∈ l.take i, x.name.length ≤ 60 ∧ ∀ c ∈ x.name, c ≠ 0) ∧ ATmps.at T 0 = v ∧ ATmps.at T 1 = .int .u8 (count : Nat) ∧ ATmps.at T 5 = w ∧ ATmps.at T 6 = .int .i64 (i : Nat)) l.length
    ⟨0, .nils, by simp, by omega, Grow.nil, by simp, by simp, by simp, by simp, by simp⟩ ?_
  rintro m T H ⟨i, w, rfl, hi, g, hn, t0, t1, t5, t6⟩
  simp (disch := omega) [t0, t1, t5, t6, hv.lenM]
  refine ⟨fun hlt => ?_, fun hge => ?_⟩
  · have hl2 : i * 2 ≤ (l.flatMap EntryN.enc).length := by rw [len_flat EntryN.len]; omega
    have hnb := hbn l[i] (List.getElem_mem hlt)
    simp (disch := omega) [t0, t1, t5, t6, hv.ix, rd_name]
    intro h60
    refine x_loop (fun m T H' => ∃ k, m = l[i].name.length - k ∧ k ≤ l[i].name.length ∧ (∀ j (hj : j < l[i].name.length), j < k → l[i].name[j] ≠ 0) ∧ H' = H ∧ ATmps.at T 0 = v ∧ ATmps.at T 1 = .int .u8 (count : Nat) ∧ ATmps.at T 5 = w ∧ ATmps.at T 6 = .int .i64 (i : Nat) ∧ ATmps.at T 7 = .int .i64 (k : Nat)) l[i].name.length
      ⟨0, by simp, by omega, fun j hj h => by omega, rfl, by simp [t0], by simp [t1], by simp [t5], by simp [t6], by simp⟩ ?_
    clear t0 t1 t5 t6 T
    rintro m T H' ⟨k, rfl, hk, hz, rfl, t0, t1, t5, t6, t7⟩
    simp (disch := omega) [t0, t1, t5, t6, t7, hv.ix, rd_name]
    refine ⟨fun hk2 => ?_, fun hk2 => ?_⟩
    · simp (disch := omega) [t0, t1, t5, t6, t7]
      intro hne
      refine ⟨l[i].name.length - (k + 1), by omega, k + 1, rfl, by omega, fun j hj hjk => ?_, by rw [wrap_i64 (by omega) (by omega)]; rfl⟩
      by_cases hjk2 : j = k
      · subst hjk2; exact hne
      · exact hz j hj (by omega)
    · have hke : k = l[i].name.length := by omega
      simp (disch := omega) [oBuildSlice, newArr, t0, t1, t5, t6, t7, hv.ix, rd_name]
      have g' : Grow H' w 1 (strs ((l.take i).map (·.name))) ((l.take i).map (·.name)).length := by simpa [List.length_take, Nat.min_eq_left hi] using g
      refine oq_appendR (g'.keep' (Keeps.new _ _ _)) si32 zero9 rfl (by simp [notZeros]) (by omega) (m := 1) rfl (xs := [.str l[i].name]) (slCells_grow (get_new_same rfl) rfl (Nat.le_refl _)) rfl rfl (by simp; omega) (by simp; omega) fun v3 H3 g3 k3 r3 i3 => ?_
      simp (disch := omega) [t0, t1, t5, t6, t7]
      have e1 : (l.take (i + 1)) = l.take i ++ [l[i]] := by rw [List.take_succ_eq_append_getElem hlt]
      refine ⟨l.length - (i + 1), by omega, i + 1, rfl, by omega, v3, ?_, ?_, rfl, by rw [wrap_i64 (by omega) (by omega)]; rfl⟩
      · rw [← List.map_take, e1]
        have : ((l.take i).map (·.name)).length + 1 = i + 1 := by simp; omega
        rw [this] at g3
        simp only [strs, List.map_append, List.map_cons, List.map_nil] at g3 ⊢
        exact g3
      · rw [e1]
        intro x hx
        rcases List.mem_append.mp hx with hx | hx
        · exact hn x hx
        · rw [List.mem_singleton.mp hx]
          refine ⟨by omega, fun c hc => ?_⟩
          obtain ⟨j, hj, rfl⟩ := List.getElem_of_mem hc
          exact hz j hj (by omega)
  · have hie : i = l.length := by omega
    subst hie
    rw [List.take_length] at g hn
    clear hge hi
    have nn : ∀ x ∈ l, ∀ c ∈ x.name, c ≠ 0 := fun x hx => (hn x hx).2
    obtain ⟨p1, p2, p3⟩ := parse_back l nn
    refine x_call (bytes_ok hv (by omega) (fun x hx => ⟨(hn x hx).1, hb x hx⟩) fun v8 H8 q hq hqb g8' k8 i8 => ?_)
    have g8 : Grow H8 v8 1 (bs (0 :: 0 :: 0 :: l.length :: (q ++ tailN l))) ((q ++ tailN l).length + 4) := g8'
    clear g8'
    have gw := g.keep' k8
    have hlt : ∀ m : List EntryN, (∀ x ∈ m, x.name.length ≤ 60) → (tailN m).length ≤ 61 * m.length := fun m hm => by
      induction m with
      | nil => simp [tailN]
      | cons a m ih =>
        have := ih fun x hx => hm x (List.mem_cons_of_mem _ hx)
        have := hm a (List.mem_cons_self ..)
        rw [tailN_cons, List.length_append, List.length_cons, List.length_cons]
        omega
    have ht := hlt l fun x hx => (hn x hx).1
    have htb : ∀ x ∈ tailN l, x < 256 := fun x hx => by
      simp only [tailN, List.mem_flatMap, List.mem_append, List.mem_singleton] at hx
      obtain ⟨y, hy, h | h⟩ := hx
      · exact hb y hy x h
      · omega
    simp (disch := omega) [retq, t0, t1, t5, t6, wrap_i64]
    by_cases hbad : l.length ≠ 0 ∧ count = 0
    · obtain ⟨b1, rfl⟩ := hbad
      refine x_call (parse_bad g8.rs (by omega) b1 (by simp; omega) ?_)
      have hl0 : 0 < l.length := by omega
      simp (disch := omega) [retq, t0, t1, t5, t6, wrap_i64, hv.lenM, hl0]
    · refine x_call (parse_ok g8.rs (by omega) hq htb (by omega) (by omega) (by omega) (by omega) fun v9 H9 e hp k9 => ?_)
      rw [p1] at hp
      obtain ⟨names, hp1, g9, rfl⟩ | ⟨hp1, _⟩ := hp
      · cases hp1
        have rw0 : RS H w 1 (strs (l.map (·.name))) l.length := g.rs
        have rw9 := k9.reads _ _ _ _ (k8.reads _ _ _ _ rw0)
        have r9 := g9.rs
        have g89 := g8.keep' k9
        have hcond : (¬ 0 < l.length) ∨ (0 < l.length ∧ ¬ count = 0) := by omega
        have hll : (q ++ tailN l).length = 4 * l.length + (tailN l).length := by simp [hq]
        have rest : ∀ (T : ATmps), True := fun _ => trivial
        rcases hcond with c1 | ⟨c1, c2⟩
        case' inl => simp (disch := omega) [retq, t0, t1, t5, t6, wrap_i64, hv.lenM, c1, oBuildSlice, newArr]
        case' inr => simp (disch := omega) [retq, t0, t1, t5, t6, wrap_i64, hv.lenM, c1, c2, oBuildSlice, newArr]
        all_goals
          refine oq_appendR (g89.keep' (Keeps.new _ _ _)) si38 zero5 rfl (by simp [notZeros]) (by omega) (m := 1) rfl (xs := bs [0]) (slCells_grow (get_new_same rfl) rfl (Nat.le_refl _)) rfl rfl (by omega) (by omega) fun v10 H10 g10 k10 r10 i10 => ?_
          have q10 : Reads H9 H10 := ((Keeps.new H9 _ []).reads).trans r10
          rw [← bs_append] at g10
          have g10' : Grow H10 v10 1 (bs (0 :: 0 :: 0 :: l.length :: (q ++ (tailN l ++ [0])))) ((q ++ (tailN l ++ [0])).length + 4) := by
            have e : (q ++ (tailN l ++ [0])).length + 4 = (q ++ tailN l).length + 4 + 1 := by simp; omega
            rw [e, ← List.append_assoc]; exact g10
          simp (disch := omega) [t0, t1, t5, t6, wrap_i64]
          refine x_call (parse_ok g10'.rs (by omega) hq (fun x hx => (List.mem_append.mp hx).elim (htb x) (by simp; omega)) (by simp; omega) (by omega) (by omega) (by omega) fun v11 H11 e hp k11 => ?_)
          rw [p2 _ (by simp)] at hp
          obtain ⟨_, hp1, _⟩ | ⟨_, rfl, rfl⟩ := hp
          · cases hp1
          have rv8 := k11.reads _ _ _ _ (q10 _ _ _ _ g89.rs)
          have rw11 := k11.reads _ _ _ _ (q10 _ _ _ _ rw9)
          have r11 := k11.reads _ _ _ _ (q10 _ _ _ _ r9)
          simp (disch := omega) [retq, t0, t1, t5, t6, wrap_i64, rv8.lenM]
          refine rv8.sliceB (lo := 0) (hi := (q ++ tailN l).length + 3) Try.underlying38 sz5 rfl (by rw [boundA_some, natOf_pos (by omega)]; congr 1; omega) (by omega) (by omega) fun u hu => ?_
          rw [List.drop_zero, Nat.sub_zero] at hu
          have fin : ∀ (Q : AOut → AHeap → Prop), (∀ H12, Keeps H11 H12 [] → Q (.ret (.tup [.nils, .int .i64 41])) H12) → CallsTo cf Try.prog n_armap_Parse [u, .int .i64 (count : Nat)] H11 Q := fun Q kQ => by
            by_cases hl : l = []
            · have hq0 : q = [] := List.eq_nil_of_length_eq_zero (by rw [hq, hl]; rfl)
              rw [hl, hq0] at hu
              exact parse_short (y := [0, 0, 0]) hu (by decide) (by decide) (kQ _ (Keeps.refl _ _))
            · have ht0 : tailN l ≠ [] := by
                cases l with
                | nil => exact absurd rfl hl
                | cons a l => rw [tailN_cons]; simp
              have htl : 0 < (tailN l).length := List.length_pos_iff.mpr ht0
              have e : (0 :: 0 :: 0 :: l.length :: (q ++ tailN l)).take ((q ++ tailN l).length + 3) = 0 :: 0 :: 0 :: l.length :: (q ++ (tailN l).dropLast) := by
                have : (0 :: 0 :: 0 :: l.length :: (q ++ tailN l)).dropLast = 0 :: 0 :: 0 :: l.length :: (q ++ (tailN l).dropLast) := by
                  rw [← List.dropLast_append_of_ne_nil ht0]
                  have hne : q ++ tailN l ≠ [] := by simp [ht0]
                  rw [List.dropLast_cons_of_ne_nil (by simp), List.dropLast_cons_of_ne_nil (by simp), List.dropLast_cons_of_ne_nil (by simp), List.dropLast_cons_of_ne_nil hne]
                rw [← this, List.dropLast_eq_take]
                rfl
              have e2 : (q ++ tailN l).length + 3 = (q ++ (tailN l).dropLast).length + 4 := by
                rw [List.length_append, List.length_append, List.length_dropLast]; omega
              rw [e, e2] at hu
              have hlpos : l.length ≠ 0 := fun h => hl (List.eq_nil_of_length_eq_zero h)
              refine parse_ok hu (by omega) hq (fun x hx => htb x (List.dropLast_subset _ hx)) (by rw [List.length_dropLast]; omega) (by omega) (by omega) (by omega) fun v12 H12 e hp k12 => ?_
              rw [p3 hl] at hp
              obtain ⟨_, hp1, _⟩ | ⟨_, rfl, rfl⟩ := hp
              · cases hp1
              exact kQ _ k12
          simp (disch := omega) [t0, t1, t5, t6, wrap_i64]
          refine x_call (fin _ fun H12 k12 => ?_)
          simp (disch := omega) [retq, t0, t1, t5, t6, wrap_i64]
          have ra := k12.reads _ _ _ _ r11
          have rb : RS H12 w 1 (strs (l.map (·.name))) (l.map (·.name)).length := by rw [List.length_map]; exact k12.reads _ _ _ _ rw11
          refine x_call (strings_ok ra rb (by simp; omega) ?_)
          simp (disch := omega) [retq, t0, t1, t5, t6, wrap_i64]
      · cases hp1
end Go.Proofs.Ytcjfjfhggfcnfaa
