import Derived.Test.YtcjfjfhggfcnfaaPr3
set_option linter.unusedSimpArgs false
set_option linter.unusedVariables false
namespace Go.Proofs.Ytcjfjfhggfcnfaa
open Am Go
set_option maxRecDepth 10000
theorem strs_len (l : List (List Nat)) : (strs l).length = l.length := by simp [strs]
theorem strs_flat (l : List (List Nat)) : strs l = l.flatMap fun s => [.str s] := by induction l with | nil => rfl | cons a l ih => simp [strs] at ih ⊢; exact ih
theorem strs_noRefs {v : AV} {l : List (List Nat)} {n : Nat} (h : SV v (strs l) n) : noRefs 24 v = true := h.noRefs (d := 23) (by simp [strs]; intro a _; rfl)
theorem rd_strs {H : AHeap} {l : List (List Nat)} {i : Nat} (hi : i < l.length) : rdMem 1 (.vptr ((strs l).drop i)) H = some [.str l[i]] := by
  have := rd_flat (enc := fun s : List Nat => [AV.str s]) (n := 1) (fun _ => rfl) (H := H) hi
  rwa [Nat.mul_one, ← strs_flat] at this
theorem strings_ok {v w : AV} {a b : List (List Nat)} {H : AHeap} {Q : AOut → AHeap → Prop} (hv : RS H v 1 (strs a) a.length) (hw : RS H w 1 (strs b) b.length) (ha : a.length < 10000) (k : Q (.ret (.bool (decide (a = b)))) H) : CallsTo cf Try.prog n_dovetailhelp_Strings [v, w] H Q := by
  have nr : ∀ (l : List (List Nat)), ∀ c ∈ strs l, noRefs 23 c = true := fun l => by simp [strs]; intro a _; rfl
  have body : ∀ v w, SV v (strs a) a.length → SV w (strs b) b.length → Enters cf Try.prog n_dovetailhelp_Strings [v, w] emptyH fun out _ => out = .ret (.bool (decide (a = b))) := fun v w hv hw => by
    refine enters_ok f_dovetailhelp_Strings rfl (by kernel_rfl) (by kernel_rfl) (by kernel_rfl) ?_
    simp (disch := omega) [hv.lenM, hw.lenM]
    refine ⟨fun hne => ?_, fun hl => ?_⟩
    · intro h; subst h; exact hne rfl
    have hl' : a.length = b.length := by omega
    refine x_loop (fun m T H => ∃ i : Nat, m = a.length - i ∧ i ≤ a.length ∧ a.take i = b.take i ∧ ATmps.at T 5 = .int .i64 (i : Nat) ∧ ATmps.at T 0 = v ∧ ATmps.at T 1 = w) a.length ⟨0, by simp⟩ ?_
    rintro m T H ⟨i, rfl, hi, hab, h5, h0, h1⟩
    simp (disch := omega) [h5, h0, h1, hv.lenM]
    refine ⟨fun hlt => ?_, fun hge => ?_⟩
    · refine x_draw [(true, 0, 0), (true, 0, 0), (true, 0, 0), (true, 0, 0), (true, 0, 0), (true, 0, 0), (true, 0, 0), (true, 0, 0), (true, 0, 0)] (by kernel_rfl) (by kernel_rfl) ?_
      simp (disch := omega) [h5, h0, h1, hv.ix, hw.ix, rd_strs, wrap_i64]
      have ea : a.take (i + 1) = a.take i ++ [a[i]] := by rw [List.take_succ_eq_append_getElem hlt]
      have eb : b.take (i + 1) = b.take i ++ [b[i]] := by rw [List.take_succ_eq_append_getElem (by omega)]
      refine ⟨fun hne => ?_, fun he => ?_⟩
      · intro h; subst h; exact hne rfl
      · exact ⟨a.length - (i + 1), by omega, i + 1, rfl, by omega, by rw [ea, eb, hab, he], by omega⟩
    · have : i = a.length := by omega
      subst this
      rw [List.take_length, hl', List.take_length] at hab
      simp (disch := omega) [h5, h0, h1, hab]
  obtain ⟨v', g1, g2, g3⟩ := hv.freeze (d := 23) (nr a)
  obtain ⟨w', k1, k2, k3⟩ := hw.freeze (d := 23) (nr b)
  have om : omap (Am.freeze 24 H) [v, w] = some [v', w'] := by
    show (Option.casesOn (Am.freeze 24 H v) none (fun b => Option.casesOn (Option.casesOn (Am.freeze 24 H w) none (fun b => some [b])) none (fun bs => some (b :: bs))) : Option (List AV)) = _
    rw [g1, k1]
  cases hn : lall (noRefs 24) [v, w] with
  | true =>
    have h1 : noRefs 24 v = true := lall_all.mp hn v (by simp)
    have h2 : noRefs 24 w = true := lall_all.mp hn w (by simp)
    rw [freeze_id h1] at g1; rw [freeze_id h2] at k1
    cases g1; cases k1
    exact calls_plain rfl rfl hn (body _ _ g2 k2) rfl k
  | false => exact calls_plainZ rfl rfl hn om (body _ _ g2 k2) rfl k
theorem known_ok {Q : AOut → AHeap → Prop} {H : AHeap} (k : Q (.ret (.bool true)) H) : CallsTo cf Try.prog n_dovetaillaw18_known [] H Q :=
  calls_plain rfl rfl rfl (enters_of (n := 60) (by kernel_rfl)) rfl k
/-- the names end where they end -/
theorem idx_end {a r : List Nat} (h : ∀ x ∈ a, x ≠ 0) : idxA (a ++ 0 :: r) 0 = a.length := by
  induction a with
  | nil => rw [List.nil_append, idxA_cons, if_pos rfl]; rfl
  | cons x a ih =>
    have h0 := h x (List.mem_cons_self ..)
    have ih := ih fun y hy => h y (List.mem_cons_of_mem _ hy)
    rw [List.cons_append, idxA_cons, if_neg h0, ih, if_neg (by omega), List.length_cons]; rfl
theorem idx_none {a : List Nat} (h : ∀ x ∈ a, x ≠ 0) : idxA a 0 = -1 := by
  induction a with
  | nil => rfl
  | cons x a ih =>
    rw [idxA_cons, if_neg (h x (List.mem_cons_self ..)), ih fun y hy => h y (List.mem_cons_of_mem _ hy)]; rfl
theorem parseN_step (k : Nat) (a r : List Nat) (h : ∀ x ∈ a, x ≠ 0) : parseN (k + 1) (a ++ 0 :: r) = (parseN k r).map (a :: ·) := by
  show (if idxA (a ++ 0 :: r) 0 < 0 then none else (parseN k ((a ++ 0 :: r).drop ((idxA (a ++ 0 :: r) 0).toNat + 1))).map ((a ++ 0 :: r).take (idxA (a ++ 0 :: r) 0).toNat :: ·)) = _
  rw [idx_end h, if_neg (by omega), Int.toNat_natCast, List.take_left]
  have : (a ++ 0 :: r).drop (a.length + 1) = r := by rw [← List.drop_drop, List.drop_left]; rfl
  rw [this]
theorem tailN_cons (x : EntryN) (l : List EntryN) : tailN (x :: l) = x.name ++ 0 :: tailN l := by simp [tailN]
theorem parse_back (l : List EntryN) (h : ∀ x ∈ l, ∀ c ∈ x.name, c ≠ 0) : parseN l.length (tailN l) = some (l.map (·.name)) ∧ (∀ r, r ≠ [] → parseN l.length (tailN l ++ r) = none) ∧ (l ≠ [] → parseN l.length (tailN l).dropLast = none) := by
  induction l with
  | nil => exact ⟨rfl, fun r hr => by show (if [] ++ r = [] then _ else _) = _; rw [List.nil_append, if_neg hr], fun h => absurd rfl h⟩
  | cons x l ih =>
    obtain ⟨h1, h2, h3⟩ := ih fun y hy => h y (List.mem_cons_of_mem _ hy)
    have hx := h x (List.mem_cons_self ..)
    refine ⟨?_, fun r hr => ?_, fun _ => ?_⟩
    · rw [tailN_cons, List.length_cons, parseN_step _ _ _ hx, h1]; rfl
    · rw [tailN_cons, List.append_assoc, List.cons_append, List.length_cons, parseN_step _ _ _ hx, h2 r hr]; rfl
    · by_cases hl : l = []
      · subst hl
        have : (tailN [x]).dropLast = x.name := by rw [tailN_cons]; simp [tailN]
        rw [this]
        show (if idxA x.name 0 < 0 then none else _) = none
        rw [idx_none hx]; rfl
      · have : (tailN (x :: l)).dropLast = x.name ++ 0 :: (tailN l).dropLast := by
          rw [tailN_cons, List.dropLast_append_of_ne_nil (by simp), List.dropLast_cons_of_ne_nil]
          cases l with
          | nil => exact absurd rfl hl
          | cons y l => rw [tailN_cons]; simp
        rw [this, List.length_cons, parseN_step _ _ _ hx, h3 hl]; rfl
end Go.Proofs.Ytcjfjfhggfcnfaa
