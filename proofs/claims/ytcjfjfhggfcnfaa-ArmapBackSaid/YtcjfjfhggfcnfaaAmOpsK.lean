/- Maps, held against the model's. -/
import Derived.Test.YtcjfjfhggfcnfaaAmOpsJ
set_option linter.unusedSimpArgs false
set_option linter.unusedVariables false
namespace Go.Proofs.Ytcjfjfhggfcnfaa.Am
open Go
variable {P : Program} {w : World} {e : Env} {H H' : AHeap}

theorem flatFs_mem {d : Nat} : ∀ (l : List Field) (ks : List TypeDesc), flatFs P d l = some ks → ∀ f ∈ l, ∃ lf i, flatK P d f.type = some lf ∧ P.info? f.type = some i ∧ i.size = lf.length ∧ f.name ≠ "_" ∧ f.offset + lf.length ≤ ks.length
  | [], _, _, f, hf => by simp at hf
  | g :: l, ks, h, f, hf => by
    obtain ⟨acc, lf, i, h1, h2, h3, h4, h5, h6, rfl⟩ := flatFs_cons h
    rcases List.mem_cons.mp hf with rfl | hf
    · exact ⟨lf, i, h2, h3, h6, h4, by rw [List.length_append, h5]; omega⟩
    · obtain ⟨lf', i', g1, g2, g3, g4, g5⟩ := flatFs_mem l acc h1 f hf
      exact ⟨lf', i', g1, g2, g3, g4, by rw [List.length_append]; omega⟩
theorem flatK_cases {d : Nat} {t : TypeId} {ks : List TypeDesc} (h : flatK P (d + 1) t = some ks) :
    (∃ k, P.underlying t = some k ∧ ks = [k] ∧ aggOf P t = some false ∧ (k = .bool ∨ (∃ q, k = .int q) ∨ k = .string)) ∨
    (∃ fs, P.underlying t = some (.struct fs) ∧ aggOf P t = some true ∧ flatFs P d fs.toList.reverse = some ks) := by
  rw [flatK_succ] at h
  split at h
  · rename_i hk; exact .inl ⟨_, hk, (Option.some.inj h).symm, by unfold aggOf; rw [hk]; rfl, .inl rfl⟩
  · rename_i k hk; exact .inl ⟨_, hk, (Option.some.inj h).symm, by unfold aggOf; rw [hk]; rfl, .inr (.inl ⟨_, rfl⟩)⟩
  · rename_i hk; exact .inl ⟨_, hk, (Option.some.inj h).symm, by unfold aggOf; rw [hk]; rfl, .inr (.inr rfl)⟩
  · rename_i fs hk
    split at h
    · cases h
    · exact .inr ⟨fs, hk, by unfold aggOf; rw [hk]; rfl, h⟩
  · cases h
theorem val_exists {d : Nat} {t : TypeId} {ks : List TypeDesc} (h : flatK P d t = some ks) (vs : List Value) (hl : vs.length = ks.length) : ∃ v, valIs P t vs v := by
  cases d with
  | zero => cases h
  | succ d =>
    rcases flatK_cases h with ⟨k, _, rfl, ha, _⟩ | ⟨fs, _, ha, _⟩
    · match vs, hl with
      | [v], _ => exact ⟨v, .inr ⟨ha, rfl⟩⟩
    · exact ⟨.agg vs.toArray, .inl ⟨ha, rfl⟩⟩
theorem check_ok (em : Bool) : ∀ (d D : Nat) (t : TypeId) (ks : List TypeDesc), d ≤ D → flatK P d t = some ks → ∀ (vs : List Value) (v : Value), vs.length = ks.length → valIs P t vs v → (Instr.checkKey em D t v).run P w = .ok () w
  | 0, D, t, ks, _, h => by cases h
  | d + 1, 0, t, ks, hD, h => by omega
  | d + 1, D + 1, t, ks, hD, h => by
    intro vs v hl hv
    rcases flatK_cases h with ⟨k, hk, rfl, ha, hkk⟩ | ⟨fs, hk, ha, hfs⟩
    · unfold Instr.checkKey
      rw [bind_ok (run_underlying hk)]
      rcases hkk with rfl | ⟨q, rfl⟩ | rfl <;> rfl
    · rcases hv with ⟨_, rfl⟩ | ⟨hv, _⟩
      · unfold Instr.checkKey
        rw [bind_ok (run_underlying hk)]
        simp only
        rw [← Array.forIn_toList]
        have hmem := flatFs_mem _ _ hfs
        have key : ∀ l : List Field, (∀ f ∈ l, f ∈ fs.toList.reverse) → (forIn l PUnit.unit fun (f : Field) (_ : PUnit) => if f.name ≠ "_" then do
            let __do_lift ← part f.type vs.toArray f.offset
            Instr.checkKey em D f.type __do_lift
            pure (ForInStep.yield PUnit.unit)
          else pure (ForInStep.yield PUnit.unit) : Sem PUnit).run P w = .ok PUnit.unit w := by
          intro l
          induction l with
          | nil => intro _; rfl
          | cons f l ih =>
            intro hl'
            obtain ⟨lf, i, g1, g2, g3, g4, g5⟩ := hmem f (hl' f (List.mem_cons_self ..))
            have hlen : ((vs.drop f.offset).take lf.length).length = lf.length := by rw [List.length_take, List.length_drop]; omega
            obtain ⟨fv, hfv⟩ := val_exists g1 _ hlen
            have hp := run_part (P := P) (w := w) (xs := vs.toArray) (off := f.offset) (n := lf.length) (by rw [szOf_info g2, g3]) hfv rfl
            have hc := check_ok em d D f.type lf (by omega) g1 _ _ hlen hfv
            rw [List.forIn_cons]
            simp only [ne_eq, g4, not_false_eq_true, if_true]
            rw [bind_assoc, bind_ok hp, bind_assoc, bind_ok hc]
            rw [bind_ok (run_pure P _ w)]
            exact ih fun f hf => hl' f (List.mem_cons_of_mem _ hf)
        have := key fs.toList (fun f hf => by simpa using hf)
        first
          | exact this
          | (rw [bind_ok this]; rfl)
      · rw [ha] at hv; cases hv
theorem EntriesOk.cons {a : AEntry} {es : List AEntry} {cs : List MapEntry} (h : EntriesOk e w (a :: es) cs) : ∃ c cs', cs = c :: cs' ∧ VR e w a.key c.key ∧ VR e w a.val c.val ∧ a.born = c.born ∧ EntriesOk e w es cs' := by
  cases cs with
  | nil => exact absurd h.1 (by simp)
  | cons c cs =>
    obtain ⟨h1, h2, h3⟩ := h.2 0 a c rfl rfl
    exact ⟨c, cs, rfl, h1, h2, h3, by have := h.1; simpa using this, fun i x y hx hy => h.2 (i + 1) x y (by simpa using hx) (by simpa using hy)⟩
noncomputable def findFrom (ks : List TypeDesc) (k : AV) (es : List AEntry) : Nat → Option (Option (Nat × AEntry)) :=
  listRec (β := Nat → Option (Option (Nat × AEntry))) (fun _ => some none) (fun e _ r i => match keyEq ks k e.key with
    | some true => some (some (i, e))
    | some false => r (Nat.succ i)
    | none => none) es
theorem findFrom_cons (ks : List TypeDesc) (k : AV) (a : AEntry) (es : List AEntry) (i : Nat) : findFrom ks k (a :: es) i = match keyEq ks k a.key with
    | some true => some (some (i, a))
    | some false => findFrom ks k es (i + 1)
    | none => none := rfl
/-- what has been found, on both sides -/
def FoundOk (es : List AEntry) (cs : List MapEntry) (i : Nat) : Option (Nat × AEntry) → Option (Nat × Value) → Prop
  | none, none => True
  | some (j, a), some (j', v) => j' = j ∧ ∃ q c, j = i + q ∧ es[q]? = some a ∧ cs[q]? = some c ∧ v = c.val
  | _, _ => False
theorem FoundOk.tail {a : AEntry} {es : List AEntry} {c : MapEntry} {cs : List MapEntry} {i : Nat} {r : Option (Nat × AEntry)} {r' : Option (Nat × Value)} (h : FoundOk es cs (i + 1) r r') : FoundOk (a :: es) (c :: cs) i r r' := by
  cases r with
  | none => cases r' with
    | none => trivial
    | some x => exact h
  | some x => cases r' with
    | none => obtain ⟨j, b⟩ := x; exact h
    | some y =>
      obtain ⟨j, b⟩ := x
      obtain ⟨j', v⟩ := y
      obtain ⟨rfl, q, c', hq, h1, h2, h3⟩ := h
      exact ⟨rfl, q + 1, c', by omega, by simpa using h1, by simpa using h2, h3⟩
theorem sameNow_ok {kd : TypeDesc} {x y : AV} {u v : Value} {r : Bool} (hu : VR e w x u) (hv : VR e w y v) (h : flatEq1 kd x y = some r) : Instr.sameNow kd u v = some r := by
  cases kd <;> simp only [flatEq1] at h <;> try (cases h; done)
  · cases x <;> cases y <;> simp only at h <;> try (cases h; done)
    simp only [VR] at hu hv
    subst hu hv
    rename_i a b
    cases h
    cases a <;> cases b <;> rfl
  · cases x <;> cases y <;> simp only at h <;> try (cases h; done)
    simp only [VR] at hu hv
    subst hu hv
    split at h
    · rename_i h1 h2 _ _
      subst h1 h2
      cases h
      rw [eqI_beq]
      simp [Instr.sameNow]
    · cases h
  · cases x <;> cases y <;> simp only at h <;> try (cases h; done)
    simp only [VR] at hu hv
    obtain ⟨a, rfl, rfl⟩ := hu
    obtain ⟨b, rfl, rfl⟩ := hv
    cases h
    rw [strEq_eq, ← ByteArray.toList_eq, ← ByteArray.toList_eq, ← beq_toListBytes]
    rfl
theorem keyEq_scalar {ks : List TypeDesc} {x y : AV} {r : Bool} (hx : ∀ cs, x ≠ .agg cs) (h : keyEq ks x y = some r) : flatEqL ks [x] [y] = some r := by
  cases x <;> first
    | exact absurd rfl (hx _)
    | (cases y <;> first
        | (cases h; done)
        | exact h)
theorem keyEq_agg {ks : List TypeDesc} {a : List AV} {y : AV} {r : Bool} (h : keyEq ks (.agg a) y = some r) : ∃ b, y = .agg b ∧ flatEqL ks a b = some r := by
  cases y <;> first
    | (cases h; done)
    | exact ⟨_, rfl, h⟩
theorem find_scalar {kd : TypeDesc} {k : AV} {kv : Value} (hk : ∀ cs, k ≠ .agg cs) (hkv : VR e w k kv) : ∀ (es : List AEntry) (cs : List MapEntry) (i : Nat) (r : Option (Nat × AEntry)), EntriesOk e w es cs → findFrom [kd] k es i = some r →
    ∃ r', Instr.findNow kd kv cs i = some r' ∧ FoundOk es cs i r r'
  | [], cs, i, r, h, hf => by
    have : cs = [] := by have := h.1; simpa using this.symm
    subst this
    cases hf
    exact ⟨none, rfl, trivial⟩
  | a :: es, cs, i, r, h, hf => by
    obtain ⟨c, cs, rfl, h1, h2, h3, h4⟩ := h.cons
    rw [findFrom_cons] at hf
    cases he : keyEq [kd] k a.key with
    | none => rw [he] at hf; cases hf
    | some b =>
      obtain ⟨x, a', y, b', r1, r2, hx, hy, g1, g2, hb⟩ := flatEqL_cons (keyEq_scalar hk he)
      obtain ⟨rfl, rfl, rfl⟩ := flatEqL_nil g2
      simp only [List.cons.injEq, and_true] at hx hy
      subst hx
      rw [Bool.and_true] at hb
      subst hb
      have hs := sameNow_ok hkv (by rw [← hy]; exact h1) g1
      simp only [he] at hf
      cases b
      · obtain ⟨r', hr, hfo⟩ := find_scalar hk hkv es cs (i + 1) r h4 hf
        refine ⟨r', ?_, hfo.tail⟩
        simp only [Instr.findNow, hs]
        exact hr
      · cases hf
        exact ⟨some (i, c.val), by simp only [Instr.findNow, hs], rfl, 0, c, rfl, rfl, rfl, rfl⟩
theorem find_struct {kt : TypeId} {ks : List TypeDesc} {a : List AV} {kv : Value} (hK : flatK P 20 kt = some ks) (ha : aggOf P kt = some true) (hkv : VR e w (.agg a) kv) : ∀ (es : List AEntry) (cs : List MapEntry) (i : Nat) (r : Option (Nat × AEntry)), EntriesOk e w es cs → findFrom ks (.agg a) es i = some r →
    ∃ r', (Instr.findAsking kt kv cs i).run P w = .ok r' w ∧ FoundOk es cs i r r'
  | [], cs, i, r, h, hf => by
    have : cs = [] := by have := h.1; simpa using this.symm
    subst this
    cases hf
    exact ⟨none, rfl, trivial⟩
  | b :: es, cs, i, r, h, hf => by
    obtain ⟨c, cs, rfl, h1, h2, h3, h4⟩ := h.cons
    rw [findFrom_cons] at hf
    cases he : keyEq ks (.agg a) b.key with
    | none => rw [he] at hf; cases hf
    | some q =>
      obtain ⟨b', hb, hq⟩ := keyEq_agg he
      rw [hb] at h1
      have hkv0 := hkv
      simp only [VR] at hkv h1
      obtain ⟨va, rfl, hva⟩ := hkv
      obtain ⟨vb, hvb', hvb⟩ := h1
      obtain ⟨v', u', g1, g2, hrun⟩ := flat_eq (e := e) (w := w) 20 10000 kt ks (by omega) hK _ _ _ _ _ hva hvb hq
      have hv' : v' = .agg va := by
        rcases g1 with ⟨_, rfl⟩ | ⟨g, _⟩
        · rfl
        · rw [ha] at g; cases g
      have hu' : u' = c.key := by
        rcases g2 with ⟨_, rfl⟩ | ⟨g, _⟩
        · rw [hvb']
        · rw [ha] at g; cases g
      rw [hv', hu'] at hrun
      have hrun : (Op.equal kt (.agg va) c.key).run P w = .ok q w := hrun
      simp only [he] at hf
      cases q
      · obtain ⟨r', hr, hfo⟩ := find_struct hK ha hkv0 es cs (i + 1) r h4 hf
        refine ⟨r', ?_, hfo.tail⟩
        simp only [Instr.findAsking]
        rw [bind_ok hrun]
        simp only [Bool.false_eq_true, if_false]
        exact hr
      · cases hf
        refine ⟨some (i, c.val), ?_, rfl, 0, c, rfl, rfl, rfl, rfl⟩
        simp only [Instr.findAsking]
        rw [bind_ok hrun]
        rfl
/-- a key's type and kinds -/
theorem mapTypes_some {t kt et : TypeId} {ks : List TypeDesc} (h : mapTypes P t = some (kt, ks, et)) : P.underlying t = some (.map kt et) ∧ flatK P 20 kt = some ks := by
  unfold mapTypes at h
  split at h
  · rename_i k el hk
    split at h
    · rename_i ks' hks
      cases h
      exact ⟨hk, hks⟩
    · cases h
  · cases h
theorem key_ok {kt : TypeId} {ks : List TypeDesc} {k : AV} {kv : Value} (hK : flatK P 20 kt = some ks) (hkv : VR e w k kv) (h : keyOk P kt k ks = true) (em : Bool) :
    (Instr.checkKey em 10000 kt kv).run P w = .ok () w ∧ ∀ (es : List AEntry) (cs : Array MapEntry) (r : Option (Nat × AEntry)), EntriesOk e w es cs.toList → findA ks k es = some r → ∃ r', (Instr.findKey kt kv cs.toList).run P w = .ok r' w ∧ FoundOk es cs.toList 0 r r' := by
  cases hq : keyEq ks k k with
  | none =>
    unfold keyOk at h
    rw [hq] at h
    split at h <;> contradiction
  | some q =>
    cases ha : aggOf P kt with
    | none =>
      unfold keyOk at h
      rw [ha] at h
      split at h <;> contradiction
    | some isA =>
      by_cases hagg : ∃ a, k = .agg a
      · obtain ⟨a, rfl⟩ := hagg
        cases isA with
        | false => unfold keyOk at h; rw [ha] at h; cases h
        | true =>
          obtain ⟨b, hb, hq⟩ := keyEq_agg hq
          have hlen := (flatEqL_len hq).1
          have hkv0 := hkv
          simp only [VR] at hkv
          obtain ⟨va, rfl, hva⟩ := hkv
          refine ⟨check_ok em 20 10000 kt ks (by omega) hK va.toList _ (by rw [hva.length, hlen]) (.inl ⟨ha, rfl⟩), fun es cs r hes hf => ?_⟩
          obtain ⟨r', hr, hfo⟩ := find_struct (P := P) hK ha hkv0 es cs.toList 0 r hes hf
          refine ⟨r', ?_, hfo⟩
          rcases flatK_cases hK with ⟨_, _, _, hn, _⟩ | ⟨fs, hk, _, _⟩
          · rw [ha] at hn; cases hn
          · unfold Instr.findKey
            rw [bind_ok (run_underlying hk)]
            cases hcs : cs.toList with
            | nil =>
              rw [hcs] at hr
              exact hr
            | cons c cs' =>
              have : Instr.findNow (.struct fs) (.agg va) (c :: cs') 0 = none := by simp only [Instr.findNow, Instr.sameNow]
              rw [this]
              rw [hcs] at hr
              exact hr
      · have hna : ∀ cs, k ≠ .agg cs := fun cs hc => hagg ⟨cs, hc⟩
        cases isA with
        | true =>
          unfold keyOk at h
          rw [ha, hq] at h
          cases k <;> first | exact absurd rfl (hna _) | cases h
        | false =>
          have hq' := keyEq_scalar hna hq
          rcases flatK_cases hK with ⟨kd, hk, rfl, _, _⟩ | ⟨fs, _, hn, _⟩
          · have hx0 : k ≠ .opq := by
              rintro rfl
              obtain ⟨x, a', y, b', r1, r2, hx, hy, g1, _⟩ := flatEqL_cons hq'
              simp only [List.cons.injEq, and_true] at hx
              obtain ⟨rfl, _⟩ := hx
              cases kd <;> cases g1
            refine ⟨check_ok em 20 10000 kt [kd] (by omega) hK [kv] _ rfl (.inr ⟨ha, rfl⟩), fun es cs r hes hf => ?_⟩
            obtain ⟨r', hr, hfo⟩ := find_scalar hna hkv es cs.toList 0 r hes hf
            refine ⟨r', ?_, hfo⟩
            unfold Instr.findKey
            rw [bind_ok (run_underlying hk), hr]
            rfl
          · rw [ha] at hn; cases hn

theorem found_none {es : List AEntry} {cs : List MapEntry} {i : Nat} {r' : Option (Nat × Value)} (h : FoundOk es cs i none r') : r' = none := by
  cases r' with
  | none => rfl
  | some x => exact h.elim
theorem found_some {es : List AEntry} {cs : List MapEntry} {j : Nat} {a : AEntry} {r' : Option (Nat × Value)} (h : FoundOk es cs 0 (some (j, a)) r') : ∃ c, r' = some (j, c.val) ∧ es[j]? = some a ∧ cs[j]? = some c := by
  cases r' with
  | none => exact h.elim
  | some x =>
    obtain ⟨j', v⟩ := x
    obtain ⟨rfl, q, c, hq, h1, h2, rfl⟩ := h
    obtain rfl : j' = q := by omega
    exact ⟨c, rfl, h1, h2⟩
theorem oLookup_ok {t : TypeId} {m k y : AV} {mv kv : Value} {ok : Bool} (hI : Inv e H w) (hm : VR e w m mv) (hk : VR e w k kv) (h : oLookup P t m k ok H = some (y, H')) : Goes P e w (Instr.lookup t mv kv ok) y H' := by
  unfold oLookup at h
  split at h
  · cases h
  · rename_i kt ks et hmt
    obtain ⟨hu, hK⟩ := mapTypes_some hmt
    split at h
    · rename_i z hko hz
      obtain ⟨zv, hzr, rfl, hzn⟩ := run_zeroValue (w := w) hz
      -- the answer, once the entries are there
      have fin : ∀ (es : List AEntry) (cs : Array MapEntry) (r : Option (Nat × AEntry)), EntriesOk e w es cs.toList → findA ks k es = some r →
          (match r with
            | some (_, a) => some (Bool.casesOn (motive := fun _ => AV) ok a.val (.tup [a.val, .bool true]), H)
            | none => some (Bool.casesOn (motive := fun _ => AV) ok (cv zv) (.tup [cv zv, .bool false]), H)) = some (y, H') →
          ∃ v, (do
            Instr.checkKey cs.isEmpty 10000 kt kv
            let (v, ok') ← match ← Instr.findKey kt kv cs.toList with
              | some (_, v) => pure (v, true)
              | none => pure (← zeroValue et, false)
            pure (if ok then .tuple #[v, .bool ok'] else v) : Sem Value).run P w = .ok v w ∧ VR e w y v ∧ H = H' := by
        intro es cs r hes hf hr
        obtain ⟨hck, hfind⟩ := key_ok (P := P) hK hk hko cs.isEmpty
        obtain ⟨r', hr', hfo⟩ := hfind es cs r hes hf
        rw [bind_ok hck, bind_ok hr']
        cases r with
        | none =>
          have := found_none hfo
          subst this
          simp only at hr ⊢
          rw [bind_ok hzr]
          cases ok
          · cases hr
            exact ⟨zv, rfl, cv_ok zv, rfl⟩
          · cases hr
            exact ⟨_, rfl, by simp only [VR, VRs]; exact ⟨_, rfl, _, _, rfl, cv_ok zv, _, _, rfl, rfl, rfl⟩, rfl⟩
        | some x =>
          obtain ⟨j, a⟩ := x
          obtain ⟨c, rfl, h1, h2⟩ := found_some hfo
          have hval := (hes.2 j a c h1 h2).2.1
          simp only at hr ⊢
          cases ok
          · cases hr
            exact ⟨c.val, rfl, hval, rfl⟩
          · cases hr
            exact ⟨_, rfl, by simp only [VR, VRs]; exact ⟨_, rfl, _, _, rfl, hval, _, _, rfl, rfl, rfl⟩, rfl⟩
      have join : ∀ (o : Option (Option (Nat × AEntry))), (match o with
          | some (some (_, e)) => some (Bool.casesOn (motive := fun _ => AV) ok e.val (.tup [e.val, .bool true]), H)
          | some none => some (Bool.casesOn (motive := fun _ => AV) ok (cv zv) (.tup [cv zv, .bool false]), H)
          | none => none) = some (y, H') → ∃ r, o = some r ∧ (match r with
            | some (_, a) => some (Bool.casesOn (motive := fun _ => AV) ok a.val (.tup [a.val, .bool true]), H)
            | none => some (Bool.casesOn (motive := fun _ => AV) ok (cv zv) (.tup [cv zv, .bool false]), H)) = some (y, H') := by
        intro o ho
        cases o with
        | none => cases ho
        | some r => exact ⟨r, rfl, by cases r <;> exact ho⟩
      obtain ⟨r, hr1, hr2⟩ := join _ h
      split at hr1
      · cases hr1
        simp only [VR] at hm
        subst hm
        obtain ⟨v, hrun, hv, rfl⟩ := fin [] #[] none ⟨rfl, fun i a c ha => by simp at ha⟩ rfl hr2
        refine .same hI ?_ hv
        unfold Instr.lookup
        rw [bind_ok (run_underlying hu)]
        exact hrun
      · split at hr1
        · rename_i es clock he
          obtain ⟨id, b, n, x, cs, _, ho, hβ, rfl, hb, hes⟩ := entriesA_ok hI hm he
          obtain ⟨v, hrun, hv, rfl⟩ := fin es cs r hes hr1 hr2
          refine .same hI ?_ hv
          unfold Instr.lookup
          rw [bind_ok (run_underlying hu)]
          simp only
          rw [bind_ok (run_getObj hb (by simp))]
          exact hrun
        · cases hr1
    · cases h
/-- a key laid over one that it equals is the same key -/
def flatV : Value → Bool
  | .bool _ | .int .. | .string _ => true
  | _ => false
theorem bytes_ext {a b : ByteArray} (h : a.toList = b.toList) : a = b := by
  rw [ByteArray.toList_eq, ByteArray.toList_eq] at h
  obtain ⟨⟨x⟩⟩ := a
  obtain ⟨⟨y⟩⟩ := b
  simp at h
  rw [h]
theorem flat_same {kd : TypeDesc} {x y : AV} {u v : Value} (hu : VR e w x u) (hv : VR e w y v) (h : flatEq1 kd x y = some true) : u = v ∧ flatV u = true := by
  cases kd <;> simp only [flatEq1] at h <;> try (cases h; done)
  · cases x <;> cases y <;> simp only at h <;> try (cases h; done)
    simp only [VR] at hu hv
    subst hu hv
    rename_i a b
    cases a <;> cases b <;> first | (cases h; done) | exact ⟨rfl, rfl⟩
  · cases x <;> cases y <;> simp only at h <;> try (cases h; done)
    simp only [VR] at hu hv
    subst hu hv
    split at h
    · rename_i h1 h2 _ _
      subst h1 h2
      rw [eqI_eq] at h
      have h := of_decide_eq_true (Option.some.inj h)
      subst h
      exact ⟨rfl, rfl⟩
    · cases h
  · cases x <;> cases y <;> simp only at h <;> try (cases h; done)
    simp only [VR] at hu hv
    obtain ⟨a, rfl, rfl⟩ := hu
    obtain ⟨b, rfl, rfl⟩ := hv
    rw [strEq_eq, ← ByteArray.toList_eq, ← ByteArray.toList_eq] at h
    have h := bytes_ext (eq_of_beq (Option.some.inj h))
    subst h
    exact ⟨rfl, rfl⟩
theorem flat_sameL : ∀ {ks : List TypeDesc} {a b : List AV} {va vb : List Value}, VRs e w a va → VRs e w b vb → flatEqL ks a b = some true → va = vb ∧ va.all flatV = true
  | [], a, b, va, vb, ha, hb, h => by
    obtain ⟨rfl, rfl, _⟩ := flatEqL_nil h
    simp only [VRs] at ha hb
    subst ha hb
    exact ⟨rfl, rfl⟩
  | k :: ks, a, b, va, vb, ha, hb, h => by
    obtain ⟨x, a', y, b', r1, r2, rfl, rfl, g1, g2, hr⟩ := flatEqL_cons h
    simp only [VRs] at ha hb
    obtain ⟨u, us, rfl, hu, hus⟩ := ha
    obtain ⟨v, vs, rfl, hv, hvs⟩ := hb
    have h12 : r1 = true ∧ r2 = true := by
      cases r1 <;> cases r2 <;> first | exact ⟨rfl, rfl⟩ | cases hr
    obtain ⟨rfl, rfl⟩ := h12
    obtain ⟨rfl, i2⟩ := flat_sameL hus hvs g2
    obtain ⟨rfl, j2⟩ := flat_same hu hv g1
    exact ⟨rfl, by rw [List.all_cons, j2, i2]; rfl⟩
theorem sameBits_flat {v : Value} (n : Nat) (h : flatV v = true) : Instr.sameBits n v v = true := by
  cases v <;> first
    | (cases h; done)
    | (simp [Instr.sameBits]; done)
    | (simp only [Instr.sameBits]
       rw [beq_toListBytes]; simp)
theorem sameBits_agg {va : Array Value} (h : va.toList.all flatV = true) : Instr.sameBits 10000 (.agg va) (.agg va) = true := by
  show (va.size == va.size && (va.toList.zip va.toList).all fun (x, y) => Instr.sameBits 9999 x y) = true
  rw [beq_self_eq_true, Bool.true_and]
  generalize va.toList = l at h
  induction l with
  | nil => rfl
  | cons v l ih =>
    rw [List.all_cons, Bool.and_eq_true] at h
    rw [List.zip_cons_cons, List.all_cons, ih h.2, Bool.and_true]
    exact sameBits_flat _ h.1
theorem keyStays {ks : List TypeDesc} {x y : AV} {u v : Value} (hu : VR e w x u) (hv : VR e w y v) (h : keyEq ks x y = some true) : (Instr.keyThatStays v u).run P w = .ok u w := by
  have hb : v = u ∧ Instr.sameBits 10000 u u = true := by
    by_cases hagg : ∃ a, x = .agg a
    · obtain ⟨a, rfl⟩ := hagg
      obtain ⟨b, rfl, hq⟩ := keyEq_agg h
      simp only [VR] at hu hv
      obtain ⟨va, rfl, hva⟩ := hu
      obtain ⟨vb, rfl, hvb⟩ := hv
      obtain ⟨h1, h2⟩ := flat_sameL hva hvb hq
      have : va = vb := Array.toList_inj.mp h1
      subst this
      exact ⟨rfl, sameBits_agg h2⟩
    · have hq := keyEq_scalar (fun cs hc => hagg ⟨cs, hc⟩) h
      obtain ⟨h1, h2⟩ := flat_sameL (va := [u]) (vb := [v]) (by simp only [VRs]; exact ⟨_, _, rfl, hu, rfl⟩) (by simp only [VRs]; exact ⟨_, _, rfl, hv, rfl⟩) hq
      simp only [List.cons.injEq, and_true] at h1
      subst h1
      simp only [List.all_cons, List.all_nil, Bool.and_true] at h2
      exact ⟨rfl, sameBits_flat _ h2⟩
  obtain ⟨rfl, hb⟩ := hb
  unfold Instr.keyThatStays
  simp only [hb, if_true]
  rfl
theorem find_eq {ks : List TypeDesc} {k : AV} : ∀ (es : List AEntry) (i j : Nat) (a : AEntry), findFrom ks k es i = some (some (j, a)) → i ≤ j ∧ es[j - i]? = some a ∧ keyEq ks k a.key = some true
  | [], i, j, a, h => by cases h
  | b :: es, i, j, a, h => by
    rw [findFrom_cons] at h
    cases he : keyEq ks k b.key with
    | none => rw [he] at h; cases h
    | some q =>
      simp only [he] at h
      cases q
      · obtain ⟨h1, h2, h3⟩ := find_eq es (i + 1) j a h
        refine ⟨by omega, ?_, h3⟩
        rw [show j - i = (j - (i + 1)) + 1 by omega]
        exact h2
      · cases h
        exact ⟨Nat.le_refl _, by rw [Nat.sub_self]; rfl, he⟩

theorem modify_toList (cs : Array MapEntry) (i : Nat) (f : MapEntry → MapEntry) : (cs.modify i f).toList = cs.toList.modify i f := by simp
/-- one entry is laid anew -/
theorem entries_set {es : List AEntry} {cs : Array MapEntry} (h : EntriesOk e w es cs.toList) {i : Nat} {a : AEntry} {f : MapEntry → MapEntry} {e' : Env} {w' : World} (hle : Le e w e' w')
    (hf : ∀ c, cs.toList[i]? = some c → VR e' w' a.key (f c).key ∧ VR e' w' a.val (f c).val ∧ a.born = (f c).born) : EntriesOk e' w' (es.set i a) (cs.modify i f).toList := by
  have h' := h.mono hle
  refine ⟨by simp [h'.1], fun j x c hx hc => ?_⟩
  rw [modify_toList, List.getElem?_modify] at hc
  rw [List.getElem?_set] at hx
  cases hcc : cs.toList[j]? with
  | none => rw [hcc] at hc; cases hc
  | some c0 =>
    rw [hcc] at hc
    by_cases hij : i = j
    · subst hij
      rw [if_pos rfl] at hx
      simp at hc
      subst hc
      split at hx
      · cases hx; exact hf c0 hcc
      · cases hx
    · rw [if_neg hij] at hx
      simp [hij] at hc
      subst hc
      exact h'.2 j x c0 hx hcc
theorem entries_push {es : List AEntry} {cs : Array MapEntry} (h : EntriesOk e w es cs.toList) {a : AEntry} {c : MapEntry} {e' : Env} {w' : World} (hle : Le e w e' w')
    (hf : VR e' w' a.key c.key ∧ VR e' w' a.val c.val ∧ a.born = c.born) : EntriesOk e' w' (es ++ [a]) (cs.push c).toList := by
  have h' := h.mono hle
  refine ⟨by have := h'.1; simp at this ⊢; exact this, fun j x y hx hy => ?_⟩
  rw [Array.toList_push] at hy
  rw [List.getElem?_append] at hx hy
  have hl := h'.1
  rw [hl] at hx
  split at hx
  · rename_i hlt
    rw [if_pos hlt] at hy
    exact h'.2 j x y hx hy
  · rename_i hlt
    rw [if_neg hlt] at hy
    cases hj : j - cs.toList.length with
    | zero => rw [hj] at hx hy; cases hx; cases hy; exact hf
    | succ n => rw [hj] at hx; cases hx
/-- a map's object is laid anew -/
theorem putMap_ok (hI : Inv e H w) {id b n x : Nat} {es' : List AEntry} {cs' : Array MapEntry} {clock' : Nat} (hβ : e.β id 0 = some (b, n, x)) {o : Obj} (hb : w.heap[b]? = some o)
    (hes : EntriesOk e (setBlock w b (.map cs' clock')) es' cs'.toList) : Le e w e (setBlock w b (.map cs' clock')) ∧ Inv e (H.put id (.map es' clock')) (setBlock w b (.map cs' clock')) := by
  have hlt := (hI.own _ _ _ _ _ hβ).1
  exact ⟨set_le hI hβ _, set_inv hI hβ _ _ ⟨b, n, x, cs', hβ, by rw [setBlock_get, if_pos ⟨rfl, hlt⟩], hes⟩⟩
theorem oMapUpdate_ok {t : TypeId} {m k v y : AV} {mv kv vv : Value} (hI : Inv e H w) (hm : VR e w m mv) (hk : VR e w k kv) (hv : VR e w v vv) (h : oMapUpdate P t m k v H = some (y, H')) :
    y = .tup [] ∧ GoesU P e w (Instr.mapUpdate t mv kv vv) H' := by
  unfold oMapUpdate at h
  split at h
  · rename_i kt ks et id hmt
    obtain ⟨hu, hK⟩ := mapTypes_some hmt
    split at h
    · rename_i es clock hko he
      obtain ⟨id', b, n, x, cs, hid, ho, hβ, rfl, hb, hes⟩ := entriesA_ok hI hm he
      cases hid
      obtain ⟨hck, hfind⟩ := key_ok (P := P) hK hk hko false
      split at h
      · rename_i i a hf
        obtain ⟨r', hr', hfo⟩ := hfind es cs _ hes hf
        obtain ⟨c, rfl, h1, h2⟩ := found_some hfo
        obtain ⟨_, h3, h4⟩ := find_eq es 0 i a hf
        have hck2 := hes.2 i a c h1 h2
        have hks := keyStays (P := P) hk hck2.1 h4
        cases h
        refine ⟨rfl, ?_⟩
        have hset := set_le hI hβ (.map (cs.modify i fun e => { e with key := kv, val := vv }) clock)
        obtain ⟨hle, hinv⟩ := putMap_ok (clock' := clock) (es' := es.set i { key := k, val := v, born := a.born }) (cs' := cs.modify i fun e => { e with key := kv, val := vv }) hI hβ hb
          (entries_set hes hset fun c' hc' => by
            rw [h2] at hc'; cases hc'
            exact ⟨VR.mono hset _ _ hk, VR.mono hset _ _ hv, hck2.2.2⟩)
        rw [lset_eq]
        refine ⟨e, _, ?_, hle, hinv⟩
        unfold Instr.mapUpdate
        rw [bind_ok (run_underlying hu)]
        simp only
        rw [bind_ok (run_getObj hb (by simp))]
        simp only
        rw [bind_ok hck, bind_ok hr']
        simp only
        have hci : cs[i]? = some c := by rw [← Array.getElem?_toList]; exact h2
        rw [hci]
        simp only [Option.map_some, Option.getD_some]
        rw [bind_ok hks]
        exact run_setObj hb (by simp)
      · rename_i hf
        obtain ⟨r', hr', hfo⟩ := hfind es cs _ hes hf
        have := found_none hfo
        subst this
        cases h
        refine ⟨rfl, ?_⟩
        have hset := set_le hI hβ (.map (cs.push { key := kv, val := vv, born := clock }) (clock + 1))
        obtain ⟨hle, hinv⟩ := putMap_ok (clock' := clock + 1) (es' := es ++ [{ key := k, val := v, born := clock }]) (cs' := cs.push { key := kv, val := vv, born := clock }) hI hβ hb
          (entries_push hes hset ⟨VR.mono hset _ _ hk, VR.mono hset _ _ hv, rfl⟩)
        rw [lapp_eq]
        refine ⟨e, _, ?_, hle, hinv⟩
        unfold Instr.mapUpdate
        rw [bind_ok (run_underlying hu)]
        simp only
        rw [bind_ok (run_getObj hb (by simp))]
        simp only
        rw [bind_ok hck, bind_ok hr']
        simp only
        exact run_setObj hb (by simp)
      · cases h
    · cases h
  · cases h
theorem oMapEntry_ok {t : TypeId} {m k y : AV} {mv kv : Value} (hI : Inv e H w) (hm : VR e w m mv) (hk : VR e w k kv) (h : oMapEntry P t m k H = some (y, H')) : Goes P e w (Instr.mapEntry t mv kv) y H' := by
  unfold oMapEntry at h
  split at h
  · rename_i kt ks et id hmt
    obtain ⟨hu, hK⟩ := mapTypes_some hmt
    split at h
    · rename_i es clock z hko he hz
      obtain ⟨zv, hzr, rfl, hzn⟩ := run_zeroValue (w := w) hz
      obtain ⟨id', b, n, x, cs, hid, ho, hβ, rfl, hb, hes⟩ := entriesA_ok hI hm he
      cases hid
      obtain ⟨hck, hfind⟩ := key_ok (P := P) hK hk hko false
      split at h
      · rename_i i a hf
        obtain ⟨r', hr', hfo⟩ := hfind es cs _ hes hf
        obtain ⟨c, rfl, h1, h2⟩ := found_some hfo
        obtain ⟨_, h3, h4⟩ := find_eq es 0 i a hf
        have hck2 := hes.2 i a c h1 h2
        have hks := keyStays (P := P) hk hck2.1 h4
        cases h
        have hset := set_le hI hβ (.map (cs.modify i fun e => { e with key := kv }) clock)
        obtain ⟨hle, hinv⟩ := putMap_ok (clock' := clock) (es' := es.set i { key := k, val := a.val, born := a.born }) (cs' := cs.modify i fun e => { e with key := kv }) hI hβ hb
          (entries_set hes hset fun c' hc' => by
            rw [h2] at hc'; cases hc'
            exact ⟨VR.mono hset _ _ hk, VR.mono hset _ _ hck2.2.1, hck2.2.2⟩)
        rw [lset_eq]
        have hci : cs[i]? = some c := by rw [← Array.getElem?_toList]; exact h2
        refine ⟨e, _, .tuple #[c.val, goInt c.born], ?_, hle, hinv, ?_⟩
        · unfold Instr.mapEntry
          rw [bind_ok (run_underlying hu)]
          simp only
          rw [bind_ok (run_getObj hb (by simp))]
          simp only
          rw [bind_ok hck, bind_ok hr']
          simp only
          rw [hci]
          simp only [Option.map_some, Option.getD_some]
          rw [bind_ok hks, bind_ok (run_setObj hb (by simp))]
          rfl
        · simp only [VR, VRs]
          exact ⟨_, rfl, _, _, rfl, VR.mono hset _ _ hck2.2.1, _, _, rfl, by rw [hck2.2.2]; rfl, rfl⟩
      · rename_i hf
        obtain ⟨r', hr', hfo⟩ := hfind es cs _ hes hf
        have := found_none hfo
        subst this
        cases h
        have hset := set_le hI hβ (.map (cs.push { key := kv, val := zv, born := clock }) (clock + 1))
        obtain ⟨hle, hinv⟩ := putMap_ok (clock' := clock + 1) (es' := es ++ [{ key := k, val := cv zv, born := clock }]) (cs' := cs.push { key := kv, val := zv, born := clock }) hI hβ hb
          (entries_push hes hset ⟨VR.mono hset _ _ hk, cv_ok zv, rfl⟩)
        rw [lapp_eq]
        refine ⟨e, _, .tuple #[zv, goInt clock], ?_, hle, hinv, ?_⟩
        · unfold Instr.mapEntry
          rw [bind_ok (run_underlying hu)]
          simp only
          rw [bind_ok (run_getObj hb (by simp))]
          simp only
          rw [bind_ok hck, bind_ok hr']
          simp only
          rw [bind_ok hzr, bind_ok (run_setObj hb (by simp))]
          rfl
        · simp only [VR, VRs]
          exact ⟨_, rfl, _, _, rfl, cv_ok zv, _, _, rfl, rfl, rfl⟩
      · cases h
    · cases h
  · cases h
theorem findBorn_ok {bn : Nat} : ∀ (es : List AEntry) (cs : List MapEntry) (i j : Nat) (a : AEntry), EntriesOk e w es cs → listRec (β := Nat → Option (Nat × AEntry)) (fun _ => none) (fun e _ r i => match Nat.beq e.born bn with
    | true => some (i, e)
    | false => r (Nat.succ i)) es i = some (j, a) → ∃ q c, j = i + q ∧ es[q]? = some a ∧ cs[q]? = some c ∧ cs.findIdx? (fun e => (e.born : Int) == (bn : Int)) = some q
  | [], cs, i, j, a, _, h => by cases h
  | b :: es, cs, i, j, a, hes, h => by
    obtain ⟨c, cs, rfl, h1, h2, h3, h4⟩ := hes.cons
    rw [listRec_cons] at h
    cases hb : Nat.beq b.born bn with
    | true =>
      have hb' := Nat.eq_of_beq_eq_true hb
      simp only [hb] at h
      cases h
      refine ⟨0, c, rfl, rfl, rfl, ?_⟩
      rw [List.findIdx?_cons, ← h3, hb']; simp
    | false =>
      have hb' : b.born ≠ bn := Nat.ne_of_beq_eq_false hb
      simp only [hb] at h
      obtain ⟨q, c', rfl, g1, g2, g3⟩ := findBorn_ok es cs (i + 1) j a h4 h
      refine ⟨q + 1, c', by omega, by simpa using g1, by simpa using g2, ?_⟩
      rw [List.findIdx?_cons, ← h3]
      have : ((b.born : Int) == (bn : Int)) = false := by simp; omega
      rw [this, g3]; rfl
theorem oEntryStore_ok {t : TypeId} {m s v y : AV} {mv sv vv : Value} (hI : Inv e H w) (hm : VR e w m mv) (hs : VR e w s sv) (hv : VR e w v vv) (h : oEntryStore m s v H = some (y, H')) :
    y = .tup [] ∧ GoesU P e w (Instr.entryStore t mv sv vv) H' := by
  unfold oEntryStore at h
  split at h
  · rename_i id kk bn
    split at h
    · rename_i es clock he
      obtain ⟨id', b, n, x, cs, hid, ho, hβ, rfl, hb, hes⟩ := entriesA_ok hI hm he
      cases hid
      split at h
      · rename_i i a hf
        obtain ⟨q, c, hq, h1, h2, h3⟩ := findBorn_ok es cs.toList 0 i a hes hf
        obtain rfl : i = q := by omega
        have hck2 := hes.2 i a c h1 h2
        cases h
        simp only [VR] at hs
        subst hs
        refine ⟨rfl, ?_⟩
        have hset := set_le hI hβ (.map (cs.modify i fun e => { e with val := vv }) clock)
        obtain ⟨hle, hinv⟩ := putMap_ok (clock' := clock) (es' := es.set i { key := a.key, val := v, born := a.born }) (cs' := cs.modify i fun e => { e with val := vv }) hI hβ hb
          (entries_set hes hset fun c' hc' => by
            rw [h2] at hc'; cases hc'
            exact ⟨VR.mono hset _ _ hck2.1, VR.mono hset _ _ hv, hck2.2.2⟩)
        rw [lset_eq]
        refine ⟨e, _, ?_, hle, hinv⟩
        unfold Instr.entryStore
        simp only
        rw [bind_ok (run_getObj hb (by simp))]
        simp only
        rw [bind_ok (asInt_ok _ _)]
        have hfi : cs.findIdx? (fun e => (e.born : Int) == Int.ofNat bn) = some i := by
          have hto : cs.findIdx? (fun e => (e.born : Int) == Int.ofNat bn) = cs.toList.findIdx? (fun e => (e.born : Int) == (bn : Int)) := by cases cs; simp
          rw [hto]; exact h3
        rw [hfi]
        exact run_setObj hb (by simp)
      · cases h
    · cases h
  · cases h
end Go.Proofs.Ytcjfjfhggfcnfaa.Am
