/- A drawn region's run holds in every order. -/
import Derived.Test.YtcjfjfhggfcnfaaAmDrawC
set_option linter.unusedSimpArgs false
set_option linter.unusedVariables false
namespace Go.Proofs.Ytcjfjfhggfcnfaa.Am
open Go
variable {P : Program} {w : World} {e : Env} {H H' : AHeap} {cfg : Cfg} {ih : Code → ATmps → AHeap → CodeR}

noncomputable def dstF (ops : List Oper) (k : Nat) : Option Tmp := (ops[k]?).bind (·.dst)
noncomputable def readsF (ops : List Oper) (k : Nat) : List Tmp := match ops[k]? with
  | some o => readsOf ops o
  | none => []
noncomputable def actF (cfg : Cfg) (ops : List Oper) (k : Nat) : Bool := match ops[k]? with
  | some o => notB (stillOp cfg o.dst o.op)
  | none => false

theorem notB_iff {b : Bool} : notB b = true ↔ b = false := by cases b <;> simp [notB]
theorem notB_iff' {b : Bool} : notB b = false ↔ b = true := by cases b <;> simp [notB]
theorem sched {ops : List Oper} (h : drawOk ops (dops cfg ops) = true) : Sched ops.length (dstF ops) (ancOf ops) (readsF ops) (actF cfg ops) := by
  unfold drawOk at h
  rw [lall_eq, List.all_eq_true] at h
  have hx : ∀ i, (hi : i < ops.length) → ∃ x, x ∈ dops cfg ops ∧ x.i = i ∧ x.o = ops[i] ∧ x.still = stillOp cfg ops[i].dst ops[i].op ∧ x.anc = ancOf ops i := fun i hi => by
    have := dops_get (cfg := cfg) ops i
    rw [List.getElem?_eq_getElem hi] at this
    exact ⟨_, List.mem_of_getElem? this, rfl, rfl, rfl, rfl⟩
  have hpair : ∀ x ∈ dops cfg ops, backwards x = true ∧ ∀ y ∈ dops cfg ops, apartOk ops x y = true ∧ ascends x y = true := fun x hxm => by
    have := h x hxm
    split at this
    · rename_i h1 h2
      refine ⟨h1, fun y hy => ?_⟩
      rw [lall_eq, List.all_eq_true] at h2
      have := h2 y hy
      split at this
      · exact ⟨by assumption, this⟩
      · cases this
    · cases this
  exact {
    back := fun i hi j hj => by
      obtain ⟨x, hm, h1, _, _, h4⟩ := hx i hi
      have := (hpair x hm).1
      unfold backwards at this
      rw [lall_eq, List.all_eq_true] at this
      have := this j (by rw [h4]; exact hj)
      rw [h1] at this
      exact Nat.le_of_ble_eq_true this
    apart := fun i hi k hk d hd hki hor => by
      obtain ⟨x, hm, h1, h2, _, h4⟩ := hx i hi
      obtain ⟨y, hm', g1, g2, _, g4⟩ := hx k hk
      have hap := ((hpair x hm).2 y hm').1
      unfold dstF at hd hor
      rw [List.getElem?_eq_getElem hk] at hd
      rw [List.getElem?_eq_getElem hi] at hor
      simp only [Option.bind_some] at hd hor
      unfold readsF at hor
      rw [List.getElem?_eq_getElem hi] at hor
      simp only at hor
      unfold apartOk at hap
      rw [g2, hd] at hap
      simp only at hap
      rw [h1, g1, h2] at hap
      have hne : Nat.beq i k = false := by
        cases hb : Nat.beq i k with
        | false => rfl
        | true => exact absurd (Nat.eq_of_beq_eq_true hb).symm hki
      have hord : ordered x y = true := by
        split at hap
        · rename_i hbt; rw [hne] at hbt; cases hbt
        · rename_i hb1 hb2 hb3
          exfalso
          rcases hor with hor | hor
          · rw [hasN_mem.mpr hor] at hb2; cases hb2
          · rw [hor] at hb3
            simp only at hb3
            have : Nat.beq d d = true := Nat.beq_refl d
            rw [this] at hb3; cases hb3
        · exact hap
      unfold ordered at hord
      rw [h1, g1, h4, g4] at hord
      split at hord
      · rename_i hh; exact .inl (hasN_mem.mp hh)
      · exact .inr (hasN_mem.mp hord)
    asc := fun i hi k hk ha hak hik => by
      obtain ⟨x, hm, h1, h2, h3, h4⟩ := hx i hi
      obtain ⟨y, hm', g1, g2, g3, g4⟩ := hx k hk
      have has := ((hpair x hm).2 y hm').2
      unfold actF at ha hak
      rw [List.getElem?_eq_getElem hi] at ha
      rw [List.getElem?_eq_getElem hk] at hak
      simp only at ha hak
      unfold ascends at has
      rw [h3, g3, notB_iff.mp ha, notB_iff.mp hak, h1, g1, g4] at has
      have hb : Nat.ble k i = false := by
        cases hb : Nat.ble k i with
        | false => rfl
        | true => have := Nat.le_of_ble_eq_true hb; omega
      rw [hb] at has
      exact hasN_mem.mp has }

theorem count_dops {ops : List Oper} (p : DOp → Bool) (q : Nat → Bool) (hpq : ∀ k o, ops[k]? = some o → p { i := k, o := o, still := stillOp cfg o.dst o.op, anc := ancOf ops k } = q k) (j : Nat) (hj : j ≤ ops.length) : ((dops cfg ops).take j).countP p = lvp q j := by
  rw [countP_take p _ j (by rw [dops_length]; exact hj)]
  refine lvp_congr j fun k hk => ?_
  rw [dops_get, List.getElem?_eq_getElem (show k < ops.length by omega)]
  simp only [Option.map_some]
  exact hpq k _ (List.getElem?_eq_getElem _)
theorem count_all {ops : List Oper} (p : DOp → Bool) (q : Nat → Bool) (hpq : ∀ k o, ops[k]? = some o → p { i := k, o := o, still := stillOp cfg o.dst o.op, anc := ancOf ops k } = q k) : (dops cfg ops).countP p = lvp q ops.length := by
  have := count_dops p q hpq ops.length (Nat.le_refl _)
  have hl := dops_length (cfg := cfg) ops
  rwa [List.take_of_length_le (by omega)] at this

/-! What is looked at, once more. -/
theorem mem_tmpsOf {t : Tmp} : ∀ {xs : List Operand}, Operand.tmp t ∈ xs → t ∈ tmpsOf xs
  | [], h => by cases h
  | x :: xs, h => by
    cases x with
    | tmp u =>
      show t ∈ u :: tmpsOf xs
      cases h with
      | head => exact List.mem_cons_self ..
      | tail _ h => exact List.mem_cons_of_mem _ (mem_tmpsOf h)
    | const v => cases h with | tail _ h => exact mem_tmpsOf (xs := xs) h
    | global v => cases h with | tail _ h => exact mem_tmpsOf (xs := xs) h
    | func v => cases h with | tail _ h => exact mem_tmpsOf (xs := xs) h
theorem reads_operands {ops : List Oper} {o : Oper} {t : Tmp} (h : t ∈ tmpsOf o.op.operands.toList) : t ∈ readsOf ops o := by
  unfold readsOf
  split
  · exact h
  · split
    · exact List.mem_cons_of_mem _ h
    · exact h
theorem operand_congr {ops : List Oper} {o : Oper} {T T' : ATmps} (h : ∀ t ∈ readsOf ops o, ATmps.at T t = ATmps.at T' t) : ∀ x ∈ o.op.operands, operand x T = operand x T' := fun x hx => by
  cases x with
  | tmp t => exact h t (reads_operands (mem_tmpsOf (by simpa using hx)))
  | const v => rfl
  | global g => rfl
  | func f => rfl
theorem guardA_congr {ops : List Oper} {o : Oper} {T T' : ATmps} (h : ∀ t ∈ readsOf ops o, ATmps.at T t = ATmps.at T' t) : guardA ops T o.guard = guardA ops T' o.guard := by
  unfold readsOf at h
  unfold guardA
  cases hg : o.guard with
  | none => rfl
  | some p =>
    obtain ⟨j, want⟩ := p
    simp only
    rw [hg] at h
    simp only at h
    cases hj : lget ops j with
    | none => rfl
    | some o' =>
      obtain ⟨dst, op, type, pos, after, guard⟩ := o'
      cases dst with
      | none => rfl
      | some d =>
        simp only
        rw [hj] at h
        simp only at h
        rw [h d (List.mem_cons_self ..)]

def ST (listed : Array Bool) : Nat → Bool := fun k => listed.getD k false
theorem ST_set {listed : Array Bool} {i : Nat} (hi : i < listed.size) : ST (listed.setIfInBounds i true) = more (ST listed) i := funext fun k => by
  unfold ST more
  rw [Array.getD_eq_getD_getElem?, Array.getElem?_setIfInBounds]
  by_cases h : k = i
  · subst h; simp [hi]
  · rw [if_neg (fun hh => h hh.symm), if_neg h, ← Array.getD_eq_getD_getElem?]
theorem count_set {listed : Array Bool} {i : Nat} (hi : i < listed.size) (h : ST listed i = false) : (listed.setIfInBounds i true).toList.count true = listed.toList.count true + 1 := by
  rw [Array.toList_setIfInBounds, List.count_set (by simpa using hi)]
  unfold ST at h
  rw [Array.getD_eq_getD_getElem?, Array.getElem?_eq_getElem hi] at h
  simp at h
  simp [h]

theorem drawn_ok (hih : IHOk P ih) (hx : ExtOk cfg P) {ops : Array Oper} {n : Nat} (hdst : ∀ (k : Nat) (o : Oper) (d : Tmp), ops[k]? = some o → o.dst = some d → d < n) {T : ATmps} {r : AExit × ATmps × AHeap}
    (hdraw : drawOk ops.toList (dops cfg ops.toList) = true) (h : evDraw cfg P ih ops.toList (dops cfg ops.toList) (dops cfg ops.toList) [] [] T H = some r)
    {a : Act} (hI : Inv e H w) (hT : TR e w T a.tmps) (hn : a.tmps.size = n) {D : List Deferred} (hd : a.defers = D) {Q : Exit → Act → World → Prop} (hQ : ∀ ex a' w', Post e w n D r ex a' w' → Q ex a' w') :
    wpAny P .any ops Q ops.size (Array.replicate ops.size false) a w := by
  have hs := sched hdraw
  have hN : ops.toList.length = ops.size := by simp
  rw [hN] at hs
  have hstill : ∀ x ∈ dops cfg ops.toList, x.still = stillOp cfg x.o.dst x.o.op := fun x hm => by
    obtain ⟨i, hi⟩ := List.getElem?_of_mem hm
    rw [dops_get] at hi
    cases ho : ops.toList[i]? with
    | none => rw [ho] at hi; cases hi
    | some o => rw [ho] at hi; cases hi; rfl
  obtain ⟨Hs, Ts, vs, gs, _, k2, k3, _⟩ := told _ hstill [] [] T H r h (fun a hm => by cases hm)
  simp only [List.length_nil] at k2 k3
  have hget : ∀ i o, ops[i]? = some o → (dops cfg ops.toList)[i]? = some (DOp.mk i o (stillOp cfg o.dst o.op) (ancOf ops.toList i)) := fun i o ho => by
    rw [dops_get, Array.getElem?_toList, ho]; rfl
  have hdF : ∀ i o, ops[i]? = some o → dstF ops.toList i = o.dst := fun i o ho => by unfold dstF; rw [Array.getElem?_toList, ho]; rfl
  have hrF : ∀ i o, ops[i]? = some o → readsF ops.toList i = readsOf ops.toList o := fun i o ho => by unfold readsF; rw [Array.getElem?_toList, ho]
  have haF : ∀ i o, ops[i]? = some o → actF cfg ops.toList i = notB (stillOp cfg o.dst o.op) := fun i o ho => by unfold actF; rw [Array.getElem?_toList, ho]
  have hlt : ∀ i o, ops[i]? = some o → i < ops.size := fun i o ho => by
    by_cases hi : i < ops.size
    · exact hi
    · rw [Array.getElem?_eq_none (by omega)] at ho; cases ho
  have hTs : ∀ j, j ≤ ops.size → Ts j = tsT (dstF ops.toList) vs (fun _ => true) T j := fun j => by
    induction j with
    | zero => intro _; exact k3.t0
    | succ j ihj =>
      intro hj
      have hoj : ops[j]? = some ops[j] := Array.getElem?_eq_getElem (by omega)
      rw [k3.put j _ (hget j _ hoj), ihj (by omega)]
      simp only [tsT, if_true]
      rw [hdF j _ hoj]
  have hlv : ∀ j, j ≤ ops.size → ((dops cfg ops.toList).take j).countP nst = lvp (actF cfg ops.toList) j := fun j hj =>
    count_dops nst (actF cfg ops.toList) (fun k o ho => by rw [Array.getElem?_toList] at ho; rw [haF k o ho]; rfl) j (by rw [hN]; exact hj)
  have htop : (dops cfg ops.toList).countP nst = lvp (actF cfg ops.toList) ops.size := by
    rw [← hN]
    exact count_all nst (actF cfg ops.toList) (fun k o ho => by rw [Array.getElem?_toList] at ho; rw [haF k o ho]; rfl)
  -- every operation done
  have finish : ∀ (listed : Array Bool) a1 w1 e1, listed.size = ops.size → (∀ i, i < ops.size → ST listed i = true) → Le e w e1 w1 →
      Inv e1 (Hs (lvp (fun k => ST listed k && actF cfg ops.toList k) ops.size)) w1 → TR e1 w1 (tsT (dstF ops.toList) vs (ST listed) T ops.size) a1.tmps → a1.tmps.size = n → a1.defers = D → Q .normal a1 w1 :=
    fun listed a1 w1 e1 hsz hall hle hinv htr hsz1 hd1 => by
      refine hQ _ _ _ ⟨e1, hle, ?_, ?_, hsz1, hd1, ?_⟩
      · have := k3.hn
        rw [Nat.zero_add, htop] at this
        rw [← this]
        rwa [lvp_congr (q := actF cfg ops.toList) ops.size fun k hk => by simp [hall k hk]] at hinv
      · have := k3.tn
        rw [dops_length, hN, hTs _ (Nat.le_refl _)] at this
        rw [← this]
        rwa [tsT_congr (S' := fun _ => true) _ _ T ops.size hall] at htr
      · rw [k3.norm]; trivial
  have main : ∀ fuel (listed : Array Bool) a1 w1 e1, listed.size = ops.size → fuel + listed.toList.count true = ops.size → Down ops.size (ancOf ops.toList) (ST listed) → Le e w e1 w1 →
      Inv e1 (Hs (lvp (fun k => ST listed k && actF cfg ops.toList k) ops.size)) w1 → TR e1 w1 (tsT (dstF ops.toList) vs (ST listed) T ops.size) a1.tmps → a1.tmps.size = n → a1.defers = D → wpAny P .any ops Q fuel listed a1 w1 := by
    intro fuel
    induction fuel with
    | zero =>
      intro listed a1 w1 e1 hsz hcnt hdn hle hinv htr hsz1 hd1
      have hall : ∀ i, i < ops.size → ST listed i = true := fun i hi => by
        have := List.count_eq_length.mp (show listed.toList.count true = listed.toList.length by simp only [Array.length_toList]; omega) (listed[i]'(by omega)) (by simp)
        unfold ST
        rw [Array.getD_eq_getD_getElem?, Array.getElem?_eq_getElem (by omega)]; simpa using this.symm
      refine ⟨List.eq_nil_iff_forall_not_mem.mpr fun i hi => ?_, finish listed a1 w1 e1 hsz hall hle hinv htr hsz1 hd1⟩
      obtain ⟨h1, o, ho, _⟩ := mem_ready.mp hi
      have hi := hlt i o ho
      have := hall i hi
      unfold ST at this
      rw [Array.getD_eq_getD_getElem?, Array.getElem?_eq_getElem (by omega)] at this h1
      simp at this h1
      rw [this] at h1; cases h1
    | succ fuel ihf =>
      intro listed a1 w1 e1 hsz hcnt hdn hle hinv htr hsz1 hd1
      have hanc : ∀ i o, ops[i]? = some o → ∀ j, j ∈ ancOf ops.toList i ↔ j ∈ binding o ∨ ∃ b ∈ binding o, b < i ∧ j ∈ ancOf ops.toList b := fun i o ho j => by
        obtain ⟨A, hA, hj⟩ := (aheads_get ops.toList).2 i o (by rw [Array.getElem?_toList]; exact ho)
        have : ancOf ops.toList i = A := by unfold ancOf; rw [hA]; rfl
        rw [this, hj]
        constructor
        · rintro (h | ⟨b, hb, hbi, B, hB, h⟩)
          · exact .inl h
          · exact .inr ⟨b, hb, hbi, by unfold ancOf; rw [hB]; exact h⟩
        · rintro (h | ⟨b, hb, hbi, h⟩)
          · exact .inl h
          · refine .inr ⟨b, hb, hbi, ?_⟩
            unfold ancOf at h
            cases hB : (aheads ops.toList)[b]? with
            | none => rw [hB] at h; simp at h
            | some B => rw [hB] at h; exact ⟨B, rfl, h⟩
      refine ⟨fun hnil => ?_, fun i hi => ?_⟩
      · refine finish listed a1 w1 e1 hsz (fun i => ?_) hle hinv htr hsz1 hd1
        induction i using Nat.strongRecOn with
        | ind i ihi =>
          intro hi
          cases hS : ST listed i with
          | true => rfl
          | false =>
            exfalso
            have hoi : ops[i]? = some ops[i] := Array.getElem?_eq_getElem hi
            have hmem : i ∈ Region.ready .any ops listed := mem_ready.mpr ⟨by
              unfold ST at hS
              rw [Array.getD_eq_getD_getElem?, Array.getElem?_eq_getElem (by omega)] at hS ⊢
              simpa using hS, _, hoi, fun ed hed hb => by
                have hm : ed.on ∈ ancOf ops.toList i := (hanc i _ hoi _).mpr (.inl (mem_binding.mpr ⟨ed, hed, hb, rfl⟩))
                have hlt' := hs.back i hi _ hm
                exact ihi _ hlt' (by omega)⟩
            rw [hnil] at hmem; cases hmem
      · obtain ⟨hun, o, ho, hall⟩ := mem_ready.mp hi
        have hiN := hlt i o ho
        have hb : ∀ b ∈ binding o, ST listed b = true := fun b hb => by
          obtain ⟨ed, h1, h2, rfl⟩ := mem_binding.mp hb
          exact hall ed h1 h2
        have hbN : ∀ b ∈ binding o, b < ops.size := fun b hb' => by
          have := hs.back i hiN b ((hanc i o ho b).mpr (.inl hb')); omega
        have hrd : Ready ops.size (ancOf ops.toList) (ST listed) i := {
          lt := hiN
          un := by
            unfold ST
            rw [Array.getD_eq_getD_getElem?, Array.getElem?_eq_getElem (by omega)] at hun ⊢
            simpa using hun
          up := fun j hj => by
            rcases (hanc i o ho j).mp hj with h | ⟨b, h1, h2, h3⟩
            · exact hb j h
            · exact hdn b (hbN b h1) (hb b h1) j h3 }
        have hreads : ∀ t ∈ readsOf ops.toList o, ATmps.at (tsT (dstF ops.toList) vs (ST listed) T ops.size) t = ATmps.at (Ts i) t := fun t ht => by
          rw [hTs i (by omega)]
          exact read_eq hs hdn hrd vs T (by rw [hrF i o ho]; exact ht) ops.size (by omega) (Nat.le_refl _)
        have hg : guardA ops.toList (tsT (dstF ops.toList) vs (ST listed) T ops.size) o.guard = some (gs i) := by
          rw [guardA_congr hreads]; exact k3.guard i _ (hget i o ho)
        have hw := guard_ok htr (fun j o' d hj hd' => by rw [hsz1]; exact hdst j o' d hj hd') hg
        -- the rest, after this one
        have next : ∀ v e2 w2, Le e1 w1 e2 w2 → Inv e2 (Hs (lvp (fun k => more (ST listed) i k && actF cfg ops.toList k) ops.size)) w2 → VR e2 w2 (vs i) v →
            wpAny P .any ops Q fuel (listed.setIfInBounds i true) (a1.put o.dst v) w2 := fun v e2 w2 h1 h2 h3 => by
          have hST := ST_set (listed := listed) (i := i) (by omega)
          refine ihf _ _ _ e2 (by simpa using hsz) ?_ ?_ (hle.trans h1) ?_ ?_ (by rw [put_size]; exact hsz1) (by rw [put_defers']; exact hd1)
          · rw [count_set (by omega) hrd.un]; omega
          · rw [hST]; exact down_more hs hdn hrd
          · rw [hST]; exact h2
          · rw [hST]
            intro t
            rw [put_eq hs hdn hrd vs T t, hdF i o ho]
            exact put_TR (htr.mono h1) (fun k hk => by rw [hsz1]; exact hdst i o k ho hk) h3 t
        unfold wpOp
        simp only [ho]
        rw [hw]
        cases hgs : gs i with
        | false =>
          simp only [Bool.false_eq_true, if_false]
          refine next undef e1 w1 (Le.refl e1 w1) ?_ (by rw [k3.no i _ (hget i o ho) hgs]; exact undef_ok)
          cases hst : stillOp cfg o.dst o.op with
          | true => rw [lev_more_still hs hdn hrd (by rw [haF i o ho, hst]; rfl)]; exact hinv
          | false =>
            have hact : actF cfg ops.toList i = true := by rw [haF i o ho, hst]; rfl
            rw [lev_more_act hs hdn hrd hact]
            have hk := k3.rest i _ (hget i o ho) hst hgs
            rw [Nat.zero_add, hlv i (by omega), ← lev_act hs hdn hrd hact] at hk
            rw [hk]; exact hinv
        | true =>
          simp only [if_true]
          refine .inl ?_
          have fire : ∀ imm H2, anyOp cfg imm P ih o.op (Ts i) (Hs (lvp (fun k => ST listed k && actF cfg ops.toList k) ops.size)) = some (.ret (vs i), H2) →
              H2 = Hs (lvp (fun k => more (ST listed) i k && actF cfg ops.toList k) ops.size) → o.wp P a1 w1 (wpAny P .any ops Q fuel (listed.setIfInBounds i true)) Q := fun imm H2 hop hH2 => by
            rw [← anyOp_congr o.op (operand_congr hreads)] at hop
            refine (anyOp_ok hih hx hinv htr hop).wp (fun x v e2 w2 hx' h1 h2 h3 => ?_) (fun x v e2 w2 hx' => by cases hx')
            cases hx'
            exact next v e2 w2 h1 (hH2 ▸ h2) h3
          cases hst : stillOp cfg o.dst o.op with
          | true =>
            have hact : actF cfg ops.toList i = false := by rw [haF i o ho, hst]; rfl
            obtain ⟨H2, hop⟩ := k3.still i _ (hget i o ho) hst hgs (lvp (fun k => ST listed k && actF cfg ops.toList k) ops.size) (by
              refine Nat.le_trans ?_ (lev_lo hs hdn hrd)
              unfold loLevel
              rw [countIf_eq, count_all _ (fun k => actF cfg ops.toList k && hasN k (ancOf ops.toList i)) (fun k o' ho' => by
                rw [Array.getElem?_toList] at ho'
                rw [haF k o' ho']
                simp only
                cases stillOp cfg o'.dst o'.op <;> simp [notB]), hN]
              exact Nat.le_refl _) (by
              refine Nat.le_trans (lev_hi hs hdn hrd) ?_
              unfold hiLevel
              rw [countIf_eq, count_all _ (fun k => actF cfg ops.toList k && notB (hasN i (ancOf ops.toList k))) (fun k o' ho' => by
                rw [Array.getElem?_toList] at ho'
                rw [haF k o' ho']
                simp only
                cases stillOp cfg o'.dst o'.op <;> simp [notB]), hN]
              exact Nat.le_refl _) (by rw [Nat.zero_add, htop]; exact level_top _ _ _)
            refine fire true H2 hop ?_
            rw [lev_more_still hs hdn hrd hact]
            exact still_same hst hop
          | false =>
            have hact : actF cfg ops.toList i = true := by rw [haF i o ho, hst]; rfl
            have hop := k3.act i _ (hget i o ho) hst hgs
            rw [Nat.zero_add, hlv i (by omega), ← lev_act hs hdn hrd hact] at hop
            refine fire false _ hop ?_
            rw [lev_more_act hs hdn hrd hact]
  refine main ops.size _ a w e (by simp) (by simp [List.count_replicate]) (fun i hi hS => ?_) (Le.refl e w) ?_ ?_ hn hd
  · unfold ST at hS
    rw [Array.getD_eq_getD_getElem?, Array.getElem?_replicate, if_pos hi] at hS; simp at hS
  · have hz : ∀ k, k < ops.size → ST (Array.replicate ops.size false) k = false := fun k hk => by
      unfold ST; rw [Array.getD_eq_getD_getElem?, Array.getElem?_replicate, if_pos hk]; rfl
    have : ∀ m, m ≤ ops.size → lvp (fun k => ST (Array.replicate ops.size false) k && actF cfg ops.toList k) m = 0 := fun m => by
      induction m with
      | zero => intro _; rfl
      | succ m ihm => intro hm; simp [lvp, hz m (by omega), ihm (by omega)]
    rw [this _ (Nat.le_refl _), k2]; exact hI
  · have hz : ∀ k, k < ops.size → ST (Array.replicate ops.size false) k = false := fun k hk => by
      unfold ST; rw [Array.getD_eq_getD_getElem?, Array.getElem?_replicate, if_pos hk]; rfl
    have : ∀ m, m ≤ ops.size → tsT (dstF ops.toList) vs (ST (Array.replicate ops.size false)) T m = T := fun m => by
      induction m with
      | zero => intro _; rfl
      | succ m ihm => intro hm; simp [tsT, hz m (by omega), ihm (by omega)]
    rw [this _ (Nat.le_refl _)]; exact hT
end Go.Proofs.Ytcjfjfhggfcnfaa.Am
