/- A logic over the abstract machine: what a run comes to, told ahead as a proposition over the code. -/
import Derived.Test.YtcjfjfhggfcnfaaAmSound
set_option linter.unusedSimpArgs false
set_option linter.unusedVariables false
namespace Go.Proofs.Ytcjfjfhggfcnfaa.Am
open Go

abbrev WPost := AExit → ATmps → AHeap → Prop

/-- whatever the fuel, from some on: a call answers so -/
def CallsTo (cfg : Cfg) (P : Program) (f : Nat) (args : List AV) (H : AHeap) (Q : AOut → AHeap → Prop) : Prop :=
  ∃ n out H', (∀ m, n ≤ m → callF cfg P (ev cfg P m) f args H = some (out, H')) ∧ Q out H'
def Enters (cfg : Cfg) (P : Program) (f : Nat) (args : List AV) (H : AHeap) (Q : AOut → AHeap → Prop) : Prop :=
  ∃ n out H', (∀ m, n ≤ m → enterF P (ev cfg P m) f args H = some (out, H')) ∧ Q out H'
def oq (r : Res) (R : AV → AHeap → Prop) : Prop := match r with
  | some (v, H) => R v H
  | none => False
def retq (R E : AV → AHeap → Prop) : AOut → AHeap → Prop
  | .ret v, H => R v H
  | .pan v, H => E v H
def wCall (cfg : Cfg) (P : Program) (c : Call) (T : ATmps) (H : AHeap) (R E : AV → AHeap → Prop) : Prop :=
  match c.callee with
  | .builtin .panic => match argsA T c.args with
    | .iface t v :: _ => E (.iface t v) H
    | _ => False
  | .builtin b => oq (builtinA P H b c.argTypes.toList (argsA T c.args)) R
  | .value f => match operand f T with
    | .fn f first captured => CallsTo cfg P f (first ++ (argsA T c.args ++ captured)) H (retq R E)
    | _ => False
  | _ => False
def wOp (cfg : Cfg) (P : Program) (imm : Bool) (o : Op) (T : ATmps) (H : AHeap) (R E : AV → AHeap → Prop) : Prop :=
  match o with
  | .call c => wCall cfg P c T H R E
  | .panic x => match operand x T with
    | .iface t v => E (.iface t v) H
    | _ => False
  | op => oq (opA imm op P T H) R
/-- a guard's word, out of where it stands -/
def gq (g : Option Bool) (yes no : Prop) : Prop := match g with
  | some true => yes
  | some false => no
  | none => False
def wOps (cfg : Cfg) (P : Program) (imm : Bool) (ops : List Oper) : List Oper → WPost → ATmps → AHeap → Prop
  | [], Q, T, H => Q .normal T H
  | o :: l, Q, T, H => gq (guardA ops T o.guard)
      (wOp cfg P imm o.op T H (fun v H' => wOps cfg P imm ops l Q (putA T o.dst v) H') (fun v H' => Q (.pan v) T H'))
      (wOps cfg P imm ops l Q (putA T o.dst (.tup [])) H)

/-- the answer of an operation that is asked again, elsewhere -/
def Same (cfg : Cfg) (P : Program) (op : Op) (T : ATmps) (v : AV) (H : AHeap) : Prop :=
  wOp cfg P true op T H (fun w _ => avEq 24 v w = true) (fun _ _ => False)
structure AgainW where
  op : Op
  T : ATmps
  v : AV
  hi : Nat
def sames (cfg : Cfg) (P : Program) (op : Op) (T : ATmps) (v : AV) : List AHeap → Prop
  | [] => True
  | H :: l => Same cfg P op T v H ∧ sames cfg P op T v l
def agains (cfg : Cfg) (P : Program) (n : Nat) (H : AHeap) : List AgainW → Prop
  | [] => True
  | a :: l => (n < a.hi → Same cfg P a.op a.T a.v H) ∧ agains cfg P n H l
/-- a region whose order is drawn: of each operation whether it is still, and between which levels it may come -/
def wDraw (cfg : Cfg) (P : Program) (ops : List Oper) : List (Oper × Bool × Nat × Nat) → List AHeap → List AgainW → WPost → ATmps → AHeap → Prop
  | [], _, _, Q, T, H => Q .normal T H
  | (o, still, lo, hi) :: l, past, again, Q, T, H => gq (guardA ops T o.guard)
      (wOp cfg P still o.op T H (fun v H' => match still with
        | true => sames cfg P o.op T v (past.take (past.length - lo)) ∧ wDraw cfg P ops l past (if hi ≤ past.length then again else { op := o.op, T := T, v := v, hi := hi } :: again) Q (putA T o.dst v) H
        | false => agains cfg P past.length H' again ∧ wDraw cfg P ops l (H :: past) again Q (putA T o.dst v) H') (fun _ _ => False))
      (wDraw cfg P ops l (match still with
        | true => past
        | false => H :: past) again Q (putA T o.dst (.tup [])) H)
noncomputable def drawDat (cfg : Cfg) (ops : List Oper) : List (Bool × Nat × Nat) :=
  (dops cfg ops).map fun x => (x.still, loLevel (dops cfg ops) x, hiLevel (dops cfg ops) x)

/-- what holds ahead of each round; n: at most so many more come -/
def againW (I : Nat → ATmps → AHeap → Prop) (n : Nat) (Q : WPost) : WPost := fun ex T H => match ex with
  | .normal => ∃ m, m < n ∧ I m T H
  | ex => Q ex T H
def loopW (body : WPost → ATmps → AHeap → Prop) (Q : WPost) (T : ATmps) (H : AHeap) : Prop :=
  ∃ (I : Nat → ATmps → AHeap → Prop) (n : Nat), I n T H ∧ ∀ n T H, I n T H → body (againW I n Q) T H
def wC (cfg : Cfg) (P : Program) : Code → WPost → ATmps → AHeap → Prop
  | .skip, Q, T, H => Q .normal T H
  | .region _ ops draw, Q, T, H => match draw with
    | false => wOps cfg P false ops.toList ops.toList Q T H
    | true => drawOk ops.toList (dops cfg ops.toList) = true ∧ wDraw cfg P ops.toList (ops.toList.zip (drawDat cfg ops.toList)) [] [] Q T H
  | .seq a b, Q, T, H => wC cfg P a (fun ex T H => match ex with
    | .normal => wC cfg P b Q T H
    | ex => Q ex T H) T H
  | .cond c a b, Q, T, H => match operand c T with
    | .bool t => (t = true → wC cfg P a Q T H) ∧ (t = false → wC cfg P b Q T H)
    | _ => False
  | .block id c, Q, T, H => wC cfg P c (fun ex T H => match ex with
    | .exit i => if i = id then Q .normal T H else Q (.exit i) T H
    | ex => Q ex T H) T H
  | .loop c, Q, T, H => loopW (wC cfg P c) Q T H
  | .scope c, Q, T, H => wC cfg P c Q T H
  | .label _, Q, T, H => Q .normal T H
  | .exit id, Q, T, H => Q (.exit id) T H
  | .ret, Q, T, H => Q .ret T H
  | _, _, _, _ => False

def Comes (cfg : Cfg) (P : Program) (run : (Code → ATmps → AHeap → CodeR) → CodeR) (Q : WPost) : Prop :=
  ∃ n r, (∀ m, n ≤ m → run (ev cfg P m) = some r) ∧ Q r.1 r.2.1 r.2.2
def ComesV (cfg : Cfg) (P : Program) (run : (Code → ATmps → AHeap → CodeR) → CallR) (R E : AV → AHeap → Prop) : Prop :=
  ∃ n out H', (∀ m, n ≤ m → run (ev cfg P m) = some (out, H')) ∧ retq R E out H'
variable {cfg : Cfg} {P : Program}

theorem oq_some {r : Res} {R : AV → AHeap → Prop} (h : oq r R) : ∃ v H, r = some (v, H) ∧ R v H := by
  unfold oq at h
  split at h
  · exact ⟨_, _, rfl, h⟩
  · exact h.elim
theorem wCall_ok {c : Call} {T : ATmps} {H : AHeap} {R E : AV → AHeap → Prop} (h : wCall cfg P c T H R E) : ComesV cfg P (fun ih => callA cfg P ih c T H) R E := by
  unfold wCall at h
  unfold ComesV callA
  cases hc : c.callee with
  | builtin b =>
    simp only [hc] at h
    by_cases hb : b = .panic
    · subst hb
      simp only at h
      split at h
      · rename_i t v l he
        exact ⟨0, .pan (.iface t v), H, fun m _ => by simp only [he], h⟩
      · exact h.elim
    · have : oq (builtinA P H b c.argTypes.toList (argsA T c.args)) R := by
        cases b <;> first | exact absurd rfl hb | exact h
      obtain ⟨v, H', h1, h2⟩ := oq_some this
      refine ⟨0, .ret v, H', fun m _ => ?_, h2⟩
      cases b <;> first | exact absurd rfl hb | (simp only [h1])
  | value f =>
    simp only [hc] at h
    split at h
    · rename_i f first captured he
      obtain ⟨n, out, H', h1, h2⟩ := h
      refine ⟨n, out, H', fun m hm => ?_, h2⟩
      simp only [he]
      rw [lapp_eq, lapp_eq]; exact h1 m hm
    · exact h.elim
  | invoke _ _ => simp only [hc] at h
theorem wOp_ok {imm : Bool} {o : Op} {T : ATmps} {H : AHeap} {R E : AV → AHeap → Prop} (h : wOp cfg P imm o T H R E) : ComesV cfg P (fun ih => anyOp cfg imm P ih o T H) R E := by
  have gen : oq (opA imm o P T H) R → (∀ ih, anyOp cfg imm P ih o T H = match opA imm o P T H with
    | some (v, H) => some (.ret v, H)
    | none => none) → ComesV cfg P (fun ih => anyOp cfg imm P ih o T H) R E := fun h hq => by
    obtain ⟨v, H', h1, h2⟩ := oq_some h
    exact ⟨0, .ret v, H', fun m _ => by show anyOp cfg imm P (ev cfg P m) o T H = _; rw [hq, h1], h2⟩
  cases o
  case call c => exact wCall_ok h
  case panic x =>
    simp only [wOp] at h
    split at h
    · rename_i t v he
      exact ⟨0, .pan (.iface t v), H, fun m _ => by simp only [anyOp, he], h⟩
    · exact h.elim
  all_goals exact gen h (fun _ => rfl)
theorem ComesV.mono {run : (Code → ATmps → AHeap → CodeR) → CallR} {R E R' E' : AV → AHeap → Prop} (h : ComesV cfg P run R E) (hr : ∀ v H, R v H → R' v H) (he : ∀ v H, E v H → E' v H) : ComesV cfg P run R' E' := by
  obtain ⟨n, out, H', h1, h2⟩ := h
  refine ⟨n, out, H', h1, ?_⟩
  cases out with
  | ret v => exact hr _ _ h2
  | pan v => exact he _ _ h2
theorem wOps_ok {imm : Bool} {ops : List Oper} : ∀ {l : List Oper} {Q : WPost} {T : ATmps} {H : AHeap}, wOps cfg P imm ops l Q T H → Comes cfg P (fun ih => evOps cfg imm P ih ops l T H) Q
  | [], Q, T, H, h => ⟨0, (.normal, T, H), fun _ _ => rfl, h⟩
  | o :: l, Q, T, H, h => by
    unfold wOps gq at h
    split at h
    · rename_i hg
      obtain ⟨n, out, H', h1, h2⟩ := wOp_ok h
      cases out with
      | pan v => exact ⟨n, (.pan v, T, H'), fun m hm => by have := h1 m hm; simp only at this ⊢; rw [evOps_cons, hg]; simp only [this], h2⟩
      | ret v =>
        obtain ⟨n2, r, g1, g2⟩ := wOps_ok h2
        exact ⟨max n n2, r, fun m hm => by have := h1 m (by omega); have k := g1 m (by omega); simp only at this k ⊢; rw [evOps_cons, hg]; simp only [this, k], g2⟩
    · rename_i hg
      obtain ⟨n2, r, g1, g2⟩ := wOps_ok h
      exact ⟨n2, r, fun m hm => by have k := g1 m hm; simp only at k ⊢; rw [evOps_cons, hg]; simp only [k], g2⟩
    · exact h.elim
theorem Same_ok {op : Op} {T : ATmps} {v : AV} {H : AHeap} (h : Same cfg P op T v H) : ∃ n, ∀ m, n ≤ m → sameAt cfg P (ev cfg P m) op T v H = true := by
  obtain ⟨n, out, H', h1, h2⟩ := wOp_ok h
  cases out with
  | pan v => exact h2.elim
  | ret w =>
    refine ⟨n, fun m hm => ?_⟩
    have := h1 m hm
    simp only at this
    unfold sameAt
    rw [this]
    exact h2
theorem sames_ok {op : Op} {T : ATmps} {v : AV} : ∀ {l : List AHeap}, sames cfg P op T v l → ∃ n, ∀ m, n ≤ m → lall (sameAt cfg P (ev cfg P m) op T v) l = true
  | [], _ => ⟨0, fun _ _ => rfl⟩
  | H :: l, h => by
    obtain ⟨n1, g1⟩ := Same_ok h.1
    obtain ⟨n2, g2⟩ := sames_ok h.2
    refine ⟨max n1 n2, fun m hm => ?_⟩
    have a := g1 m (by omega)
    have b := g2 m (by omega)
    rw [lall_eq] at b ⊢
    simp [a, b]
def AgainW.up (a : AgainW) : Again := ⟨a.op, a.T, a.v, a.hi⟩
theorem agains_ok {k : Nat} {H : AHeap} : ∀ {l : List AgainW}, agains cfg P k H l → ∃ n, ∀ m, n ≤ m → lall (fun (a : Again) => match Nat.ble a.hi k with
            | true => true
            | false => sameAt cfg P (ev cfg P m) a.op a.T a.v H) (l.map AgainW.up) = true
  | [], _ => ⟨0, fun _ _ => rfl⟩
  | a :: l, h => by
    obtain ⟨n2, g2⟩ := agains_ok h.2
    by_cases hh : k < a.hi
    · obtain ⟨n1, g1⟩ := Same_ok (h.1 hh)
      refine ⟨max n1 n2, fun m hm => ?_⟩
      have x := g1 m (by omega)
      have y := g2 m (by omega)
      rw [lall_eq] at y ⊢
      rw [List.map_cons, List.all_cons, y, Bool.and_true]
      have : Nat.ble a.up.hi k = false := by
        rw [nble]
        exact decide_eq_false (by show ¬ a.hi ≤ k; omega)
      rw [this]; exact x
    · refine ⟨n2, fun m hm => ?_⟩
      have y := g2 m (by omega)
      rw [lall_eq] at y ⊢
      rw [List.map_cons, List.all_cons, y, Bool.and_true]
      have : Nat.ble a.up.hi k = true := by
        rw [nble]
        exact decide_eq_true (by show a.hi ≤ k; omega)
      rw [this]
theorem wDraw_ok {ops : List Oper} {ds : List DOp} : ∀ {l : List DOp} {past : List AHeap} {again : List AgainW} {Q : WPost} {T : ATmps} {H : AHeap},
    wDraw cfg P ops (l.map fun x => (x.o, x.still, loLevel ds x, hiLevel ds x)) past again Q T H → Comes cfg P (fun ih => evDraw cfg P ih ops ds l past (again.map AgainW.up) T H) Q
  | [], past, again, Q, T, H, h => ⟨0, (.normal, T, H), fun _ _ => rfl, h⟩
  | x :: l, past, again, Q, T, H, h => by
    rw [List.map_cons] at h
    unfold wDraw gq at h
    split at h
    · rename_i hg
      obtain ⟨n, out, H', h1, h2⟩ := wOp_ok h
      cases out with
      | pan v => exact h2.elim
      | ret v =>
        simp only [retq] at h2
        cases hs : x.still with
        | true =>
          simp only [hs] at h2 h1
          obtain ⟨h2, h3⟩ := h2
          obtain ⟨n3, g3⟩ := sames_ok h2
          by_cases hh : hiLevel ds x ≤ past.length
          · rw [if_pos hh] at h3
            obtain ⟨n2, r, g1, g2⟩ := wDraw_ok h3
            refine ⟨max n (max n2 n3), r, fun m hm => ?_, g2⟩
            have a := h1 m (by omega); have k := g1 m (by omega); have b := g3 m (by omega)
            simp only at a k ⊢
            rw [evDraw_cons, hg]
            have e : ltake (Nat.sub (llen past) (loLevel ds x)) past = past.take (past.length - loLevel ds x) := by rw [ltake_eq, llen_eq]; rfl
            have e2 : Nat.ble (hiLevel ds x) (llen past) = true := by rw [nble, llen_eq]; simpa using hh
            simp only [hs, a, e, b, e2, k]
          · rw [if_neg hh] at h3
            obtain ⟨n2, r, g1, g2⟩ := wDraw_ok h3
            refine ⟨max n (max n2 n3), r, fun m hm => ?_, g2⟩
            have a := h1 m (by omega); have k := g1 m (by omega); have b := g3 m (by omega)
            simp only [List.map_cons] at a k ⊢
            rw [evDraw_cons, hg]
            have e : ltake (Nat.sub (llen past) (loLevel ds x)) past = past.take (past.length - loLevel ds x) := by rw [ltake_eq, llen_eq]; rfl
            have e2 : Nat.ble (hiLevel ds x) (llen past) = false := by rw [nble, llen_eq]; simpa using hh
            simp only [hs, a, e, b, e2]
            exact k
        | false =>
          simp only [hs] at h2 h1
          obtain ⟨h2, h3⟩ := h2
          obtain ⟨n3, g3⟩ := agains_ok h2
          obtain ⟨n2, r, g1, g2⟩ := wDraw_ok h3
          refine ⟨max n (max n2 n3), r, fun m hm => ?_, g2⟩
          have a := h1 m (by omega); have k := g1 m (by omega); have b := g3 m (by omega)
          rw [← llen_eq past] at b
          simp only at a k ⊢
          rw [evDraw_cons, hg]
          simp only [hs, a]
          split
          · exact k
          · rename_i hf
            exact absurd (hf.symm.trans b) (by decide)
    · rename_i hg
      obtain ⟨n2, r, g1, g2⟩ := wDraw_ok h
      refine ⟨n2, r, fun m hm => ?_, g2⟩
      have k := g1 m hm
      simp only at k ⊢
      rw [evDraw_cons, hg]
      cases hs : x.still <;> simp only [hs] at k ⊢ <;> exact k
    · exact h.elim

theorem dops_go_o (cfg : Cfg) : ∀ (l : List Oper) (i : Nat) (A : List (List Nat)), (listRec (β := Nat → List (List Nat) → List DOp) (fun _ _ => []) (fun (o : Oper) _ r i A => { i := i, o := o, still := stillOp cfg o.dst o.op, anc := Option.casesOn (lget A 0) [] (fun x => x) } :: r (Nat.succ i) (ldrop 1 A)) l i A).map (·.o) = l
  | [], _, _ => rfl
  | o :: l, i, A => by
    rw [listRec_cons, List.map_cons, dops_go_o cfg l]
theorem dops_o (cfg : Cfg) (l : List Oper) : (dops cfg l).map (·.o) = l := dops_go_o cfg l 0 _
theorem drawZip (cfg : Cfg) (l : List Oper) : l.zip (drawDat cfg l) = (dops cfg l).map fun x => (x.o, x.still, loLevel (dops cfg l) x, hiLevel (dops cfg l) x) := by
  unfold drawDat
  generalize hd : (fun x : DOp => (x.still, loLevel (dops cfg l) x, hiLevel (dops cfg l) x)) = F
  have : ∀ (m : List DOp), (m.map (·.o)).zip (m.map F) = m.map fun x => (x.o, F x) := fun m => by
    induction m with
    | nil => rfl
    | cons a m ih => simp [ih]
  have h := this (dops cfg l)
  rw [dops_o] at h
  rw [h]
  subst hd
  rfl

theorem wC_ok : ∀ (c : Code) {Q : WPost} {T : ATmps} {H : AHeap}, wC cfg P c Q T H → Comes cfg P (fun ih => ih c T H) Q := by
  have up : ∀ {c : Code} {T : ATmps} {H : AHeap} {Q : WPost}, Comes cfg P (fun ih => evCode cfg P ih c T H) Q → Comes cfg P (fun ih => ih c T H) Q := fun ⟨n, r, h1, h2⟩ =>
    ⟨n + 1, r, fun m hm => by
      obtain ⟨k, rfl⟩ : ∃ k, m = k + 1 := ⟨m - 1, by omega⟩
      exact h1 k (by omega), h2⟩
  intro c
  induction c with
  | skip => exact fun h => up ⟨0, _, fun _ _ => rfl, h⟩
  | region id ops draw =>
    intro Q T H h
    cases draw with
    | false => exact up (wOps_ok h)
    | true =>
      obtain ⟨h1, h2⟩ := h
      rw [drawZip] at h2
      obtain ⟨n, r, g1, g2⟩ := wDraw_ok (again := []) h2
      refine up ⟨n, r, fun m hm => ?_, g2⟩
      have := g1 m hm
      simp only [evCode, evRegion, h1]
      exact this
  | seq a b iha ihb =>
    intro Q T H h
    obtain ⟨n, r, g1, g2⟩ := iha h
    obtain ⟨ex, T1, H1⟩ := r
    simp only at g2
    by_cases hx : ex = .normal
    · subst hx
      obtain ⟨n2, r2, k1, k2⟩ := ihb g2
      refine up ⟨max n n2, r2, fun m hm => ?_, k2⟩
      have a := g1 m (by omega); have b := k1 m (by omega)
      simp only at a b
      simp only [evCode, evSeq, a, b]
    · have g3 : Q ex T1 H1 := by cases ex <;> first | exact absurd rfl hx | exact g2
      refine up ⟨n, (ex, T1, H1), fun m hm => ?_, g3⟩
      have a := g1 m hm
      simp only at a
      simp only [evCode, a]
      unfold evSeq
      cases ex <;> first | exact absurd rfl hx | rfl
  | cond c x y ihx ihy =>
    intro Q T H h
    unfold wC at h
    split at h
    · rename_i t ho
      cases t with
      | true =>
        obtain ⟨n, r, g1, g2⟩ := ihx (h.1 rfl)
        exact up ⟨n, r, fun m hm => by have a := g1 m hm; simp only [evCode, ho]; exact a, g2⟩
      | false =>
        obtain ⟨n, r, g1, g2⟩ := ihy (h.2 rfl)
        exact up ⟨n, r, fun m hm => by have a := g1 m hm; simp only [evCode, ho]; exact a, g2⟩
    · exact h.elim
  | block id c ih =>
    intro Q T H h
    obtain ⟨n, r, g1, g2⟩ := ih h
    obtain ⟨ex, T1, H1⟩ := r
    simp only at g2
    cases ex with
    | exit i =>
      simp only at g2
      by_cases hi : i = id
      · subst hi
        rw [if_pos rfl] at g2
        refine up ⟨n, (.normal, T1, H1), fun m hm => ?_, g2⟩
        have a := g1 m hm
        simp only at a
        have hb : Nat.beq i i = true := Nat.beq_refl i
        simp only [evCode, a, hb]
      · rw [if_neg hi] at g2
        refine up ⟨n, (.exit i, T1, H1), fun m hm => ?_, g2⟩
        have a := g1 m hm
        simp only at a
        have hb : Nat.beq i id = false := by rw [nbeq]; simp [hi]
        simp only [evCode, a, hb]
    | normal => exact up ⟨n, (.normal, T1, H1), fun m hm => by have a := g1 m hm; simp only at a; simp only [evCode, a], g2⟩
    | ret => exact up ⟨n, (.ret, T1, H1), fun m hm => by have a := g1 m hm; simp only at a; simp only [evCode, a], g2⟩
    | pan v => exact up ⟨n, (.pan v, T1, H1), fun m hm => by have a := g1 m hm; simp only at a; simp only [evCode, a], g2⟩
  | loop c ih =>
    intro Q T H h
    obtain ⟨I, k, h0, h⟩ := h
    have : ∀ (k j : Nat) (T : ATmps) (H : AHeap), j < k → I j T H → Comes cfg P (fun ih => ih (.loop c) T H) Q := by
      intro k
      induction k with
      | zero => exact fun _ _ _ hj _ => absurd hj (Nat.not_lt_zero _)
      | succ k ihk =>
        intro j T H hj hI
        obtain ⟨n, r, g1, g2⟩ := ih (h j T H hI)
        obtain ⟨ex, T1, H1⟩ := r
        simp only at g2
        by_cases hx : ex = .normal
        · subst hx
          obtain ⟨j2, hj2, hI2⟩ := g2
          obtain ⟨n2, r2, k1, k2⟩ := ihk j2 T1 H1 (by omega) hI2
          refine up ⟨max n n2, r2, fun m hm => ?_, k2⟩
          have a := g1 m (by omega); have b := k1 m (by omega)
          simp only at a b
          simp only [evCode, evSeq, a, b]
        · have g3 : Q ex T1 H1 := by cases ex <;> first | exact absurd rfl hx | exact g2
          refine up ⟨n, (ex, T1, H1), fun m hm => ?_, g3⟩
          have a := g1 m hm
          simp only at a
          simp only [evCode, a]
          unfold evSeq
          cases ex <;> first | exact absurd rfl hx | rfl
    exact this (k + 1) k T H (Nat.lt_succ_self k) h0
  | scope c ih =>
    intro Q T H h
    obtain ⟨n, r, g1, g2⟩ := ih h
    exact up ⟨n, r, fun m hm => g1 m hm, g2⟩
  | label l => exact fun h => up ⟨0, _, fun _ _ => rfl, h⟩
  | exit id => exact fun h => up ⟨0, _, fun _ _ => rfl, h⟩
  | ret => exact fun h => up ⟨0, _, fun _ _ => rfl, h⟩
  | _ => exact fun h => h.elim
end Go.Proofs.Ytcjfjfhggfcnfaa.Am
