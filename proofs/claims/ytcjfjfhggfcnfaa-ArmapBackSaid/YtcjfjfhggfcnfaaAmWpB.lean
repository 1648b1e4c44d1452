/- The logic's rules as equations, for rewriting. -/
import Derived.Test.YtcjfjfhggfcnfaaAmWp
import Derived.KernelRfl
set_option linter.unusedSimpArgs false
set_option linter.unusedVariables false
namespace Go.Proofs.Ytcjfjfhggfcnfaa.Am
open Go
variable {cfg : Cfg} {P : Program}

/-! Code. -/
def seqW (cfg : Cfg) (P : Program) (b : Code) (Q : WPost) : WPost := fun ex T H => match ex with
  | .normal => wC cfg P b Q T H
  | ex => Q ex T H
def blkW (id : Nat) (Q : WPost) : WPost := fun ex T H => match ex with
  | .exit i => if i = id then Q .normal T H else Q (.exit i) T H
  | ex => Q ex T H
theorem seqW_normal {b : Code} {Q : WPost} {T : ATmps} {H : AHeap} : seqW cfg P b Q .normal T H = wC cfg P b Q T H := rfl
theorem seqW_exit {b : Code} {Q : WPost} {T : ATmps} {H : AHeap} (i : Nat) : seqW cfg P b Q (.exit i) T H = Q (.exit i) T H := rfl
theorem seqW_ret {b : Code} {Q : WPost} {T : ATmps} {H : AHeap} : seqW cfg P b Q .ret T H = Q .ret T H := rfl
theorem seqW_pan {b : Code} {Q : WPost} {T : ATmps} {H : AHeap} (v : AV) : seqW cfg P b Q (.pan v) T H = Q (.pan v) T H := rfl
theorem blkW_normal {id : Nat} {Q : WPost} {T : ATmps} {H : AHeap} : blkW id Q .normal T H = Q .normal T H := rfl
theorem blkW_exit {id : Nat} {Q : WPost} {T : ATmps} {H : AHeap} (i : Nat) : blkW id Q (.exit i) T H = if i = id then Q .normal T H else Q (.exit i) T H := rfl
theorem blkW_ret {id : Nat} {Q : WPost} {T : ATmps} {H : AHeap} : blkW id Q .ret T H = Q .ret T H := rfl
theorem blkW_pan {id : Nat} {Q : WPost} {T : ATmps} {H : AHeap} (v : AV) : blkW id Q (.pan v) T H = Q (.pan v) T H := rfl
theorem wC_skip {Q : WPost} {T : ATmps} {H : AHeap} : wC cfg P .skip Q T H = Q .normal T H := rfl
theorem wC_seq {a b : Code} {Q : WPost} {T : ATmps} {H : AHeap} : wC cfg P (.seq a b) Q T H = wC cfg P a (seqW cfg P b Q) T H := rfl
theorem wC_block {id : Nat} {c : Code} {Q : WPost} {T : ATmps} {H : AHeap} : wC cfg P (.block id c) Q T H = wC cfg P c (blkW id Q) T H := rfl
theorem wC_region {id : Nat} {ops : List Oper} {Q : WPost} {T : ATmps} {H : AHeap} : wC cfg P (.region id (List.toArray ops) false) Q T H = wOps cfg P false ops ops Q T H := rfl
theorem wC_draw {id : Nat} {ops : List Oper} {Q : WPost} {T : ATmps} {H : AHeap} (dat : List (Bool × Nat × Nat)) (h : drawOk ops (dops cfg ops) = true) (hd : drawDat cfg ops = dat)
    (h2 : wDraw cfg P ops (ops.zip dat) [] [] Q T H) : wC cfg P (.region id (List.toArray ops) true) Q T H := by
  subst hd; exact ⟨h, h2⟩
theorem wC_exit {id : Nat} {Q : WPost} {T : ATmps} {H : AHeap} : wC cfg P (.exit id) Q T H = Q (.exit id) T H := rfl
theorem wC_ret {Q : WPost} {T : ATmps} {H : AHeap} : wC cfg P .ret Q T H = Q .ret T H := rfl
theorem wC_scope {c : Code} {Q : WPost} {T : ATmps} {H : AHeap} : wC cfg P (.scope c) Q T H = wC cfg P c Q T H := rfl
theorem wC_label {l : Nat} {Q : WPost} {T : ATmps} {H : AHeap} : wC cfg P (.label l) Q T H = Q .normal T H := rfl
theorem wC_cond {t : Nat} {a b : Code} {Q : WPost} {T : ATmps} {H : AHeap} {v : Bool} (h : ATmps.at T t = .bool v) : wC cfg P (.cond (.tmp t) a b) Q T H = ((v = true → wC cfg P a Q T H) ∧ (v = false → wC cfg P b Q T H)) := by
  simp only [wC, operand, h]
/-- what holds where a truth is, as a proposition -/
def condW (cfg : Cfg) (P : Program) (v : AV) (a b : Code) (Q : WPost) (T : ATmps) (H : AHeap) : Prop := match v with
  | .bool t => (t = true → wC cfg P a Q T H) ∧ (t = false → wC cfg P b Q T H)
  | _ => False
theorem wC_cond' {t : Operand} {a b : Code} {Q : WPost} {T : ATmps} {H : AHeap} : wC cfg P (.cond t a b) Q T H = condW cfg P (operand t T) a b Q T H := rfl
theorem condW_bool {v : Bool} {a b : Code} {Q : WPost} {T : ATmps} {H : AHeap} : condW cfg P (.bool v) a b Q T H = ((v = true → wC cfg P a Q T H) ∧ (v = false → wC cfg P b Q T H)) := rfl

/-! Operations. -/
theorem wOps_nil {imm : Bool} {ops : List Oper} {Q : WPost} {T : ATmps} {H : AHeap} : wOps cfg P imm ops [] Q T H = Q .normal T H := rfl
theorem wOps_cons {imm : Bool} {ops : List Oper} {op : Op} {l : List Oper} {d : Option Nat} {ty : TypeId} {af : Array Edge} {pos : String} {Q : WPost} {T : ATmps} {H : AHeap} : wOps cfg P imm ops ({ op := op, dst := d, type := ty, guard := none, after := af, pos := pos } :: l) Q T H =
    wOp cfg P imm op T H (fun v H' => wOps cfg P imm ops l Q (putA T d v) H') (fun v H' => Q (.pan v) T H') := rfl
theorem wOps_consg {imm : Bool} {ops : List Oper} {op : Op} {l : List Oper} {d : Option Nat} {ty : TypeId} {j : Nat} {w : Bool} {af : Array Edge} {pos : String} {Q : WPost} {T : ATmps} {H : AHeap} : wOps cfg P imm ops ({ op := op, dst := d, type := ty, guard := some (j, w), after := af, pos := pos } :: l) Q T H =
    gq (guardA ops T (some (j, w))) (wOp cfg P imm op T H (fun v H' => wOps cfg P imm ops l Q (putA T d v) H') (fun v H' => Q (.pan v) T H')) (wOps cfg P imm ops l Q (putA T d (.tup [])) H) := rfl
theorem gq_true {a b : Prop} : gq (some true) a b = a := rfl
theorem gq_false {a b : Prop} : gq (some false) a b = b := rfl
def gv (v : AV) (want : Bool) : Option Bool := match v with
  | .bool b => some (match b, want with
    | true, true => true
    | false, false => true
    | _, _ => false)
  | .opq => none
  | _ => some false
theorem guardA_at {ops : List Oper} {T : ATmps} {j d : Nat} {w : Bool} {o : Oper} (h : lget ops j = some o) (hd : o.dst = some d) : guardA ops T (some (j, w)) = gv (ATmps.at T d) w := by
  simp only [guardA, h, hd]
  rfl
theorem gv_true {b : Bool} : gv (.bool b) true = some b := by cases b <;> rfl
theorem gv_false {b : Bool} : gv (.bool b) false = some (!b) := by cases b <;> rfl
theorem gv_tup {l : List AV} {w : Bool} : gv (.tup l) w = some false := rfl
theorem gq_some {c : Bool} {a b : Prop} : gq (some c) a b = ((c = true → a) ∧ (c = false → b)) := by
  cases c <;> simp [gq]
theorem oq_of {v : AV} {H : AHeap} {R : AV → AHeap → Prop} : oq (some (v, H)) R = R v H := rfl
theorem oq_pure {v : AV} {H : AHeap} {R : AV → AHeap → Prop} : oq (pureO (some v) H) R = R v H := rfl
theorem oq_none {R : AV → AHeap → Prop} : oq none R = False := rfl
theorem oq_pureN {H : AHeap} {R : AV → AHeap → Prop} : oq (pureO none H) R = False := rfl
theorem oq_ite {c : Prop} [Decidable c] {a : Res} {R : AV → AHeap → Prop} : oq (if c then a else none) R = (c ∧ oq a R) := by
  split <;> simp [*, oq]
theorem oq_pite {c : Prop} [Decidable c] {a : Option AV} {H : AHeap} {R : AV → AHeap → Prop} : oq (pureO (if c then a else none) H) R = (c ∧ oq (pureO a H) R) := by
  split <;> simp [*, oq, pureO]
theorem putA_some {T : ATmps} {d : Nat} {v : AV} : putA T (some d) v = Tr.set T v d := rfl
theorem putA_none {T : ATmps} {v : AV} : putA T none v = T := rfl
theorem operand_tmp {T : ATmps} {t : Nat} : operand (.tmp t) T = ATmps.at T t := rfl
theorem operand_const {T : ATmps} {v : Value} : operand (.const v) T = cv v := rfl
theorem operand_func {T : ATmps} {f : Nat} : operand (.func f) T = .fn f [] [] := rfl
theorem operand_global {T : ATmps} {f : Nat} : operand (.global f) T = .gptr f 0 := rfl
theorem wOp_move {T : ATmps} {H : AHeap} {R E : AV → AHeap → Prop} {imm : Bool} (x : Operand) : wOp cfg P imm (.move x) T H R E = R (operand x T) H := rfl
theorem wOp_assign {T : ATmps} {H : AHeap} {R E : AV → AHeap → Prop} {imm : Bool} (x : Operand) : wOp cfg P imm (.assign x) T H R E = R (operand x T) H := rfl
theorem wOp_pick {T : ATmps} {H : AHeap} {R E : AV → AHeap → Prop} {imm : Bool} (c a b : Operand) : wOp cfg P imm (.pick c a b) T H R E = oq (oPick (operand c T) (operand a T) (operand b T) H) R := rfl
theorem wOp_alloc {T : ATmps} {H : AHeap} {R E : AV → AHeap → Prop} {imm : Bool} (t : TypeId) : wOp cfg P imm (.alloc t) T H R E = oq (oAlloc P t H) R := rfl
theorem wOp_box {T : ATmps} {H : AHeap} {R E : AV → AHeap → Prop} {imm : Bool} (t : TypeId) (x : Operand) : wOp cfg P imm (.box t x) T H R E = oq (oBox (operand x T) H) R := rfl
theorem wOp_build {T : ATmps} {H : AHeap} {R E : AV → AHeap → Prop} {imm : Bool} (t : TypeId) (ps : Array (Nat × Operand)) : wOp cfg P imm (.build t ps) T H R E = oq (pureO (buildA P t (partsA T ps)) H) R := rfl
theorem wOp_buildSlice {T : ATmps} {H : AHeap} {R E : AV → AHeap → Prop} {imm : Bool} (t n : Nat) (ps : Array (Nat × Operand)) : wOp cfg P imm (.buildSlice t n ps) T H R E = oq (oBuildSlice P t n (partsA T ps) imm H) R := rfl
theorem wOp_insert {T : ATmps} {H : AHeap} {R E : AV → AHeap → Prop} {imm : Bool} (t : TypeId) (m k v : Operand) : wOp cfg P imm (.insert t m k v) T H R E = oq (oMapUpdate P t (operand m T) (operand k T) (operand v T) H) R := rfl
theorem wOp_load {T : ATmps} {H : AHeap} {R E : AV → AHeap → Prop} {imm : Bool} (t : TypeId) (a : Operand) : wOp cfg P imm (.load t a) T H R E = oq (oLoad P t (operand a T) H) R := rfl
theorem wOp_store {T : ATmps} {H : AHeap} {R E : AV → AHeap → Prop} {imm : Bool} (t : TypeId) (a v : Operand) : wOp cfg P imm (.store t a v) T H R E = oq (oStore P t (operand a T) (operand v T) H) R := rfl
theorem wOp_nilCheck {T : ATmps} {H : AHeap} {R E : AV → AHeap → Prop} {imm : Bool} (x : Operand) : wOp cfg P imm (.nilCheck x) T H R E = oq (oNilCheck (operand x T) H) R := rfl
theorem wOp_binOp {T : ATmps} {H : AHeap} {R E : AV → AHeap → Prop} {imm : Bool} (op : BinOp) (t : TypeId) (x y : Operand) (u : TypeId) : wOp cfg P imm (.binOp op t x y u) T H R E = oq (pureO (binA P op t x y (operand x T) (operand y T)) H) R := rfl
theorem wOp_unOp {T : ATmps} {H : AHeap} {R E : AV → AHeap → Prop} {imm : Bool} (op : UnOp) (t : TypeId) (x : Operand) : wOp cfg P imm (.unOp op t x) T H R E = oq (pureO (unA op (operand x T)) H) R := rfl
theorem wOp_convert {T : ATmps} {H : AHeap} {R E : AV → AHeap → Prop} {imm : Bool} (s d : TypeId) (x : Operand) : wOp cfg P imm (.convert s d x) T H R E = oq (convA imm P s d (operand x T) H) R := rfl
theorem wOp_makeInterface {T : ATmps} {H : AHeap} {R E : AV → AHeap → Prop} {imm : Bool} (t : TypeId) (x : Operand) : wOp cfg P imm (.makeInterface t x) T H R E = oq (pureO (makeIfaceA P t (operand x T)) H) R := rfl
theorem wOp_makeFunc {T : ATmps} {H : AHeap} {R E : AV → AHeap → Prop} {imm : Bool} (f : Fn) (a b : Array Operand) : wOp cfg P imm (.makeFunc f a b) T H R E = oq (pureO (makeFuncA f (argsA T a) (argsA T b)) H) R := rfl
theorem wOp_makeMap {T : ATmps} {H : AHeap} {R E : AV → AHeap → Prop} {imm : Bool} (t : TypeId) (r : Option Operand) : wOp cfg P imm (.makeMap t r) T H R E = oq (oMakeMap P t (opts T r) H) R := rfl
theorem wOp_makeSlice {T : ATmps} {H : AHeap} {R E : AV → AHeap → Prop} {imm : Bool} (t : TypeId) (l c : Operand) : wOp cfg P imm (.makeSlice t l c) T H R E = oq (oMakeSlice P t (operand l T) (operand c T) H) R := rfl
theorem wOp_slice {T : ATmps} {H : AHeap} {R E : AV → AHeap → Prop} {imm : Bool} (t : TypeId) (x : Operand) (l h m : Option Operand) : wOp cfg P imm (.slice t x l h m) T H R E = oq (pureO (sliceA P t (operand x T) (opts T l) (opts T h) (opts T m)) H) R := rfl
theorem wOp_fieldAddr {T : ATmps} {H : AHeap} {R E : AV → AHeap → Prop} {imm : Bool} (s : TypeId) (x : Operand) (f : Nat) : wOp cfg P imm (.fieldAddr s x f) T H R E = oq (pureO (fieldAddrA P s (operand x T) f) H) R := rfl
theorem wOp_field {T : ATmps} {H : AHeap} {R E : AV → AHeap → Prop} {imm : Bool} (t : TypeId) (x : Operand) (f : Nat) : wOp cfg P imm (.field t x f) T H R E = oq (pureO (fieldA P t (operand x T) f) H) R := rfl
theorem wOp_indexAddr {T : ATmps} {H : AHeap} {R E : AV → AHeap → Prop} {imm : Bool} (t : TypeId) (x i : Operand) : wOp cfg P imm (.indexAddr t x i) T H R E = oq (pureO (indexAddrA P t (operand x T) (operand i T)) H) R := rfl
theorem wOp_index {T : ATmps} {H : AHeap} {R E : AV → AHeap → Prop} {imm : Bool} (t : TypeId) (x i : Operand) : wOp cfg P imm (.index t x i) T H R E = oq (pureO (indexA P t (operand x T) (operand i T)) H) R := rfl
theorem wOp_lookup {T : ATmps} {H : AHeap} {R E : AV → AHeap → Prop} {imm : Bool} (t : TypeId) (m k : Operand) (ok : Bool) : wOp cfg P imm (.lookup t m k ok) T H R E = oq (oLookup P t (operand m T) (operand k T) ok H) R := rfl
theorem wOp_mapUpdate {T : ATmps} {H : AHeap} {R E : AV → AHeap → Prop} {imm : Bool} (t : TypeId) (m k v : Operand) : wOp cfg P imm (.mapUpdate t m k v) T H R E = oq (oMapUpdate P t (operand m T) (operand k T) (operand v T) H) R := rfl
theorem wOp_mapEntry {T : ATmps} {H : AHeap} {R E : AV → AHeap → Prop} {imm : Bool} (t : TypeId) (m k : Operand) : wOp cfg P imm (.mapEntry t m k) T H R E = oq (oMapEntry P t (operand m T) (operand k T) H) R := rfl
theorem wOp_entryStore {T : ATmps} {H : AHeap} {R E : AV → AHeap → Prop} {imm : Bool} (t : TypeId) (m s v : Operand) : wOp cfg P imm (.entryStore t m s v) T H R E = oq (oEntryStore (operand m T) (operand s T) (operand v T) H) R := rfl
theorem wOp_extract {T : ATmps} {H : AHeap} {R E : AV → AHeap → Prop} {imm : Bool} (x : Operand) (i : Nat) : wOp cfg P imm (.extract x i) T H R E = oq (pureO (extractA i (operand x T)) H) R := rfl
theorem wOp_range {T : ATmps} {H : AHeap} {R E : AV → AHeap → Prop} {imm : Bool} (t : TypeId) (x : Operand) : wOp cfg P imm (.range t x) T H R E = oq (oRange P t (operand x T) H) R := rfl
theorem wOp_next {T : ATmps} {H : AHeap} {R E : AV → AHeap → Prop} {imm : Bool} (it : Operand) (s : Bool) : wOp cfg P imm (.next it s) T H R E = oq (oNext (operand it T) s H) R := rfl
theorem wOp_len {T : ATmps} {H : AHeap} {R E : AV → AHeap → Prop} {imm : Bool} {args : Array Operand} {ts : Array TypeId} : wOp cfg P imm (.call { callee := .builtin .len, args := args, argTypes := ts }) T H R E = oq (pureO (lenA P H ts.toList (argsA T args)) H) R := rfl
theorem wOp_append {T : ATmps} {H : AHeap} {R E : AV → AHeap → Prop} {imm : Bool} {args : Array Operand} {ts : Array TypeId} : wOp cfg P imm (.call { callee := .builtin .append, args := args, argTypes := ts }) T H R E = oq (appendA P H ts.toList (argsA T args)) R := rfl
theorem wOp_copy {T : ATmps} {H : AHeap} {R E : AV → AHeap → Prop} {imm : Bool} {args : Array Operand} {ts : Array TypeId} : wOp cfg P imm (.call { callee := .builtin .copy, args := args, argTypes := ts }) T H R E = oq (copyA P H ts.toList (argsA T args)) R := rfl
theorem wOp_max {T : ATmps} {H : AHeap} {R E : AV → AHeap → Prop} {imm : Bool} {args : Array Operand} {ts : Array TypeId} : wOp cfg P imm (.call { callee := .builtin .max, args := args, argTypes := ts }) T H R E = oq (pureO (mmA true (argsA T args)) H) R := rfl
theorem wOp_min {T : ATmps} {H : AHeap} {R E : AV → AHeap → Prop} {imm : Bool} {args : Array Operand} {ts : Array TypeId} : wOp cfg P imm (.call { callee := .builtin .min, args := args, argTypes := ts }) T H R E = oq (pureO (mmA false (argsA T args)) H) R := rfl
theorem wOp_callF {T : ATmps} {H : AHeap} {R E : AV → AHeap → Prop} {imm : Bool} {f : Nat} {args : Array Operand} {ts : Array TypeId} : wOp cfg P imm (.call { callee := .value (.func f), args := args, argTypes := ts }) T H R E = CallsTo cfg P f (argsA T args) H (retq R E) := by
  simp only [wOp, wCall, operand, List.nil_append, List.append_nil]
def dynCall (cfg : Cfg) (P : Program) (v : AV) (args : List AV) (H : AHeap) (R E : AV → AHeap → Prop) : Prop := match v with
  | .fn f first captured => CallsTo cfg P f (first ++ (args ++ captured)) H (retq R E)
  | _ => False
theorem wOp_callT {T : ATmps} {H : AHeap} {R E : AV → AHeap → Prop} {imm : Bool} {t : Nat} {args : Array Operand} {ts : Array TypeId} : wOp cfg P imm (.call { callee := .value (.tmp t), args := args, argTypes := ts }) T H R E = dynCall cfg P (ATmps.at T t) (argsA T args) H R E := rfl
theorem argsA_eq {T : ATmps} {l : List Operand} : argsA T (List.toArray l) = l.map fun x => operand x T := by simp [argsA]
theorem partsA_eq {T : ATmps} {l : List (Nat × Operand)} : partsA T (List.toArray l) = l.map fun p => (p.1, operand p.2 T) := by simp [partsA]
theorem at_same {T : ATmps} {v : AV} {i : Nat} : ATmps.at (Tr.set T v i) i = v := by rw [ATmps.at_set, if_pos rfl]
theorem at_other {T : ATmps} {v : AV} {i j : Nat} (h : (j == i) = false) : ATmps.at (Tr.set T v i) j = ATmps.at T j := by rw [ATmps.at_set, if_neg (by simpa using h)]

/-! Numbers. -/
theorem arith_add {k : IntKind} {x y : Int} : arith .add k x y = some (.int k (k.wrap (x + y))) := by simp only [arith, wrapF_eq, addI_eq]
theorem arith_sub {k : IntKind} {x y : Int} : arith .sub k x y = some (.int k (k.wrap (x - y))) := by simp only [arith, wrapF_eq, addI_eq, negI_eq, Int.sub_eq_add_neg]
theorem arith_mul {k : IntKind} {x y : Int} : arith .mul k x y = some (.int k (k.wrap (x * y))) := by simp only [arith, wrapF_eq, mulI_eq]
theorem arith_quo {k : IntKind} {x y : Int} : arith .quo k x y = if y ≠ 0 then some (.int k (k.wrap (x.tdiv y))) else none := by
  simp only [arith, wrapF_eq, tdivI_eq, isZero_eq]
  by_cases h : y = 0 <;> simp [h]
theorem arith_rem {k : IntKind} {x y : Int} : arith .rem k x y = if y ≠ 0 then some (.int k (x.tmod y)) else none := by
  simp only [arith, tmodI_eq, isZero_eq]
  by_cases h : y = 0 <;> simp [h]
theorem arith_eql {k : IntKind} {x y : Int} : arith .eql k x y = some (.bool (decide (x = y))) := by simp only [arith, eqI_eq]
theorem arith_neq {k : IntKind} {x y : Int} : arith .neq k x y = some (.bool (decide (x ≠ y))) := by simp only [arith, eqI_eq, notB_eq, decide_not]
theorem arith_lss {k : IntKind} {x y : Int} : arith .lss k x y = some (.bool (decide (x < y))) := by simp only [arith, ltI_eq]
theorem arith_leq {k : IntKind} {x y : Int} : arith .leq k x y = some (.bool (decide (x ≤ y))) := by
  simp only [arith, ltI_eq, notB_eq]
  congr 2
  by_cases h : y < x
  · simp [h]
  · simp [h]; omega
theorem arith_gtr {k : IntKind} {x y : Int} : arith .gtr k x y = some (.bool (decide (y < x))) := by simp only [arith, ltI_eq]
theorem arith_geq {k : IntKind} {x y : Int} : arith .geq k x y = some (.bool (decide (y ≤ x))) := by
  simp only [arith, ltI_eq, notB_eq]
  congr 2
  by_cases h : x < y
  · simp [h]
  · simp [h]; omega
theorem binA_int {op : BinOp} {t : TypeId} {x y : Operand} {k : IntKind} {m n : Int} (h : (match op with | .shl => true | .shr => true | _ => false) = false) : binA P op t x y (.int k m) (.int k n) = arith op k m n := by
  unfold binA
  cases op <;> (try (cases h; done)) <;> cases k <;> rfl
theorem binA_shl {t : TypeId} {x y : Operand} {k k' : IntKind} {m n : Int} : binA P .shl t x y (.int k m) (.int k' n) = shlF k m n := rfl
theorem binA_shr {t : TypeId} {x y : Operand} {k k' : IntKind} {m n : Int} : binA P .shr t x y (.int k m) (.int k' n) = shrF k m n := rfl
theorem binA_str {op : BinOp} {t : TypeId} {x y : Operand} {a b : List Nat} (h : (match op with | .shl => true | .shr => true | _ => false) = false) : binA P op t x y (.str a) (.str b) = strOp op a b := by
  unfold binA
  cases op <;> (try (cases h; done)) <;> rfl
theorem wrap_i64 {n : Int} (h1 : -9223372036854775808 ≤ n) (h2 : n ≤ 9223372036854775807) : IntKind.wrap .i64 n = n := wrap_signed .i64 n rfl (by show -(18446744073709551616 : Int) ≤ _; omega) (by show _ < (18446744073709551616 : Int); omega)
theorem wrap_i32 {n : Int} (h1 : -2147483648 ≤ n) (h2 : n ≤ 2147483647) : IntKind.wrap .i32 n = n := wrap_signed .i32 n rfl (by show -(4294967296 : Int) ≤ _; omega) (by show _ < (4294967296 : Int); omega)
theorem wrap_u64 {n : Int} (h1 : 0 ≤ n) (h2 : n ≤ 18446744073709551615) : IntKind.wrap .u64 n = n := wrap_unsigned .u64 n rfl h1 (by show _ < (18446744073709551616 : Int); omega)
theorem wrap_u32 {n : Int} (h1 : 0 ≤ n) (h2 : n ≤ 4294967295) : IntKind.wrap .u32 n = n := wrap_unsigned .u32 n rfl h1 (by show _ < (4294967296 : Int); omega)
theorem wrap_u16 {n : Int} (h1 : 0 ≤ n) (h2 : n ≤ 65535) : IntKind.wrap .u16 n = n := wrap_unsigned .u16 n rfl h1 (by show _ < (65536 : Int); omega)
theorem wrap_u8 {n : Int} (h1 : 0 ≤ n) (h2 : n ≤ 255) : IntKind.wrap .u8 n = n := wrap_unsigned .u8 n rfl h1 (by show _ < (256 : Int); omega)
theorem natOf_cast {k : IntKind} {n : Nat} : natOfA (.int k (n : Int)) = some n := rfl
theorem natOf_lit {k : IntKind} {n : Nat} : natOfA (.int k (OfNat.ofNat n : Int)) = some n := rfl
theorem natOf_pos {k : IntKind} {x : Int} (h : 0 ≤ x) : natOfA (.int k x) = some x.toNat := by
  obtain ⟨n, rfl⟩ := Int.eq_ofNat_of_zero_le h
  rfl
end Go.Proofs.Ytcjfjfhggfcnfaa.Am
