/- The logic's rules for the simplifier, which never looks into what comes behind: that is held fast by a tag. -/
import Derived.Test.YtcjfjfhggfcnfaaAmWpS
set_option linter.unusedSimpArgs false
set_option linter.unusedVariables false
namespace Go.Proofs.Ytcjfjfhggfcnfaa.Am
open Go
variable {cfg : Cfg} {P : Program}
def Tag {α : Type} (_ : α) : Type := Unit
abbrev VH := AV → AHeap → Prop
structure Two where
  a : Prop
  b : Prop
structure Box where
  R : VH
structure Box2 where
  R : VH
  E : VH
structure BoxC where
  c : Code
  Q : WPost
structure BoxO where
  ops : List Oper
  l : List Oper
  Q : WPost
structure BoxD where
  ops : List Oper
  l : List (Oper × Bool × Nat × Nat)
  past : List AHeap
  Q : WPost
structure BoxI where
  a : Code
  b : Code
  Q : WPost
  T : ATmps
  H : AHeap
structure BoxA where
  Q : AOut → AHeap → Prop
def oqx (r : Res) (k : Box) (_ : Tag k) : Prop := oq r k.R
def gqx (g : Option Bool) (k : Two) (_ : Tag k) : Prop := gq g k.a k.b
def wOpx (cfg : Cfg) (P : Program) (imm : Bool) (o : Op) (T : ATmps) (H : AHeap) (k : Box2) (_ : Tag k) : Prop := wOp cfg P imm o T H k.R k.E
def wOpsx (cfg : Cfg) (P : Program) (imm : Bool) (k : BoxO) (_ : Tag k) (T : ATmps) (H : AHeap) : Prop := wOps cfg P imm k.ops k.l k.Q T H
def wDrawx (cfg : Cfg) (P : Program) (again : List AgainW) (k : BoxD) (_ : Tag k) (T : ATmps) (H : AHeap) : Prop := wDraw cfg P k.ops k.l k.past again k.Q T H
def wCx (cfg : Cfg) (P : Program) (k : BoxC) (_ : Tag k) (T : ATmps) (H : AHeap) : Prop := wC cfg P k.c k.Q T H
def condx (cfg : Cfg) (P : Program) (v : AV) (k : BoxI) (_ : Tag k) : Prop := condW cfg P v k.a k.b k.Q k.T k.H
def callx (cfg : Cfg) (P : Program) (f : Nat) (args : List AV) (H : AHeap) (k : BoxA) (_ : Tag k) : Prop := CallsTo cfg P f args H k.Q
def dynx (cfg : Cfg) (P : Program) (v : AV) (args : List AV) (H : AHeap) (k : Box2) (_ : Tag k) : Prop := dynCall cfg P v args H k.R k.E
def postx (k : BoxC) (_ : Tag k) (ex : AExit) (T : ATmps) (H : AHeap) : Prop := k.Q ex T H

section
variable {Q : WPost} {T : ATmps} {H : AHeap} {R E : VH} {imm : Bool}
@[simp] theorem x_wC {c : Code} : wC cfg P c Q T H = wCx cfg P ⟨c, Q⟩ () T H := propext Iff.rfl
@[simp] theorem x_skip  : wCx cfg P ⟨.skip, Q⟩ () T H = Q .normal T H := propext Iff.rfl
@[simp] theorem x_seq {a b : Code} : wCx cfg P ⟨.seq a b, Q⟩ () T H = wCx cfg P ⟨a, seqW cfg P b Q⟩ () T H := propext Iff.rfl
@[simp] theorem x_block {i : Nat} {c : Code} : wCx cfg P ⟨.block i c, Q⟩ () T H = wCx cfg P ⟨c, blkW i Q⟩ () T H := propext Iff.rfl
@[simp] theorem x_region {i : Nat} {l : List Oper} : wCx cfg P ⟨.region i (List.toArray l) false, Q⟩ () T H = wOpsx cfg P false ⟨l, l, Q⟩ () T H := propext Iff.rfl
@[simp] theorem x_exit {i : Nat} : wCx cfg P ⟨.exit i, Q⟩ () T H = Q (.exit i) T H := propext Iff.rfl
@[simp] theorem x_ret  : wCx cfg P ⟨.ret, Q⟩ () T H = Q .ret T H := propext Iff.rfl
@[simp] theorem x_scope {c : Code} : wCx cfg P ⟨.scope c, Q⟩ () T H = wCx cfg P ⟨c, Q⟩ () T H := propext Iff.rfl
@[simp] theorem x_label {i : Nat} : wCx cfg P ⟨.label i, Q⟩ () T H = Q .normal T H := propext Iff.rfl
@[simp] theorem x_cond {t : Operand} {a b : Code} : wCx cfg P ⟨.cond t a b, Q⟩ () T H = condx cfg P (operand t T) ⟨a, b, Q, T, H⟩ () := propext Iff.rfl
@[simp] theorem x_condb {v : Bool} {a b : Code} : condx cfg P (.bool v) ⟨a, b, Q, T, H⟩ () = ((v = true → wCx cfg P ⟨a, Q⟩ () T H) ∧ (v = false → wCx cfg P ⟨b, Q⟩ () T H)) := propext Iff.rfl
@[simp] theorem x_seqn {b : Code} : seqW cfg P b Q .normal T H = wCx cfg P ⟨b, Q⟩ () T H := propext Iff.rfl
@[simp] theorem x_nil {ops : List Oper} : wOpsx cfg P imm ⟨ops, [], Q⟩ () (T) H = Q .normal T H := propext Iff.rfl
@[simp] theorem x_cons {ops l : List Oper} {op : Op} {d : Option Nat} {ty : TypeId} {af : Array Edge} {pos : String} : wOpsx cfg P imm ⟨ops, { op := op, dst := d, type := ty, guard := none, after := af, pos := pos } :: l, Q⟩ () (T) H = wOpx cfg P imm op T H ⟨fun v H' => wOpsx cfg P imm ⟨ops, l, Q⟩ () (putA T d v) H', fun v H' => Q (.pan v) T H'⟩ () := propext Iff.rfl
@[simp] theorem x_consg {ops l : List Oper} {op : Op} {d : Option Nat} {ty : TypeId} {af : Array Edge} {pos : String} {j : Nat} {w : Bool} : wOpsx cfg P imm ⟨ops, { op := op, dst := d, type := ty, guard := some (j, w), after := af, pos := pos } :: l, Q⟩ () (T) H = gqx (gat (gdst ops j) T w) ⟨wOpx cfg P imm op T H ⟨fun v H' => wOpsx cfg P imm ⟨ops, l, Q⟩ () (putA T d v) H', fun v H' => Q (.pan v) T H'⟩ (), wOpsx cfg P imm ⟨ops, l, Q⟩ () (putA T d (.tup [])) H⟩ () := propext (by rw [← guardA_gat]; exact Iff.rfl)
@[simp] theorem x_gt {a b : Prop} : gqx (some true) ⟨a, b⟩ () = a := propext Iff.rfl
@[simp] theorem x_gf {a b : Prop} : gqx (some false) ⟨a, b⟩ () = b := propext Iff.rfl
theorem x_gs {c : Bool} {a b : Prop} : gqx (some c) ⟨a, b⟩ () = ((c = true → a) ∧ (c = false → b)) := gq_some
@[simp] theorem x_of {v : AV} : oqx (some (v, H)) ⟨R⟩ () = R v H := propext Iff.rfl
@[simp] theorem x_pure {v : AV} : oqx (pureO (some v) H) ⟨R⟩ () = R v H := propext Iff.rfl
@[simp] theorem x_none  : oqx none ⟨R⟩ () = False := propext Iff.rfl
@[simp] theorem x_noneP  : oqx (pureO none H) ⟨R⟩ () = False := propext Iff.rfl
@[simp] theorem x_op_move {x : Operand} : wOpx cfg P imm (.move x) T H ⟨R, E⟩ () = R (operand x T) H := propext Iff.rfl
@[simp] theorem x_op_assign {x : Operand} : wOpx cfg P imm (.assign x) T H ⟨R, E⟩ () = R (operand x T) H := propext Iff.rfl
@[simp] theorem x_op_pick {c a b : Operand} : wOpx cfg P imm (.pick c a b) T H ⟨R, E⟩ () = oqx (oPick (operand c T) (operand a T) (operand b T) H) ⟨R⟩ () := propext Iff.rfl
@[simp] theorem x_op_alloc {t : TypeId} : wOpx cfg P imm (.alloc t) T H ⟨R, E⟩ () = oqx (oAlloc P t H) ⟨R⟩ () := propext Iff.rfl
@[simp] theorem x_op_box {t : TypeId} {x : Operand} : wOpx cfg P imm (.box t x) T H ⟨R, E⟩ () = oqx (oBox (operand x T) H) ⟨R⟩ () := propext Iff.rfl
@[simp] theorem x_op_build {t : TypeId} {ps : Array (Nat × Operand)} : wOpx cfg P imm (.build t ps) T H ⟨R, E⟩ () = oqx (pureO (buildA P t (partsA T ps)) H) ⟨R⟩ () := propext Iff.rfl
@[simp] theorem x_op_buildSlice {t n : Nat} {ps : Array (Nat × Operand)} : wOpx cfg P imm (.buildSlice t n ps) T H ⟨R, E⟩ () = oqx (oBuildSlice P t n (partsA T ps) imm H) ⟨R⟩ () := propext Iff.rfl
@[simp] theorem x_op_insert {t : TypeId} {m k v : Operand} : wOpx cfg P imm (.insert t m k v) T H ⟨R, E⟩ () = oqx (oMapUpdate P t (operand m T) (operand k T) (operand v T) H) ⟨R⟩ () := propext Iff.rfl
@[simp] theorem x_op_load {t : TypeId} {a : Operand} : wOpx cfg P imm (.load t a) T H ⟨R, E⟩ () = oqx (oLoad P t (operand a T) H) ⟨R⟩ () := propext Iff.rfl
@[simp] theorem x_op_store {t : TypeId} {a v : Operand} : wOpx cfg P imm (.store t a v) T H ⟨R, E⟩ () = oqx (oStore P t (operand a T) (operand v T) H) ⟨R⟩ () := propext Iff.rfl
@[simp] theorem x_op_nilCheck {x : Operand} : wOpx cfg P imm (.nilCheck x) T H ⟨R, E⟩ () = oqx (oNilCheck (operand x T) H) ⟨R⟩ () := propext Iff.rfl
@[simp] theorem x_op_binOp {op : BinOp} {t : TypeId} {x y : Operand} {u : TypeId} : wOpx cfg P imm (.binOp op t x y u) T H ⟨R, E⟩ () = oqx (pureO (binA P op t x y (operand x T) (operand y T)) H) ⟨R⟩ () := propext Iff.rfl
@[simp] theorem x_op_unOp {op : UnOp} {t : TypeId} {x : Operand} : wOpx cfg P imm (.unOp op t x) T H ⟨R, E⟩ () = oqx (pureO (unA op (operand x T)) H) ⟨R⟩ () := propext Iff.rfl
@[simp] theorem x_op_convert {s d : TypeId} {x : Operand} : wOpx cfg P imm (.convert s d x) T H ⟨R, E⟩ () = oqx (convA imm P s d (operand x T) H) ⟨R⟩ () := propext Iff.rfl
@[simp] theorem x_op_makeInterface {t : TypeId} {x : Operand} : wOpx cfg P imm (.makeInterface t x) T H ⟨R, E⟩ () = oqx (pureO (makeIfaceA P t (operand x T)) H) ⟨R⟩ () := propext Iff.rfl
@[simp] theorem x_op_makeFunc {f : Fn} {a b : Array Operand} : wOpx cfg P imm (.makeFunc f a b) T H ⟨R, E⟩ () = oqx (pureO (makeFuncA f (argsA T a) (argsA T b)) H) ⟨R⟩ () := propext Iff.rfl
@[simp] theorem x_op_makeMap {t : TypeId} {r : Option Operand} : wOpx cfg P imm (.makeMap t r) T H ⟨R, E⟩ () = oqx (oMakeMap P t (opts T r) H) ⟨R⟩ () := propext Iff.rfl
@[simp] theorem x_op_makeSlice {t : TypeId} {l c : Operand} : wOpx cfg P imm (.makeSlice t l c) T H ⟨R, E⟩ () = oqx (oMakeSlice P t (operand l T) (operand c T) H) ⟨R⟩ () := propext Iff.rfl
@[simp] theorem x_op_slice {t : TypeId} {x : Operand} {l h m : Option Operand} : wOpx cfg P imm (.slice t x l h m) T H ⟨R, E⟩ () = oqx (pureO (sliceA P t (operand x T) (opts T l) (opts T h) (opts T m)) H) ⟨R⟩ () := propext Iff.rfl
@[simp] theorem x_op_fieldAddr {s : TypeId} {x : Operand} {f : Nat} : wOpx cfg P imm (.fieldAddr s x f) T H ⟨R, E⟩ () = oqx (pureO (fieldAddrA P s (operand x T) f) H) ⟨R⟩ () := propext Iff.rfl
@[simp] theorem x_op_field {t : TypeId} {x : Operand} {f : Nat} : wOpx cfg P imm (.field t x f) T H ⟨R, E⟩ () = oqx (pureO (fieldA P t (operand x T) f) H) ⟨R⟩ () := propext Iff.rfl
@[simp] theorem x_op_indexAddr {t : TypeId} {x i : Operand} : wOpx cfg P imm (.indexAddr t x i) T H ⟨R, E⟩ () = oqx (pureO (indexAddrA P t (operand x T) (operand i T)) H) ⟨R⟩ () := propext Iff.rfl
@[simp] theorem x_op_index {t : TypeId} {x i : Operand} : wOpx cfg P imm (.index t x i) T H ⟨R, E⟩ () = oqx (pureO (indexA P t (operand x T) (operand i T)) H) ⟨R⟩ () := propext Iff.rfl
@[simp] theorem x_op_lookup {t : TypeId} {m k : Operand} {ok : Bool} : wOpx cfg P imm (.lookup t m k ok) T H ⟨R, E⟩ () = oqx (oLookup P t (operand m T) (operand k T) ok H) ⟨R⟩ () := propext Iff.rfl
@[simp] theorem x_op_mapUpdate {t : TypeId} {m k v : Operand} : wOpx cfg P imm (.mapUpdate t m k v) T H ⟨R, E⟩ () = oqx (oMapUpdate P t (operand m T) (operand k T) (operand v T) H) ⟨R⟩ () := propext Iff.rfl
@[simp] theorem x_op_mapEntry {t : TypeId} {m k : Operand} : wOpx cfg P imm (.mapEntry t m k) T H ⟨R, E⟩ () = oqx (oMapEntry P t (operand m T) (operand k T) H) ⟨R⟩ () := propext Iff.rfl
@[simp] theorem x_op_entryStore {t : TypeId} {m s v : Operand} : wOpx cfg P imm (.entryStore t m s v) T H ⟨R, E⟩ () = oqx (oEntryStore (operand m T) (operand s T) (operand v T) H) ⟨R⟩ () := propext Iff.rfl
@[simp] theorem x_op_extract {x : Operand} {i : Nat} : wOpx cfg P imm (.extract x i) T H ⟨R, E⟩ () = oqx (pureO (extractA i (operand x T)) H) ⟨R⟩ () := propext Iff.rfl
@[simp] theorem x_op_range {t : TypeId} {x : Operand} : wOpx cfg P imm (.range t x) T H ⟨R, E⟩ () = oqx (oRange P t (operand x T) H) ⟨R⟩ () := propext Iff.rfl
@[simp] theorem x_op_next {it : Operand} {s : Bool} : wOpx cfg P imm (.next it s) T H ⟨R, E⟩ () = oqx (oNext (operand it T) s H) ⟨R⟩ () := propext Iff.rfl
@[simp] theorem x_op_len {args : Array Operand} {ts : Array TypeId} : wOpx cfg P imm (.call { callee := .builtin .len, args := args, argTypes := ts }) T H ⟨R, E⟩ () = oqx (pureO (lenA P H ts.toList (argsA T args)) H) ⟨R⟩ () := propext Iff.rfl
@[simp] theorem x_op_append {args : Array Operand} {ts : Array TypeId} : wOpx cfg P imm (.call { callee := .builtin .append, args := args, argTypes := ts }) T H ⟨R, E⟩ () = oqx (appendA P H ts.toList (argsA T args)) ⟨R⟩ () := propext Iff.rfl
@[simp] theorem x_op_copy {args : Array Operand} {ts : Array TypeId} : wOpx cfg P imm (.call { callee := .builtin .copy, args := args, argTypes := ts }) T H ⟨R, E⟩ () = oqx (copyA P H ts.toList (argsA T args)) ⟨R⟩ () := propext Iff.rfl
@[simp] theorem x_op_max {args : Array Operand} {ts : Array TypeId} : wOpx cfg P imm (.call { callee := .builtin .max, args := args, argTypes := ts }) T H ⟨R, E⟩ () = oqx (pureO (mmA true (argsA T args)) H) ⟨R⟩ () := propext Iff.rfl
@[simp] theorem x_op_min {args : Array Operand} {ts : Array TypeId} : wOpx cfg P imm (.call { callee := .builtin .min, args := args, argTypes := ts }) T H ⟨R, E⟩ () = oqx (pureO (mmA false (argsA T args)) H) ⟨R⟩ () := propext Iff.rfl
@[simp] theorem x_op_callF {f : Nat} {args : Array Operand} {ts : Array TypeId} : wOpx cfg P imm (.call { callee := .value (.func f), args := args, argTypes := ts }) T H ⟨R, E⟩ () = callx cfg P f (argsA T args) H ⟨retq R E⟩ () := wOp_callF
@[simp] theorem x_op_callT {t : Nat} {args : Array Operand} {ts : Array TypeId} : wOpx cfg P imm (.call { callee := .value (.tmp t), args := args, argTypes := ts }) T H ⟨R, E⟩ () = dynx cfg P (ATmps.at T t) (argsA T args) H ⟨R, E⟩ () := propext Iff.rfl
@[simp] theorem x_dnil {ops : List Oper} {past : List AHeap} {again : List AgainW} : wDrawx cfg P (again) ⟨ops, [], past, Q⟩ () (T) H = Q .normal T H := propext Iff.rfl
@[simp] theorem x_dstill {ops : List Oper} {l : List (Oper × Bool × Nat × Nat)} {op : Op} {d : Option Nat} {ty : TypeId} {af : Array Edge} {pos : String} {past : List AHeap} {again : List AgainW} {lo hi : Nat} : wDrawx cfg P (again) ⟨ops, ({ op := op, dst := d, type := ty, guard := none, after := af, pos := pos }, true, lo, hi) :: l, past, Q⟩ () (T) H = wOpx cfg P true op T H ⟨fun v _ => sames cfg P op T v (past.take (past.length - lo)) ∧ wDrawx cfg P (if hi ≤ past.length then again else { op := op, T := T, v := v, hi := hi } :: again) ⟨ops, l, past, Q⟩ () (putA T d v) H, fun _ _ => False⟩ () := propext Iff.rfl
@[simp] theorem x_dact {ops : List Oper} {l : List (Oper × Bool × Nat × Nat)} {op : Op} {d : Option Nat} {ty : TypeId} {af : Array Edge} {pos : String} {past : List AHeap} {again : List AgainW} {lo hi : Nat} : wDrawx cfg P (again) ⟨ops, ({ op := op, dst := d, type := ty, guard := none, after := af, pos := pos }, false, lo, hi) :: l, past, Q⟩ () (T) H = wOpx cfg P false op T H ⟨fun v H' => agains cfg P past.length H' again ∧ wDrawx cfg P (again) ⟨ops, l, H :: past, Q⟩ () (putA T d v) H', fun _ _ => False⟩ () := propext Iff.rfl
@[simp] theorem x_same {op : Op} {v : AV} {l : List AHeap} : sames cfg P op T v (H :: l) = (wOpx cfg P true op T H ⟨fun w _ => avEq 24 v w = true, fun _ _ => False⟩ () ∧ sames cfg P op T v l) := propext Iff.rfl
@[simp] theorem x_again {n : Nat} {a : AgainW} {l : List AgainW} : agains cfg P n H (a :: l) = ((n < a.hi → wOpx cfg P true a.op a.T H ⟨fun w _ => avEq 24 a.v w = true, fun _ _ => False⟩ ()) ∧ agains cfg P n H l) := propext Iff.rfl
theorem x_draw {i : Nat} {l : List Oper} (dat : List (Bool × Nat × Nat)) (h : drawOk l (dops cfg l) = true) (hd : drawDat cfg l = dat) (h2 : wDrawx cfg P [] ⟨l, l.zip dat, [], Q⟩ () T H) : wCx cfg P ⟨.region i (List.toArray l) true, Q⟩ () T H := wC_draw dat h hd h2
theorem x_loop {c : Code} (I : Nat → ATmps → AHeap → Prop) (n : Nat) (h0 : I n T H) (h : ∀ n T H, I n T H → wCx cfg P ⟨c, againW I n Q⟩ () T H) : wCx cfg P ⟨.loop c, Q⟩ () T H := wC_loop I n h0 h
theorem x_call {f : Nat} {args : List AV} {Q : AOut → AHeap → Prop} (h : CallsTo cfg P f args H Q) : callx cfg P f args H ⟨Q⟩ () := h
theorem x_oq {r : Res} (h : oq r R) : oqx r ⟨R⟩ () := h
end
end Go.Proofs.Ytcjfjfhggfcnfaa.Am
