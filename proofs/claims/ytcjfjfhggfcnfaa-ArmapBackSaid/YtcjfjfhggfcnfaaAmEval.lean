/- The abstract machine's run of the model's own code. Definitions alone. -/
import Derived.Test.YtcjfjfhggfcnfaaAmOps
set_option linter.unusedSimpArgs false
set_option linter.unusedVariables false
namespace Go.Proofs.Ytcjfjfhggfcnfaa.Am
open Go

noncomputable section

/-- What a run is told besides the program: how each function is run, which are told by a function of their own, and which slices that are written out, or made of texts, may be turned (by their type, and the temporary that takes them). -/
inductive How where
  | shared
  | plain
  | apart
structure Cfg where
  mode : Nat → How
  ext : Nat → Option (List AV → Option AV)
  mutLit : Nat → Nat → Bool

inductive AExit where
  | normal
  | exit (id : Nat)
  | ret
  | pan (v : AV)
inductive AOut where
  | ret (v : AV)
  | pan (v : AV)
abbrev CodeR := Option (AExit × ATmps × AHeap)
abbrev CallR := Option (AOut × AHeap)

def opts (T : ATmps) (x : Option Operand) : Option AV := Option.casesOn x none (fun x => some (operand x T))
def partsA (T : ATmps) (ps : Array (Nat × Operand)) : List (Nat × AV) := lmap (fun (p : Nat × Operand) => (p.1, operand p.2 T)) ps.toList
def argsA (T : ATmps) (xs : Array Operand) : List AV := lmap (fun x => operand x T) xs.toList

/-- an operation that is no call -/
def opA (imm : Bool) : Op → Program → ATmps → AHeap → Res
  | .move x => fun _ T H => some (operand x T, H)
  | .assign x => fun _ T H => some (operand x T, H)
  | .pick c a b => fun _ T H => oPick (operand c T) (operand a T) (operand b T) H
  | .alloc t => fun P _ H => oAlloc P t H
  | .box _ x => fun _ T H => oBox (operand x T) H
  | .build t ps => fun P T H => pureO (buildA P t (partsA T ps)) H
  | .buildSlice t n ps => fun P T H => oBuildSlice P t n (partsA T ps) imm H
  | .insert t m k v => fun P T H => oMapUpdate P t (operand m T) (operand k T) (operand v T) H
  | .load t a => fun P T H => oLoad P t (operand a T) H
  | .store t a v => fun P T H => oStore P t (operand a T) (operand v T) H
  | .nilCheck x => fun _ T H => oNilCheck (operand x T) H
  | .binOp op t x y _ => fun P T H => pureO (binA P op t x y (operand x T) (operand y T)) H
  | .unOp op _ x => fun _ T H => pureO (unA op (operand x T)) H
  | .convert s d x => fun P T H => convA imm P s d (operand x T) H
  | .makeInterface t x => fun P T H => pureO (makeIfaceA P t (operand x T)) H
  | .makeFunc f a b => fun _ T H => pureO (makeFuncA f (argsA T a) (argsA T b)) H
  | .makeMap t r => fun P T H => oMakeMap P t (opts T r) H
  | .makeSlice t l c => fun P T H => oMakeSlice P t (operand l T) (operand c T) H
  | .slice t x l h m => fun P T H => pureO (sliceA P t (operand x T) (opts T l) (opts T h) (opts T m)) H
  | .fieldAddr s x f => fun P T H => pureO (fieldAddrA P s (operand x T) f) H
  | .field t x f => fun P T H => pureO (fieldA P t (operand x T) f) H
  | .indexAddr t x i => fun P T H => pureO (indexAddrA P t (operand x T) (operand i T)) H
  | .index t x i => fun P T H => pureO (indexA P t (operand x T) (operand i T)) H
  | .lookup t m k ok => fun P T H => oLookup P t (operand m T) (operand k T) ok H
  | .mapUpdate t m k v => fun P T H => oMapUpdate P t (operand m T) (operand k T) (operand v T) H
  | .mapEntry t m k => fun P T H => oMapEntry P t (operand m T) (operand k T) H
  | .entryStore _ m s v => fun _ T H => oEntryStore (operand m T) (operand s T) (operand v T) H
  | .extract x i => fun _ T H => pureO (extractA i (operand x T)) H
  | .range t x => fun P T H => oRange P t (operand x T) H
  | .next it s => fun _ T H => oNext (operand it T) s H
  | _ => fun _ _ _ => none

def enterA (args : List AV) : ATmps := listRec (β := Nat → ATmps → ATmps) (fun _ T => T) (fun v _ r i T => r (Nat.succ i) (T.set v i)) args 0 .leaf
def dstOk (n : Nat) (o : Oper) : Bool := Option.casesOn o.dst true (fun d => Nat.ble (Nat.succ d) n)
/-- every temporary that a function's code writes is one of its own -/
def codeOk (n : Nat) : Code → Bool
  | .region _ ops _ => lall (dstOk n) ops.toList
  | .seq a b => match codeOk n a with
    | true => codeOk n b
    | false => false
  | .cond _ a b => match codeOk n a with
    | true => codeOk n b
    | false => false
  | .block _ c => codeOk n c
  | .loop c => codeOk n c
  | .scope c => codeOk n c
  | .exit _ | .skip | .ret | .label _ | .goto _ => true
  | _ => false
def resA (P : Program) (T : ATmps) (H : AHeap) : ResultVar → Option AV
  | .tmp t => some (ATmps.at T t)
  | .cell a t => Option.casesOn (oLoad P t (ATmps.at T a) H) none (fun r => some r.1)
def resultsA (P : Program) (rs : List ResultVar) (T : ATmps) (H : AHeap) : Option AV :=
  match omap (resA P T H) rs with
  | some [v] => some v
  | some vs => some (.tup vs)
  | none => none

/-- a function's body is run -/
def enterF (P : Program) (ih : Code → ATmps → AHeap → CodeR) (f : Nat) (args : List AV) (H : AHeap) : CallR :=
  match P.funcs[f]? with
  | none => none
  | some fn => match fn.body, fn.name == "runtime.NumGoroutine" with
    | some c, false => match codeOk fn.ntmps c, Nat.ble (llen args) fn.ntmps with
      | true, true => match ih c (enterA args) H with
        | some (.normal, T, H) | some (.ret, T, H) => match resultsA P fn.results.toList T H with
          | some v => some (.ret v, H)
          | none => none
        | some (.pan v, _, H) => some (.pan v, H)
        | _ => none
      | _, _ => none
    | _, _ => none
def callF (cfg : Cfg) (P : Program) (ih : Code → ATmps → AHeap → CodeR) (f : Nat) (args : List AV) (H : AHeap) : CallR :=
  match cfg.ext f with
  | some g => match lall (noRefs 24) args, g args with
    | true, some v => match noRefs 24 v with
      | true => some (.ret v, H)
      | false => none
    | _, _ => none
  | none => match cfg.mode f with
    | .shared => enterF P ih f args H
    | .plain => match (match lall (noRefs 24) args with
        | true => some args
        | false => omap (freeze 24 H) args) with
      | none => none
      | some args => match enterF P ih f args { tr := .leaf, next := 0 } with
        | some (.ret v, _) => match plainA 8 v with
          | true => some (.ret v, H)
          | false => none
        | some (.pan (.iface t v), _) => match plainA 8 v with
          | true => some (.pan (.iface t v), H)
          | false => none
        | _ => none
    | .apart => match lall (noRefs 24) args with
      | false => enterF P ih f args H
      | true => match enterF P ih f args { tr := .leaf, next := 0 } with
        | some (.ret v, H') => match freeze 24 H' v with
          | some v => some (.ret v, H)
          | none => none
        | _ => none

/-- an operation's guard -/
def guardA (ops : List Oper) (T : ATmps) : Option (Nat × Bool) → Option Bool
  | none => some true
  | some (j, want) => match lget ops j with
    | none => some false
    | some o => match o.dst with
      | none => some false
      | some d => match ATmps.at T d with
        | .bool b => some (match b, want with
          | true, true => true
          | false, false => true
          | _, _ => false)
        | .opq => none
        | _ => some false
def putA (T : ATmps) (d : Option Nat) (v : AV) : ATmps := Option.casesOn d T (fun d => T.set v d)

/-- a call operation: what it answers, or a panic -/
def callA (cfg : Cfg) (P : Program) (ih : Code → ATmps → AHeap → CodeR) (c : Call) (T : ATmps) (H : AHeap) : CallR :=
  match c.callee with
  | .builtin .panic => match argsA T c.args with
    | .iface t v :: _ => some (.pan (.iface t v), H)
    | _ => none
  | .builtin b => match builtinA P H b c.argTypes.toList (argsA T c.args) with
    | some (v, H) => some (.ret v, H)
    | none => none
  | .value f => match operand f T with
    | .fn f first captured => callF cfg P ih f (lapp first (lapp (argsA T c.args) captured)) H
    | _ => none
  | _ => none
def anyOp (cfg : Cfg) (imm : Bool) (P : Program) (ih : Code → ATmps → AHeap → CodeR) : Op → ATmps → AHeap → CallR
  | .call c => callA cfg P ih c
  | .panic x => fun T H => match operand x T with
    | .iface t v => some (.pan (.iface t v), H)
    | _ => none
  | op => fun T H => match opA imm op P T H with
    | some (v, H) => some (.ret v, H)
    | none => none
def evOps (cfg : Cfg) (imm : Bool) (P : Program) (ih : Code → ATmps → AHeap → CodeR) (ops : List Oper) (l : List Oper) : ATmps → AHeap → CodeR :=
  listRec (fun T H => some (.normal, T, H)) (fun (o : Oper) _ r T H => match guardA ops T o.guard with
    | none => none
    | some false => r (putA T o.dst (.tup [])) H
    | some true => match anyOp cfg imm P ih o.op T H with
      | some (.ret v, H) => r (putA T o.dst v) H
      | some (.pan v, H) => some (.pan v, T, H)
      | none => none) l

/-! Regions whose order is drawn. Still operations turn nothing; the others come in one order alone; what a still one reads is the same at every place where it may come. -/
def stillOp (cfg : Cfg) (dst : Option Nat) : Op → Bool
  | .move _ | .assign _ | .pick .. | .build .. | .load .. | .nilCheck _ | .binOp .. | .unOp .. | .makeInterface .. | .makeFunc .. | .slice .. | .fieldAddr .. | .field ..
  | .indexAddr .. | .index .. | .lookup .. | .extract .. => true
  | .buildSlice t _ _ => Option.casesOn dst true (fun d => notB (cfg.mutLit t d))
  | .convert _ t _ => Option.casesOn dst true (fun d => notB (cfg.mutLit t d))
  | .call { callee := .builtin b, .. } => match b with
    | .len | .max | .min => true
    | _ => false
  | .call { callee := .value (.func f), .. } => match cfg.ext f with
    | some _ => true
    | none => match cfg.mode f with
      | .plain => true
      | _ => false
  | _ => false
def tmpsOf (xs : List Operand) : List Nat := listRec [] (fun (x : Operand) _ r => match x with
  | .tmp t => t :: r
  | _ => r) xs
/-- the temporaries that an operation reads -/
def readsOf (ops : List Oper) (o : Oper) : List Nat :=
  match o.guard with
  | none => tmpsOf o.op.operands.toList
  | some (j, _) => match lget ops j with
    | some { dst := some d, .. } => d :: tmpsOf o.op.operands.toList
    | _ => tmpsOf o.op.operands.toList
def hasN (n : Nat) (l : List Nat) : Bool := listRec false (fun a _ r => Bool.casesOn (Nat.beq a n) r true) l
/-- the edges that bind whatever the order, as numbers of operations -/
def binding (o : Oper) : List Nat := listRec [] (fun (e : Edge) _ s => match Region.binds .any e with
  | true => e.on :: s
  | false => s) o.after.toList
def joinL (acc : List (List Nat)) (l : List Nat) : List Nat := listRec [] (fun a _ r => lapp (Option.casesOn (lget acc a) [] (fun x => x)) r) l
/-- of each operation those that come ahead of it whatever the order (each edge leads back) -/
def aheads (ops : List Oper) : List (List Nat) :=
  listRec (β := List (List Nat) → List (List Nat)) (fun acc => acc) (fun (o : Oper) _ r acc => r (lapp acc [lapp (binding o) (joinL acc (binding o))])) ops []
/-- an operation beside its number, whether it is still, and those ahead of it -/
structure DOp where
  i : Nat
  o : Oper
  still : Bool
  anc : List Nat
def dops (cfg : Cfg) (ops : List Oper) : List DOp :=
  listRec (β := Nat → List (List Nat) → List DOp) (fun _ _ => []) (fun (o : Oper) _ r i A => { i := i, o := o, still := stillOp cfg o.dst o.op, anc := Option.casesOn (lget A 0) [] (fun x => x) } :: r (Nat.succ i) (ldrop 1 A)) ops 0 (aheads ops)
def ordered (x y : DOp) : Bool := match hasN x.i y.anc with
  | true => true
  | false => hasN y.i x.anc
/-- y writes no temporary that x names, or one is ahead of the other -/
def apartOk (ops : List Oper) (x y : DOp) : Bool := match y.o.dst with
  | none => true
  | some d => match Nat.beq x.i y.i, hasN d (readsOf ops x.o), (match x.o.dst with | some e => Nat.beq e d | none => false) with
    | true, _, _ => true
    | false, false, false => true
    | _, _, _ => ordered x y
def ascends (x y : DOp) : Bool := match x.still, y.still, Nat.ble y.i x.i with
  | false, false, false => hasN x.i y.anc
  | _, _, _ => true
def backwards (x : DOp) : Bool := lall (fun j => Nat.ble (Nat.succ j) x.i) x.anc
def drawOk (ops : List Oper) (ds : List DOp) : Bool :=
  lall (fun x => match backwards x, lall (fun y => match apartOk ops x y with
    | true => ascends x y
    | false => false) ds with
    | true, true => true
    | _, _ => false) ds
def countIf (p : DOp → Bool) (ds : List DOp) : Nat := listRec 0 (fun a _ n => Bool.casesOn (p a) n (Nat.succ n)) ds
/-- how many of those that aren't still are ahead of it; how many aren't behind it -/
def loLevel (ds : List DOp) (x : DOp) : Nat := countIf (fun y => match y.still with
  | true => false
  | false => hasN y.i x.anc) ds
def hiLevel (ds : List DOp) (x : DOp) : Nat := countIf (fun y => match y.still with
  | true => false
  | false => notB (hasN x.i y.anc)) ds

def avEqL (eq : AV → AV → Bool) (a : List AV) : List AV → Bool :=
  listRec (fun b => List.casesOn b true (fun _ _ => false)) (fun x _ r b => List.casesOn b false (fun y b => Bool.casesOn (eq x y) false (r b))) a
def optEq : Option Nat → Option Nat → Bool
  | none, none => true
  | some a, some b => Nat.beq a b
  | _, _ => false
def boolEq : Bool → Bool → Bool
  | true, true => true
  | false, false => true
  | _, _ => false
def kindEq (a b : IntKind) : Bool := match decEq a b with
  | isTrue _ => true
  | isFalse _ => false
def andB (a b : Bool) : Bool := Bool.casesOn a false b
/-- equal values (to a depth) -/
def avEq (d : Nat) : AV → AV → Bool :=
  natRec (fun _ _ => false) (fun _ r x y => match x, y with
    | .int k a, .int k' b => andB (kindEq k k') (eqI a b)
    | .bool a, .bool b => boolEq a b
    | .str a, .str b => strEq a b
    | .agg a, .agg b | .tup a, .tup b | .vptr a, .vptr b => avEqL r a b
    | .nilp, .nilp | .nils, .nils | .nilm, .nilm | .nilf, .nilf | .nili, .nili => true
    | .ptr a b c, .ptr a' b' c' => andB (Nat.beq a a') (andB (Nat.beq b b') (Nat.beq c c'))
    | .gptr a b, .gptr a' b' => andB (Nat.beq a a') (Nat.beq b b')
    | .sl a b c d e f, .sl a' b' c' d' e' f' => andB (Nat.beq a a') (andB (Nat.beq b b') (andB (Nat.beq c c') (andB (Nat.beq d d') (andB (Nat.beq e e') (optEq f f')))))
    | .vsl a b c d, .vsl a' b' c' d' => andB (Nat.beq b b') (andB (boolEq c c') (andB (boolEq d d') (avEqL r a a')))
    | .map a, .map b => Nat.beq a b
    | .fn f a b, .fn f' a' b' => andB (Nat.beq f f') (andB (avEqL r a a') (avEqL r b b'))
    | .iface t v, .iface t' v' => andB (Nat.beq t t') (r v v')
    | _, _ => false) d

/-- what is asked again: an operation, the temporaries that it saw, its answer, up to which level -/
structure Again where
  op : Op
  T : ATmps
  v : AV
  hi : Nat
def sameAt (cfg : Cfg) (P : Program) (ih : Code → ATmps → AHeap → CodeR) (op : Op) (T : ATmps) (v : AV) (H : AHeap) : Bool :=
  match anyOp cfg true P ih op T H with
  | some (.ret w, _) => avEq 24 v w
  | _ => false
def evDraw (cfg : Cfg) (P : Program) (ih : Code → ATmps → AHeap → CodeR) (ops : List Oper) (ds : List DOp) (l : List DOp) : List AHeap → List Again → ATmps → AHeap → CodeR :=
  listRec (fun _ _ T H => some (.normal, T, H)) (fun (x : DOp) _ r past again T H => match guardA ops T x.o.guard with
    | none => none
    | some false => Bool.casesOn x.still (r (H :: past) again (putA T x.o.dst (.tup [])) H) (r past again (putA T x.o.dst (.tup [])) H)
    | some true => match anyOp cfg x.still P ih x.o.op T H with
      | some (.ret v, H') => match x.still with
        | true => match lall (sameAt cfg P ih x.o.op T v) (ltake (Nat.sub (llen past) (loLevel ds x)) past) with
          | true => match Nat.ble (hiLevel ds x) (llen past) with
            | true => r past again (putA T x.o.dst v) H
            | false => r past ({ op := x.o.op, T := T, v := v, hi := hiLevel ds x } :: again) (putA T x.o.dst v) H
          | false => none
        | false => match lall (fun (a : Again) => match Nat.ble a.hi (llen past) with
            | true => true
            | false => sameAt cfg P ih a.op a.T a.v H') again with
          | true => r (H :: past) again (putA T x.o.dst v) H'
          | false => none
      | _ => none) l
def evRegion (cfg : Cfg) (P : Program) (ih : Code → ATmps → AHeap → CodeR) (ops : List Oper) : Bool → ATmps → AHeap → CodeR
  | false => evOps cfg false P ih ops ops
  | true => match drawOk ops (dops cfg ops) with
    | true => evDraw cfg P ih ops (dops cfg ops) (dops cfg ops) [] []
    | false => fun _ _ => none

def evSeq (ih : Code → ATmps → AHeap → CodeR) (b : Code) (r : CodeR) : CodeR :=
  match r with
  | some (.normal, T, H) => ih b T H
  | r => r
def evCode (cfg : Cfg) (P : Program) (ih : Code → ATmps → AHeap → CodeR) : Code → ATmps → AHeap → CodeR
  | .skip => fun T H => some (.normal, T, H)
  | .region _ ops draw => evRegion cfg P ih ops.toList draw
  | .seq a b => fun T H => evSeq ih b (ih a T H)
  | .cond c a b => fun T H => match operand c T with
    | .bool t => Bool.casesOn t (ih b T H) (ih a T H)
    | _ => none
  | .block id c => fun T H => match ih c T H with
    | some (.exit id', T, H) => match Nat.beq id' id with
      | true => some (.normal, T, H)
      | false => some (.exit id', T, H)
    | r => r
  | .loop c => fun T H => evSeq ih (.loop c) (ih c T H)
  | .scope c => ih c
  | .label _ => fun T H => some (.normal, T, H)
  | .exit id => fun T H => some (.exit id, T, H)
  | .ret => fun T H => some (.ret, T, H)
  | _ => fun _ _ => none
def ev (cfg : Cfg) (P : Program) (n : Nat) : Code → ATmps → AHeap → CodeR :=
  natRec (fun _ _ _ => none) (fun _ ih => evCode cfg P ih) n
def evCall (cfg : Cfg) (P : Program) (n : Nat) (f : Nat) (args : List AV) (H : AHeap) : CallR := callF cfg P (ev cfg P n) f args H
end
end Go.Proofs.Ytcjfjfhggfcnfaa.Am
