/- An abstract machine over the model's own code: slices are families of lists, capacities and draws are out of sight. Definitions alone; nothing is proved here. -/
import GoSem.Dispatch
import GoSem.Machine.Return
set_option linter.unusedSimpArgs false
set_option linter.unusedVariables false
namespace Go.Proofs.Ytcjfjfhggfcnfaa.Am
open Go

noncomputable section

def natRec {β : Type} (z : β) (s : Nat → β → β) (n : Nat) : β := Nat.rec z s n
def listRec {α β : Type} (z : β) (s : α → List α → β → β) (l : List α) : β := List.rec z s l

/-- Lists, by their recursor. -/
def llen {α : Type} (l : List α) : Nat := listRec 0 (fun _ _ n => Nat.succ n) l
def lapp {α : Type} (l m : List α) : List α := listRec m (fun a _ r => a :: r) l
def lmap {α β : Type} (f : α → β) (l : List α) : List β := listRec [] (fun a _ r => f a :: r) l
def lget {α : Type} (l : List α) : Nat → Option α := listRec (fun _ => none) (fun a _ r k => Nat.casesOn k (some a) r) l
def ldrop {α : Type} (n : Nat) : List α → List α := natRec (fun l => l) (fun _ r l => List.casesOn l [] (fun _ l => r l)) n
def ltake {α : Type} (n : Nat) : List α → List α := natRec (fun _ => []) (fun _ r l => List.casesOn l [] (fun a l => a :: r l)) n
def lset {α : Type} (l : List α) (x : α) : Nat → List α := listRec (fun _ => []) (fun a l r k => Nat.casesOn k (x :: l) (fun k => a :: r k)) l
/-- cells of l from k on are replaced by xs (as many as there are) -/
def lput {α : Type} (l : List α) : Nat → List α → List α :=
  listRec (fun _ _ => []) (fun a _ r k xs => Nat.casesOn k (List.casesOn xs (a :: r 0 []) (fun x xs => x :: r 0 xs)) (fun k => a :: r k xs)) l
def lrep {α : Type} (n : Nat) (x : α) : List α := natRec [] (fun _ r => x :: r) n
def lall {α : Type} (p : α → Bool) (l : List α) : Bool := listRec true (fun a _ r => Bool.casesOn (p a) false r) l
def omap {α β : Type} (f : α → Option β) (l : List α) : Option (List β) :=
  listRec (some []) (fun a _ r => Option.casesOn (f a) none (fun b => Option.casesOn r none (fun bs => some (b :: bs)))) l
/-- n copies of l -/
def lcopies {α : Type} (n : Nat) (l : List α) : List α := natRec [] (fun _ r => lapp l r) n

/-- A map from numbers. -/
inductive Tr (α : Type) where
  | leaf
  | node (l : Tr α) (v : Option α) (r : Tr α)
variable {α : Type}
def trRec {β : Type} (z : β) (s : Tr α → Option α → Tr α → β → β → β) (t : Tr α) : β := Tr.rec z s t
def Tr.get (t : Tr α) : Nat → Option α :=
  trRec (fun _ => none) (fun _ v _ gl gr k => Nat.casesOn k v (fun k => Nat.casesOn (Nat.mod k 2) (gl (Nat.div k 2)) (fun _ => gr (Nat.div k 2)))) t
def Tr.one (f : Nat) (x : α) : Nat → Tr α :=
  natRec (fun _ => .leaf) (fun _ r k => Nat.casesOn k (.node .leaf (some x) .leaf) (fun k => Nat.casesOn (Nat.mod k 2) (.node (r (Nat.div k 2)) none .leaf) (fun _ => .node .leaf none (r (Nat.div k 2))))) f
def Tr.set (t : Tr α) (x : α) : Nat → Tr α :=
  trRec (fun k => Tr.one (Nat.succ k) x k) (fun l v r sl sr k => Nat.casesOn k (.node l (some x) r) (fun k => Nat.casesOn (Nat.mod k 2) (.node (sl (Nat.div k 2)) v r) (fun _ => .node l v (sr (Nat.div k 2))))) t

/-- Abstract values. -/
inductive AV where
  | int (k : IntKind) (n : Int)
  | bool (b : Bool)
  | str (s : List Nat)
  | agg (cs : List AV)
  | tup (vs : List AV)
  | nilp
  | ptr (id ver off : Nat)
  | gptr (g off : Nat)
  | vptr (cells : List AV)
  | nils
  | sl (id ver off len esz : Nat) (cap : Option Nat)
  | vsl (cells : List AV) (len : Nat) (capped fresh : Bool)
  | nilm
  | map (id : Nat)
  | fn (f : Nat) (first captured : List AV)
  | nilf
  | iface (t : Nat) (v : AV)
  | nili
  | opq

structure AEntry where
  key : AV
  val : AV
  born : Nat

/-- Abstract objects: a family of cells (the oldest version that may be read, the newest; how far each version reaches, the newest first), a map, a string's iterator. -/
inductive AObj where
  | arr (cells : List AV) (low cur : Nat) (exts : List Nat)
  | map (es : List AEntry) (clock : Nat)
  | iter (s : List Nat) (pos : Nat)

structure AHeap where
  tr : Tr AObj
  next : Nat

abbrev ATmps := Tr AV

def AHeap.get (H : AHeap) (id : Nat) : Option AObj := H.tr.get id
def AHeap.put (H : AHeap) (id : Nat) (o : AObj) : AHeap := { H with tr := H.tr.set o id }
def AHeap.new (H : AHeap) (o : AObj) : AHeap := { tr := H.tr.set o H.next, next := Nat.succ H.next }
/-- what is not yet there is the model's 'undef' -/
def ATmps.at (T : ATmps) (t : Nat) : AV := Option.casesOn (Tr.get T t) (.tup []) (fun v => v)

/-- A constant's abstract value: one cell. -/
def cv0 : Value → AV
  | .int k n => .int k n
  | .bool b => .bool b
  | .string s => .str (lmap UInt8.toNat s.data.toList)
  | .pointer none => .nilp
  | .slice none 0 0 => .nils
  | .map none => .nilm
  | .nilFunc => .nilf
  | .nilIface => .nili
  | _ => .opq
def cv : Value → AV
  | .agg cs => .agg (lmap cv0 cs.toList)
  | .iface t v => .iface t (cv0 v)
  | .tuple vs => .tup (lmap cv0 vs.toList)
  | v => cv0 v

def operand : Operand → ATmps → AV
  | .tmp t => fun T => ATmps.at T t
  | .const v => fun _ => cv v
  | .global g => fun _ => .gptr g 0
  | .func f => fun _ => .fn f [] []

/-! Types. -/
def szOf (P : Program) (t : TypeId) : Option Nat := Option.casesOn (P.info? t) none (fun i => some i.size)
def bytesOf (P : Program) (t : TypeId) : Option Nat := Option.casesOn (P.info? t) none (fun i => some i.bytes)
def known : AV → Option AV
  | .opq => none
  | v => some v
def zeroOf (P : Program) (t : TypeId) : Option AV := Option.casesOn (P.info? t) none (fun i => Option.casesOn i.zero none (fun v => known (cv v)))
def aggDesc : TypeDesc → Bool
  | .struct _ | .array _ _ => true
  | _ => false
def aggOf (P : Program) (t : TypeId) : Option Bool := Option.casesOn (P.underlying t) none (fun d => some (aggDesc d))
def elemD : TypeDesc → Option TypeId
  | .slice e => some e
  | _ => none
def elemOf (P : Program) (t : TypeId) : Option TypeId := Option.casesOn (P.underlying t) none elemD
/-- of a slice's type: the element, its cells, its bytes -/
def sliceInfo (P : Program) (t : TypeId) : Option (TypeId × Nat × Nat) :=
  Option.casesOn (elemOf P t) none (fun e => Option.casesOn (P.info? e) none (fun i => some (e, i.size, i.bytes)))

def cellsOf : AV → List AV
  | .agg cs => cs
  | v => [v]
def mkVal (agg : Bool) (cs : List AV) : Option AV :=
  Bool.casesOn agg (match cs with | [v] => some v | _ => none) (some (.agg cs))

/-! Memory. -/
def extOf (exts : List Nat) (cur ver : Nat) : Nat := Option.casesOn (lget exts (Nat.sub cur ver)) 0 (fun n => n)
def arrRead (cells : List AV) (low cur : Nat) (exts : List Nat) (ver off n : Nat) : Option (List AV) :=
  match Nat.ble low ver, Nat.ble ver cur, Nat.ble (Nat.add off n) (extOf exts cur ver) with
  | true, true, true => some (ltake n (ldrop off cells))
  | _, _, _ => none
def rdArr (ver off n : Nat) : AObj → Option (List AV)
  | .arr cells low cur exts => arrRead cells low cur exts ver off n
  | _ => none
def rdMem (n : Nat) : AV → AHeap → Option (List AV)
  | .ptr id ver off => fun H => Option.casesOn (H.get id) none (rdArr ver off n)
  | .vptr cells => fun _ => match Nat.ble n (llen cells) with
    | true => some (ltake n cells)
    | false => none
  | _ => fun _ => none
def wrArr (ver off : Nat) (xs : List AV) : AObj → Option AObj
  | .arr cells _ cur exts => match Nat.beq ver cur, Nat.ble (Nat.add off (llen xs)) (llen cells) with
    | true, true => some (.arr (lput cells off xs) cur cur exts)
    | _, _ => none
  | _ => none
def wrMem (xs : List AV) : AV → AHeap → Option AHeap
  | .ptr id ver off => fun H => Option.casesOn (H.get id) none (fun o => Option.casesOn (wrArr ver off xs o) none (fun o => some (H.put id o)))
  | _ => fun _ => none
def newArr (H : AHeap) (cells : List AV) : AHeap := H.new (.arr cells 0 0 [llen cells])

/-! Numbers. -/
def inR : IntKind → Int → Bool
  | .i8 => fun n => Int.casesOn n (fun m => Nat.ble m 127) (fun m => Nat.ble m 127)
  | .i16 => fun n => Int.casesOn n (fun m => Nat.ble m 32767) (fun m => Nat.ble m 32767)
  | .i32 => fun n => Int.casesOn n (fun m => Nat.ble m 2147483647) (fun m => Nat.ble m 2147483647)
  | .i64 => fun n => Int.casesOn n (fun m => Nat.ble m 9223372036854775807) (fun m => Nat.ble m 9223372036854775807)
  | .u8 => fun n => Int.casesOn n (fun m => Nat.ble m 255) (fun _ => false)
  | .u16 => fun n => Int.casesOn n (fun m => Nat.ble m 65535) (fun _ => false)
  | .u32 => fun n => Int.casesOn n (fun m => Nat.ble m 4294967295) (fun _ => false)
  | .u64 => fun n => Int.casesOn n (fun m => Nat.ble m 18446744073709551615) (fun _ => false)
def modulus : IntKind → Nat
  | .i8 | .u8 => 256
  | .i16 | .u16 => 65536
  | .i32 | .u32 => 4294967296
  | .i64 | .u64 => 18446744073709551616
/-- the number's rest, as an unsigned one -/
def low (M : Nat) : Int → Nat
  | .ofNat m => Nat.mod m M
  | .negSucc m => Nat.sub (Nat.sub M 1) (Nat.mod m M)
def signedK : IntKind → Bool
  | .i8 | .i16 | .i32 | .i64 => true
  | _ => false
def back (k : IntKind) (m : Nat) : Int :=
  match signedK k, Nat.ble (modulus k) (Nat.add m m) with
  | true, true => .negSucc (Nat.sub (Nat.sub (modulus k) 1) m)
  | _, _ => .ofNat m
def wrapF (k : IntKind) (n : Int) : Int := Bool.casesOn (inR k n) (back k (low (modulus k) n)) n

def subN (a b : Nat) : Int := match Nat.ble b a with
  | true => .ofNat (Nat.sub a b)
  | false => .negSucc (Nat.sub (Nat.sub b a) 1)
def addI : Int → Int → Int
  | .ofNat a, .ofNat b => .ofNat (Nat.add a b)
  | .ofNat a, .negSucc b => subN a (Nat.succ b)
  | .negSucc a, .ofNat b => subN b (Nat.succ a)
  | .negSucc a, .negSucc b => .negSucc (Nat.succ (Nat.add a b))
def negI : Int → Int
  | .ofNat a => subN 0 a
  | .negSucc a => .ofNat (Nat.succ a)
def mulI : Int → Int → Int
  | .ofNat a, .ofNat b => .ofNat (Nat.mul a b)
  | .ofNat a, .negSucc b => subN 0 (Nat.mul a (Nat.succ b))
  | .negSucc a, .ofNat b => subN 0 (Nat.mul (Nat.succ a) b)
  | .negSucc a, .negSucc b => .ofNat (Nat.mul (Nat.succ a) (Nat.succ b))
def ltI : Int → Int → Bool
  | .ofNat a, .ofNat b => Nat.ble (Nat.succ a) b
  | .ofNat _, .negSucc _ => false
  | .negSucc _, .ofNat _ => true
  | .negSucc a, .negSucc b => Nat.ble (Nat.succ b) a
def eqI : Int → Int → Bool
  | .ofNat a, .ofNat b => Nat.beq a b
  | .negSucc a, .negSucc b => Nat.beq a b
  | _, _ => false
def notB : Bool → Bool
  | true => false
  | false => true
def isZero : Int → Bool
  | .ofNat n => Nat.beq n 0
  | _ => false
def tdivI : Int → Int → Int
  | .ofNat a, .ofNat b => .ofNat (Nat.div a b)
  | .ofNat a, .negSucc b => subN 0 (Nat.div a (Nat.succ b))
  | .negSucc a, .ofNat b => subN 0 (Nat.div (Nat.succ a) b)
  | .negSucc a, .negSucc b => .ofNat (Nat.div (Nat.succ a) (Nat.succ b))
def absN : Int → Nat
  | .ofNat a => a
  | .negSucc a => Nat.succ a
def tmodI (a b : Int) : Int :=
  match a with
  | .ofNat a => .ofNat (Nat.mod a (absN b))
  | .negSucc a => subN 0 (Nat.mod (Nat.succ a) (absN b))
def bitsOf : IntKind → Nat
  | .i8 | .u8 => 8
  | .i16 | .u16 => 16
  | .i32 | .u32 => 32
  | .i64 | .u64 => 64
def minN (a b : Nat) : Nat := Bool.casesOn (Nat.ble a b) b a

def arith : BinOp → IntKind → Int → Int → Option AV
  | .add => fun k x y => some (.int k (wrapF k (addI x y)))
  | .sub => fun k x y => some (.int k (wrapF k (addI x (negI y))))
  | .mul => fun k x y => some (.int k (wrapF k (mulI x y)))
  | .quo => fun k x y => Bool.casesOn (isZero y) (some (.int k (wrapF k (tdivI x y)))) none
  | .rem => fun k x y => Bool.casesOn (isZero y) (some (.int k (tmodI x y))) none
  | .and => fun k x y => some (.int k (back k (Nat.land (low (modulus k) x) (low (modulus k) y))))
  | .or => fun k x y => some (.int k (back k (Nat.lor (low (modulus k) x) (low (modulus k) y))))
  | .xor => fun k x y => some (.int k (back k (Nat.xor (low (modulus k) x) (low (modulus k) y))))
  | .andNot => fun k x y => some (.int k (back k (Nat.land (low (modulus k) x) (Nat.sub (Nat.sub (modulus k) 1) (low (modulus k) y)))))
  | .eql => fun _ x y => some (.bool (eqI x y))
  | .neq => fun _ x y => some (.bool (notB (eqI x y)))
  | .lss => fun _ x y => some (.bool (ltI x y))
  | .leq => fun _ x y => some (.bool (notB (ltI y x)))
  | .gtr => fun _ x y => some (.bool (ltI y x))
  | .geq => fun _ x y => some (.bool (notB (ltI x y)))
  | _ => fun _ _ _ => none
def shlF (k : IntKind) (x y : Int) : Option AV :=
  match y with
  | .ofNat n => some (.int k (wrapF k (mulI x (.ofNat (Nat.pow 2 (minN n (bitsOf k)))))))
  | .negSucc _ => none
def shrF (k : IntKind) (x y : Int) : Option AV :=
  match y with
  | .ofNat n => match x with
    | .ofNat m => some (.int k (.ofNat (Nat.div m (Nat.pow 2 (minN n (bitsOf k))))))
    | .negSucc m => some (.int k (.negSucc (Nat.div m (Nat.pow 2 (minN n (bitsOf k))))))
  | .negSucc _ => none

/-! Texts. -/
def strEq (a : List Nat) : List Nat → Bool :=
  listRec (fun b => List.casesOn b true (fun _ _ => false)) (fun x _ r b => List.casesOn b false (fun y b => Bool.casesOn (Nat.beq x y) false (r b))) a
def strLt (a : List Nat) : List Nat → Bool :=
  listRec (fun b => List.casesOn b false (fun _ _ => true))
    (fun x _ r b => List.casesOn b false (fun y b => Bool.casesOn (Nat.ble (Nat.succ x) y) (Bool.casesOn (Nat.beq x y) false (r b)) true)) a
def maxStr : Nat := 4611686018427387904
def strOp : BinOp → List Nat → List Nat → Option AV
  | .add => fun x y => Bool.casesOn (Nat.ble (Nat.add (llen x) (llen y)) maxStr) none (some (.str (lapp x y)))
  | .eql => fun x y => some (.bool (strEq x y))
  | .neq => fun x y => some (.bool (notB (strEq x y)))
  | .lss => fun x y => some (.bool (strLt x y))
  | .leq => fun x y => some (.bool (notB (strLt y x)))
  | .gtr => fun x y => some (.bool (strLt y x))
  | .geq => fun x y => some (.bool (notB (strLt x y)))
  | _ => fun _ _ => none

/-- Flat values, of a kind: no memory behind them. -/
def flatEq1 : TypeDesc → AV → AV → Option Bool
  | .int k => fun x y => match x, y with
    | .int a m, .int b n => match decEq k a, decEq k b with
      | isTrue _, isTrue _ => some (eqI m n)
      | _, _ => none
    | _, _ => none
  | .bool => fun x y => match x, y with
    | .bool a, .bool b => some (match a with | true => b | false => notB b)
    | _, _ => none
  | .string => fun x y => match x, y with
    | .str a, .str b => some (strEq a b)
    | _, _ => none
  | _ => fun _ _ => none
def flatEqL (ks : List TypeDesc) : List AV → List AV → Option Bool :=
  listRec (fun a b => match a, b with
      | [], [] => some true
      | _, _ => none)
    (fun k _ r a b => match a, b with
      | x :: a, y :: b => match flatEq1 k x y, r a b with
        | some e, some f => some (Bool.casesOn e false f)
        | _, _ => none
      | _, _ => none) ks

/-- A type whose values are flat: whole numbers, bools, texts, structs of those whose fields lie one behind the other; its cells are told by their kinds. -/
def flatK (P : Program) (d : Nat) : TypeId → Option (List TypeDesc) :=
  natRec (fun _ => none) (fun _ r t =>
    match P.underlying t with
    | some .bool => some [.bool]
    | some (.int k) => some [.int k]
    | some .string => some [.string]
    | some (.struct fs) => match P.stoodInHeld t with
      | true => none
      | false => listRec (some []) (fun (f : Field) _ acc => match acc with
          | none => none
          | some acc => match r f.type, (P.info? f.type) with
            | some l, some i => match f.name == "_", Nat.beq f.offset (llen acc), Nat.beq i.size (llen l) with
              | false, true, true => some (lapp acc l)
              | _, _, _ => none
            | _, _ => none) fs.toList.reverse
    | _ => none) d

/-- a value beside nil -/
def eqNil : TypeDesc → AV → AV → Option Bool
  | .pointer _ => fun a b => match a, b with
    | .nilp, .nilp => some true
    | .nilp, .ptr .. | .ptr .., .nilp | .nilp, .vptr _ | .vptr _, .nilp | .nilp, .gptr .. | .gptr .., .nilp => some false
    | _, _ => none
  | .slice _ => fun a b => match a, b with
    | .nils, .nils => some true
    | .nils, .sl .. | .sl .., .nils | .nils, .vsl .. | .vsl .., .nils => some false
    | _, _ => none
  | .map .. => fun a b => match a, b with
    | .nilm, .nilm => some true
    | .nilm, .map _ | .map _, .nilm => some false
    | _, _ => none
  | .func .. => fun a b => match a, b with
    | .nilf, .nilf => some true
    | .nilf, .fn .. | .fn .., .nilf => some false
    | _, _ => none
  | .interface _ => fun a b => match a, b with
    | .nili, .iface .. | .iface .., .nili => some false
    | _, _ => none
  | _ => fun _ _ => none

end
end Go.Proofs.Ytcjfjfhggfcnfaa.Am
