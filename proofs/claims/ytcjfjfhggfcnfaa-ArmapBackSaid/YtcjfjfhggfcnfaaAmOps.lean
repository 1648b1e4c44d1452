/- The abstract machine's operations and code. Definitions alone. -/
import Derived.Test.YtcjfjfhggfcnfaaAmDefs
set_option linter.unusedSimpArgs false
set_option linter.unusedVariables false
namespace Go.Proofs.Ytcjfjfhggfcnfaa.Am
open Go

noncomputable section

/-- what an operation that isn't a call tells: its value, the heap behind it -/
abbrev Res := Option (AV × AHeap)
def pureR (v : AV) (H : AHeap) : Res := some (v, H)
def pureO (v : Option AV) (H : AHeap) : Res := Option.casesOn v none (fun v => some (v, H))

def oNew (cells : List AV) (H : AHeap) : Res := some (.ptr H.next 0 0, newArr H cells)
def oBox (v : AV) (H : AHeap) : Res := Option.casesOn (known v) none (fun v => oNew (cellsOf v) H)

def oPick : AV → AV → AV → AHeap → Res
  | .bool c => fun a b H => some (Bool.casesOn c b a, H)
  | _ => fun _ _ _ => none
def oAlloc (P : Program) (t : TypeId) (H : AHeap) : Res := Option.casesOn (zeroOf P t) none (fun z => oNew (cellsOf z) H)

/-- parts of a struct or an array laid over a template -/
def fillA (place : Nat → Option (Nat × Nat)) (parts : List (Nat × AV)) (cells : List AV) : Option (List AV) :=
  listRec (fun cs => some cs) (fun (p : Nat × AV) _ r cs => match place p.1 with
    | none => none
    | some (off, size) => match known p.2 with
      | none => none
      | some _ => match Nat.beq (llen (cellsOf p.2)) size, Nat.ble (Nat.add off size) (llen cs) with
        | true, true => r (lput cs off (cellsOf p.2))
        | _, _ => none) parts cells
def fieldPlaces (P : Program) (fs : Array Field) (i : Nat) : Option (Nat × Nat) :=
  match fs[i]? with
  | none => none
  | some f => match szOf P f.type with
    | none => none
    | some n => some (f.offset, n)
def sizesOk (P : Program) (fs : Array Field) : Bool := lall (fun (f : Field) => Option.casesOn (szOf P f.type) false (fun _ => true)) fs.toList
def buildA (P : Program) (t : TypeId) (parts : List (Nat × AV)) : Option AV :=
  match zeroOf P t, P.underlying t with
  | some z, some (.struct fs) => match sizesOk P fs, fillA (fieldPlaces P fs) parts (cellsOf z) with
    | true, some cs => some (.agg cs)
    | _, _ => none
  | some z, some (.array _ e) => match szOf P e with
    | none => none
    | some n => match fillA (fun i => some (Nat.mul i n, n)) parts (cellsOf z) with
      | some cs => some (.agg cs)
      | none => none
  | _, _ => none
def oBuildSlice (P : Program) (t : TypeId) (len : Nat) (parts : List (Nat × AV)) (imm : Bool) (H : AHeap) : Res :=
  match sliceInfo P t with
  | none => none
  | some (e, n, _) => match zeroOf P e, Nat.ble 1 n, Nat.ble (Nat.mul len n) 16777216 with
    | some z, true, true => match Nat.beq (llen (cellsOf z)) n, fillA (fun i => some (Nat.mul i n, n)) parts (lcopies len (cellsOf z)) with
      | true, some cs => Bool.casesOn imm (some (.sl H.next 0 0 len n (some len), newArr H cs)) (some (.vsl cs len true true, H))
      | _, _ => none
    | _, _, _ => none

def oLoad (P : Program) (t : TypeId) (a : AV) (H : AHeap) : Res :=
  match aggOf P t with
  | none => none
  | some true => match szOf P t with
    | none => none
    | some n => match rdMem n a H with
      | some cs => some (.agg cs, H)
      | none => none
  | some false => match rdMem 1 a H with
    | some [v] => some (v, H)
    | _ => none
/-- nothing that a cell can't hold: no struct, no several results -/
def oneCell : AV → Bool
  | .agg _ | .tup _ | .opq => false
  | _ => true
def oStore (P : Program) (t : TypeId) (a v : AV) (H : AHeap) : Res :=
  match szOf P t with
  | none => none
  | some n => match Nat.beq (llen (cellsOf v)) n, lall oneCell (cellsOf v) with
    | true, true => match wrMem (cellsOf v) a H with
      | some H => some (.tup [], H)
      | none => none
    | _, _ => none
def oNilCheck : AV → AHeap → Res
  | .ptr id ver off => fun H => some (.ptr id ver off, H)
  | .vptr cs => fun H => some (.vptr cs, H)
  | .gptr g off => fun H => some (.gptr g off, H)
  | .fn f a b => fun H => some (.fn f a b, H)
  | .iface t v => fun H => some (.iface t v, H)
  | _ => fun _ => none

def isConst : Operand → Bool
  | .const _ => true
  | _ => false
def eqA (P : Program) (t : TypeId) (x y : Operand) (a b : AV) : Option Bool :=
  match a, b with
  | .bool _, .bool _ => match P.underlying t with
    | some .bool => flatEq1 .bool a b
    | _ => none
  | .agg cs, .agg ds => match P.eqGuardType P.depth t, aggOf P t, flatK P 20 t with
    | false, some true, some ks => flatEqL ks cs ds
    | _, _, _ => none
  | .nili, .nili => match isConst x, isConst y with
    | false, false => none
    | _, _ => match P.underlying t with
      | some (.interface _) => some true
      | _ => none
  | _, _ => match P.underlying t with
    | some d => eqNil d a b
    | none => none
def binA (P : Program) (op : BinOp) (t : TypeId) (x y : Operand) (a b : AV) : Option AV :=
  match op, a, b with
  | .shl, .int k m, .int _ n => shlF k m n
  | .shr, .int k m, .int _ n => shrF k m n
  | op, .int k m, .int k' n => match decEq k k' with
    | isTrue _ => arith op k m n
    | isFalse _ => none
  | op, .str s, .str r => strOp op s r
  | .eql, a, b => Option.casesOn (eqA P t x y a b) none (fun e => some (.bool e))
  | .neq, a, b => Option.casesOn (eqA P t x y a b) none (fun e => some (.bool (notB e)))
  | _, _, _ => none
def unA : UnOp → AV → Option AV
  | .neg => fun | .int k n => some (.int k (wrapF k (addI (.ofNat 0) (negI n))))
                | _ => none
  | .xor => fun | .int k n => some (.int k (back k (Nat.sub (Nat.sub (modulus k) 1) (low (modulus k) n))))
                | _ => none
  | .not => fun | .bool b => some (.bool (notB b))
                | _ => none
  | _ => fun _ => none

/-- an element's cells out of a slice: so many elements from its begin on -/
def slCells (n esz : Nat) : AV → AHeap → Option (List AV)
  | .nils => fun _ => Nat.casesOn n (some []) (fun _ => none)
  | .sl id ver off len esz' _ => fun H => match Nat.beq esz esz', Nat.ble n len with
    | true, true => Option.casesOn (H.get id) none (rdArr ver off (Nat.mul n esz))
    | _, _ => none
  | .vsl cells len _ _ => fun _ => match Nat.ble n len, Nat.ble (Nat.mul n esz) (llen cells) with
    | true, true => some (ltake (Nat.mul n esz) cells)
    | _, _ => none
  | .str s => fun _ => match Nat.beq esz 1, Nat.ble n (llen s) with
    | true, true => some (lmap (fun b => .int .u8 (.ofNat b)) (ltake n s))
    | _, _ => none
  | _ => fun _ => none
def slLen : AV → Option Nat
  | .nils => some 0
  | .sl _ _ _ len _ _ => some len
  | .vsl _ len _ _ => some len
  | .str s => some (llen s)
  | _ => none
def byteOfA : AV → Option Nat
  | .int .u8 (.ofNat n) => Bool.casesOn (Nat.ble n 255) none (some n)
  | _ => none

def convA (imm : Bool) (P : Program) (src dst : TypeId) (x : AV) (H : AHeap) : Res :=
  match P.underlying src, P.underlying dst, x with
  | some _, some (.int k), .int _ n => some (.int k (wrapF k n), H)
  | some _, some .string, .str s => some (.str s, H)
  | some _, some (.slice e), .str s => match P.underlying e with
    | some (.int .u8) => Bool.casesOn imm (some (.sl H.next 0 0 (llen s) 1 none, newArr H (lmap (fun b => .int .u8 (.ofNat b)) s))) (some (.vsl (lmap (fun b => .int .u8 (.ofNat b)) s) (llen s) false true, H))
    | _ => none
  | some (.slice _), some (.slice e), x => match Nat.beq src dst, P.underlying e, x with
    | true, some (.int .u8), .sl id ver off len esz cap => some (.sl id ver off len esz cap, H)
    | true, some (.int .u8), .vsl cells len capped true => some (.vsl cells len capped true, H)
    | _, _, _ => none
  | some (.slice e), some .string, x => match P.underlying e, slLen x with
    | some (.int .u8), some n => match x with
      | .str _ => none
      | _ => match slCells n 1 x H with
        | none => none
        | some cs => match omap byteOfA cs with
          | some s => some (.str s, H)
          | none => none
    | _, _ => none
  | _, _, _ => none

def natOfA : AV → Option Nat
  | .int _ (.ofNat n) => some n
  | _ => none
/-- a bound of a slice: what is given, or d -/
def boundA (d : Nat) : Option AV → Option Nat
  | none => some d
  | some v => natOfA v
def sliceA (P : Program) (t : TypeId) (x : AV) (lo hi mx : Option AV) : Option AV :=
  match P.underlying t, x with
  | some .string, .str s => match mx, boundA 0 lo, boundA (llen s) hi with
    | none, some l, some h => match Nat.ble l h, Nat.ble h (llen s) with
      | true, true => some (.str (ltake (Nat.sub h l) (ldrop l s)))
      | _, _ => none
    | _, _, _ => none
  | some (.slice e), .nils => match boundA 0 lo, boundA 0 hi, boundA 0 mx, szOf P e with
    | some 0, some 0, some 0, some _ => match hi, mx with
      | none, some _ => none
      | _, _ => some .nils
    | _, _, _, _ => none
  | some (.slice e), .sl id ver off len esz cap => match szOf P e, boundA 0 lo, boundA len hi, boundA len mx with
    | some n, some l, some h, some m => match Nat.beq n esz, Nat.ble l h, Nat.ble h len, Nat.ble m len, Nat.ble h m with
      | true, true, true, true, true => match mx, hi with
        | some _, none => none
        | some _, some _ => some (.sl id ver (Nat.add off (Nat.mul l esz)) (Nat.sub h l) esz (some (Nat.sub m l)))
        | none, _ => some (.sl id ver (Nat.add off (Nat.mul l esz)) (Nat.sub h l) esz (Option.casesOn cap none (fun c => some (Nat.sub c l))))
      | _, _, _, _, _ => none
    | _, _, _, _ => none
  | some (.slice e), .vsl cells len capped fresh => match szOf P e, boundA 0 lo, boundA len hi, boundA len mx with
    | some n, some l, some h, some m => match Nat.ble l h, Nat.ble h len, Nat.ble m len, Nat.ble h m, Nat.beq (llen cells) (Nat.mul len n) with
      | true, true, true, true, true => match mx, hi with
        | some _, none => none
        | some _, some _ => some (.vsl (ltake (Nat.mul (Nat.sub h l) n) (ldrop (Nat.mul l n) cells)) (Nat.sub h l) (Nat.beq h m) fresh)
        | none, _ => some (.vsl (ltake (Nat.mul (Nat.sub h l) n) (ldrop (Nat.mul l n) cells)) (Nat.sub h l) (Bool.casesOn capped false (Nat.beq h len)) fresh)
      | _, _, _, _, _ => none
    | _, _, _, _ => none
  | _, _ => none

def moveA (n : Nat) : AV → Option AV
  | .ptr id ver off => some (.ptr id ver (Nat.add off n))
  | .vptr cells => match Nat.ble n (llen cells) with
    | true => some (.vptr (ldrop n cells))
    | false => none
  | .gptr g off => some (.gptr g (Nat.add off n))
  | _ => none
def fieldAddrA (P : Program) (s : TypeId) (x : AV) (f : Nat) : Option AV :=
  match P.underlying s with
  | some (.struct fs) => match fs[f]? with
    | some fl => match szOf P fl.type with
      | some (_ + 1) => moveA fl.offset x
      | _ => none
    | none => none
  | _ => none
def partA (P : Program) (t : TypeId) (cs : List AV) (off : Nat) : Option AV :=
  match aggOf P t with
  | some true => match szOf P t with
    | some n => match Nat.ble (Nat.add off n) (llen cs) with
      | true => some (.agg (ltake n (ldrop off cs)))
      | false => none
    | none => none
  | some false => lget cs off
  | none => none
def fieldA (P : Program) (t : TypeId) (x : AV) (f : Nat) : Option AV :=
  match P.underlying t, x with
  | some (.struct fs), .agg cs => match fs[f]? with
    | some fl => partA P fl.type cs fl.offset
    | none => none
  | _, _ => none
def indexAddrA (P : Program) (t : TypeId) (x i : AV) : Option AV :=
  match P.underlying t, natOfA i with
  | some (.slice e), some i => match szOf P e, x with
    | some n, .sl id ver off len esz _ => match Nat.beq n esz, Nat.ble (Nat.succ i) len with
      | true, true => some (.ptr id ver (Nat.add off (Nat.mul i esz)))
      | _, _ => none
    | some n, .vsl cells len _ _ => match Nat.ble (Nat.succ i) len with
      | true => some (.vptr (ldrop (Nat.mul i n) cells))
      | false => none
    | _, _ => none
  | some (.array len e), some i => match szOf P e, Nat.ble (Nat.succ i) len with
    | some n, true => moveA (Nat.mul i n) x
    | _, _ => none
  | _, _ => none
def indexA (P : Program) (t : TypeId) (x i : AV) : Option AV :=
  match P.underlying t, x, natOfA i with
  | some (.array len e), .agg cs, some i => match szOf P e, Nat.ble (Nat.succ i) len with
    | some n, true => partA P e cs (Nat.mul i n)
    | _, _ => none
  | some .string, .str s, some i => match lget s i with
    | some b => some (.int .u8 (.ofNat b))
    | none => none
  | _, _, _ => none

/-! Maps: keys are flat. -/
def keyEq (ks : List TypeDesc) : AV → AV → Option Bool
  | .agg a => fun y => match y with
    | .agg b => flatEqL ks a b
    | _ => none
  | x => fun y => match y with
    | .agg _ => none
    | y => flatEqL ks [x] [y]
/-- a key is of its type's kinds -/
def keyOk (P : Program) (t : TypeId) (k : AV) (ks : List TypeDesc) : Bool :=
  match aggOf P t, k, keyEq ks k k with
  | some true, .agg _, some _ => true
  | some true, _, _ => false
  | some false, .agg _, _ => false
  | some false, _, some _ => true
  | _, _, _ => false
def findA (ks : List TypeDesc) (k : AV) (es : List AEntry) : Option (Option (Nat × AEntry)) :=
  listRec (β := Nat → Option (Option (Nat × AEntry))) (fun _ => some none) (fun e _ r i => match keyEq ks k e.key with
    | some true => some (some (i, e))
    | some false => r (Nat.succ i)
    | none => none) es 0
/-- of a map's type: its key's, what kinds that has, its element's -/
def mapTypes (P : Program) (t : TypeId) : Option (TypeId × List TypeDesc × TypeId) :=
  match P.underlying t with
  | some (.map k e) => match flatK P 20 k with
    | some ks => some (k, ks, e)
    | none => none
  | _ => none
def entriesA : AV → AHeap → Option (List AEntry × Nat)
  | .map id => fun H => match H.get id with
    | some (.map es clock) => some (es, clock)
    | _ => none
  | _ => fun _ => none
def oLookup (P : Program) (t : TypeId) (m k : AV) (ok : Bool) (H : AHeap) : Res :=
  match mapTypes P t with
  | none => none
  | some (kt, ks, et) => match keyOk P kt k ks, zeroOf P et with
    | true, some z => match (match m with
        | .nilm => some none
        | m => match entriesA m H with
          | some (es, _) => findA ks k es
          | none => none) with
      | some (some (_, e)) => some (Bool.casesOn ok e.val (.tup [e.val, .bool true]), H)
      | some none => some (Bool.casesOn ok z (.tup [z, .bool false]), H)
      | none => none
    | _, _ => none
def oMapUpdate (P : Program) (t : TypeId) (m k v : AV) (H : AHeap) : Res :=
  match mapTypes P t, m with
  | some (kt, ks, _), .map id => match keyOk P kt k ks, entriesA m H with
    | true, some (es, clock) => match findA ks k es with
      | some (some (i, e)) => some (.tup [], H.put id (.map (lset es { key := k, val := v, born := e.born } i) clock))
      | some none => some (.tup [], H.put id (.map (lapp es [{ key := k, val := v, born := clock }]) (Nat.succ clock)))
      | none => none
    | _, _ => none
  | _, _ => none
def oMapEntry (P : Program) (t : TypeId) (m k : AV) (H : AHeap) : Res :=
  match mapTypes P t, m with
  | some (kt, ks, et), .map id => match keyOk P kt k ks, entriesA m H, zeroOf P et with
    | true, some (es, clock), some z => match findA ks k es with
      | some (some (i, e)) => some (.tup [e.val, .int .i64 (.ofNat e.born)], H.put id (.map (lset es { key := k, val := e.val, born := e.born } i) clock))
      | some none => some (.tup [z, .int .i64 (.ofNat clock)], H.put id (.map (lapp es [{ key := k, val := z, born := clock }]) (Nat.succ clock)))
      | none => none
    | _, _, _ => none
  | _, _ => none
def findBorn (n : Nat) (es : List AEntry) : Option (Nat × AEntry) :=
  listRec (β := Nat → Option (Nat × AEntry)) (fun _ => none) (fun e _ r i => match Nat.beq e.born n with
    | true => some (i, e)
    | false => r (Nat.succ i)) es 0
def oEntryStore (m s v : AV) (H : AHeap) : Res :=
  match m, s with
  | .map id, .int _ (.ofNat n) => match entriesA m H with
    | some (es, clock) => match findBorn n es with
      | some (i, e) => some (.tup [], H.put id (.map (lset es { key := e.key, val := v, born := e.born } i) clock))
      | none => none
    | none => none
  | _, _ => none

def extractA (i : Nat) : AV → Option AV
  | .tup vs => lget vs i
  | _ => none
def oMakeSlice (P : Program) (t : TypeId) (l c : AV) (H : AHeap) : Res :=
  match sliceInfo P t, natOfA l, natOfA c with
  | some (e, n, b), some l, some c => match Nat.ble l c, Nat.ble (Nat.mul b c) 70368744177664, Nat.ble c 70368744177664, zeroOf P e, Nat.ble 1 n with
    | true, true, true, some z, true => match Nat.beq (llen (cellsOf z)) n with
      | true => some (.sl H.next 0 0 l n (some c), newArr H (lcopies l (cellsOf z)))
      | false => none
    | _, _, _, _, _ => none
  | _, _, _ => none
def oMakeMap (P : Program) (t : TypeId) (r : Option AV) (H : AHeap) : Res :=
  match r with
  | none => some (.map H.next, H.new (.map [] 0))
  | some v => match mapTypes P t, v with
    | some _, .int _ _ => some (.map H.next, H.new (.map [] 0))
    | _, _ => none
def makeFuncA (f : Fn) (first captured : List AV) : Option AV :=
  match f with
  | .func f => some (.fn f first captured)
  | _ => none
def makeIfaceA (P : Program) (t : TypeId) (v : AV) : Option AV :=
  match P.underlying t with
  | some (.interface _) => none
  | some _ => some (.iface t v)
  | none => none

/-! Builtins. -/
def lenA (P : Program) (H : AHeap) : List TypeId → List AV → Option AV
  | t :: _, v :: _ => match P.underlying t, v with
    | some .string, .str s => some (.int .i64 (.ofNat (llen s)))
    | some (.slice _), .nils => some (.int .i64 (.ofNat 0))
    | some (.slice _), .sl _ _ _ len _ _ => some (.int .i64 (.ofNat len))
    | some (.slice _), .vsl _ len _ _ => some (.int .i64 (.ofNat len))
    | some (.map _ _), .nilm => some (.int .i64 (.ofNat 0))
    | some (.map _ _), .map id => match entriesA (.map id) H with
      | some (es, _) => some (.int .i64 (.ofNat (llen es)))
      | none => none
    | some (.array n _), _ => some (.int .i64 (.ofNat n))
    | _, _ => none
  | _, _ => none
def mm (big : Bool) : AV → AV → Option AV
  | .int k x, .int k' y => match decEq k k' with
    | isTrue _ => some (.int k (match big, ltI x y, ltI y x with
      | true, true, _ => y
      | false, _, true => y
      | _, _, _ => x))
    | isFalse _ => none
  | _, _ => none
def mmA (big : Bool) : List AV → Option AV
  | [] => none
  | x :: l => listRec (fun x => some x) (fun y _ r x => match mm big x y with
    | some z => r z
    | none => none) l x
/-- an append's room: so many elements of so many bytes -/
def roomA (need bytes : Nat) : Bool := Bool.casesOn (Nat.ble need 70368744177664) false (Nat.ble (Nat.mul (Nat.add (Nat.add need need) 1024) bytes) 281474976710656)
def growFam (xs : List AV) (n len : Nat) : AV → AHeap → AObj → Res
  | .sl id ver off _ esz cap => fun H o => match o with
    | .arr cells low cur exts => match Nat.beq ver cur, Nat.beq (Nat.add off (Nat.mul len esz)) (llen cells), (match cap with | none => Nat.beq off 0 | some _ => true) with
      | true, true, true => some (.sl id (Nat.succ cur) off (Nat.add len n) esz cap, H.put id (.arr (lapp cells xs) low (Nat.succ cur) (Nat.add (Nat.add off (Nat.mul len esz)) (llen xs) :: exts)))
      | _, _, _ => none
    | _ => none
  | _ => fun _ _ => none
/-- the second argument's type is no number's -/
def notZeros (P : Program) (ts : List TypeId) : Bool := match ts with
  | [] => true
  | u :: _ => match P.underlying u with
    | some (.int _) => false
    | some _ => true
    | none => false
def freshFam (cells : List AV) (len esz : Nat) (H : AHeap) : Res := some (.sl H.next 0 0 len esz none, newArr H cells)
/-- xs, of n elements, behind a slice of len -/
def putOn (len n esz : Nat) (xs : List AV) (s : AV) (H : AHeap) : Res :=
  match lall oneCell xs with
  | false => none
  | true => match s with
    | .nils => freshFam xs n esz H
    | .vsl cells l capped _ => match capped, Nat.beq (llen cells) (Nat.mul l esz) with
      | true, true => freshFam (lapp cells xs) (Nat.add len n) esz H
      | _, _ => none
    | .sl id _ _ _ esz' cap => match Nat.beq esz esz' with
      | false => none
      | true => match cap with
        | some c => match Nat.ble (Nat.add len n) c with
          | true => Option.casesOn (H.get id) none (growFam xs n len s H)
          | false => match slCells len esz s H with
            | some old => freshFam (lapp old xs) (Nat.add len n) esz H
            | none => none
        | none => Option.casesOn (H.get id) none (growFam xs n len s H)
    | _ => none
def zerosT (P : Program) (ts : List TypeId) : Bool := match ts with
  | [] => false
  | u :: _ => match P.underlying u with
    | some (.int _) => true
    | _ => false
def madeN : AV → Option Nat
  | .int _ (.ofNat n) => some n
  | _ => none
def isStrA : AV → Bool
  | .str _ => true
  | _ => false
def appendA (P : Program) (H : AHeap) (ts : List TypeId) (args : List AV) : Res :=
  match ts, args with
  | t :: ts, s :: x :: _ => match sliceInfo P t, slLen s, isStrA s with
    | some (el, esz, bytes), some len, false => match notZeros P ts with
      | true => match slLen x with
        | none => none
        | some n => match Nat.beq n 0, Nat.ble 1 esz, roomA (Nat.add len n) bytes, zeroOf P el with
          | true, true, _, _ => some (s, H)
          | false, true, true, some z => match Nat.beq (llen (cellsOf z)) esz, slCells n esz x H with
            | true, some xs => putOn len n esz xs s H
            | _, _ => none
          | _, _, _, _ => none
      | false => match zerosT P ts, madeN x with
        | true, some n => match Nat.beq n 0, Nat.ble 1 esz, roomA (Nat.add len n) bytes, zeroOf P el with
          | false, true, true, some z => match Nat.beq (llen (cellsOf z)) esz with
            | true => putOn len n esz (lcopies n (cellsOf z)) s H
            | false => none
          | _, _, _, _ => none
        | _, _ => none
    | _, _, _ => none
  | _, _ => none
def copyA (P : Program) (H : AHeap) (ts : List TypeId) (args : List AV) : Res :=
  match ts, args with
  | t :: _, d :: x :: _ => match sliceInfo P t, slLen d, slLen x with
    | some (_, esz, _), some len, some n => match d with
      | .str _ => none
      | _ => match slCells (minN n len) esz x H with
        | none => none
        | some xs => match d with
          | .nils => some (.int .i64 (.ofNat 0), H)
          | .sl id ver off _ esz' _ => match Nat.beq esz esz', lall oneCell xs, wrMem xs (.ptr id ver off) H with
            | true, true, some H => some (.int .i64 (.ofNat (minN n len)), H)
            | _, _, _ => none
          | _ => none
    | _, _, _ => none
  | _, _ => none
def builtinA (P : Program) (H : AHeap) : Builtin → List TypeId → List AV → Res
  | .len => fun ts vs => pureO (lenA P H ts vs) H
  | .append => appendA P H
  | .copy => copyA P H
  | .max => fun _ vs => pureO (mmA true vs) H
  | .min => fun _ vs => pureO (mmA false vs) H
  | _ => fun _ _ => none

/-! Ranging over texts: plain letters alone. -/
def oRange (P : Program) (t : TypeId) (x : AV) (H : AHeap) : Res :=
  match P.underlying t, x with
  | some .string, .str s => some (.ptr H.next 0 0, H.new (.iter s 0))
  | _, _ => none
def nextIter (id : Nat) (H : AHeap) : AObj → Res
  | .iter s pos => match lget s pos with
    | some c => match Nat.ble c 127 with
      | true => some (.tup [.bool true, .int .i64 (.ofNat pos), .int .i32 (.ofNat c)], H.put id (.iter s (Nat.succ pos)))
      | false => none
    | none => some (.tup [.bool false], H)
  | _ => none
def oNext (it : AV) (isString : Bool) (H : AHeap) : Res :=
  match it, isString with
  | .ptr id ver off, true => match Nat.beq ver 0, Nat.beq off 0 with
    | true, true => Option.casesOn (H.get id) none (nextIter id H)
    | _, _ => none
  | _, _ => none

/-! Freezing: what a value holds, without memory behind it. -/
def isRef : AV → Bool
  | .ptr .. | .sl .. | .map _ => true
  | _ => false
/-- no number of a block anywhere in it (to a depth) -/
def noRefs (d : Nat) : AV → Bool :=
  natRec (fun _ => false) (fun _ r v => match v with
    | .ptr .. | .sl .. | .map _ => false
    | .agg cs | .tup cs | .vptr cs => lall r cs
    | .vsl cs _ _ _ => lall r cs
    | .fn _ a b => match lall r a with
      | true => lall r b
      | false => false
    | .iface _ v => r v
    | _ => true) d
def freeze (d : Nat) (H : AHeap) : AV → Option AV :=
  natRec (fun _ => none) (fun _ r v => match v with
    | .ptr .. | .map _ => none
    | .agg cs => Option.casesOn (omap r cs) none (fun cs => some (.agg cs))
    | .tup cs => Option.casesOn (omap r cs) none (fun cs => some (.tup cs))
    | .vptr cs => Option.casesOn (omap r cs) none (fun cs => some (.vptr cs))
    | .vsl cs n c f => Option.casesOn (omap r cs) none (fun cs => some (.vsl cs n c f))
    | .fn f a b => match omap r a, omap r b with
      | some a, some b => some (.fn f a b)
      | _, _ => none
    | .iface t v => Option.casesOn (r v) none (fun v => some (.iface t v))
    | .sl id ver off len esz cap => match slCells len esz (.sl id ver off len esz cap) H with
      | none => none
      | some cs => Option.casesOn (omap r cs) none (fun cs => some (.vsl cs len (match cap with
        | none => false
        | some c => Nat.beq c len) true))
    | v => some v) d
/-- numbers, bools, texts, and structs of those alone -/
def plainA (d : Nat) : AV → Bool :=
  natRec (fun _ => false) (fun _ r v => match v with
    | .int .. | .bool _ | .str _ => true
    | .agg cs | .tup cs => lall r cs
    | _ => false) d
end
end Go.Proofs.Ytcjfjfhggfcnfaa.Am
