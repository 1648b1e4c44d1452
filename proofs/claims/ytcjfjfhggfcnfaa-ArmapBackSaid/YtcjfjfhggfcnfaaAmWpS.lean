/- The logic's rules, marked for the simplifier. -/
import Derived.Test.YtcjfjfhggfcnfaaAmWpC
set_option linter.unusedSimpArgs false
set_option linter.unusedVariables false
namespace Go.Proofs.Ytcjfjfhggfcnfaa.Am
open Go
variable {cfg : Cfg} {P : Program}

attribute [simp] seqW_exit seqW_ret seqW_pan blkW_normal blkW_exit blkW_ret blkW_pan
attribute [simp] againW_normal againW_exit againW_ret againW_pan endW_ret1 endW_normal1 endW_ret2 endW_ret3 endW_pan
attribute [simp] gv_true gv_false gv_tup putA_some putA_none operand_tmp operand_const operand_func operand_global argsA_eq partsA_eq ATmps.at_set ATmps.at_leaf

/-! Where the simplifier looks: never into what comes behind. -/
@[simp] theorem sames_nil {op : Op} {T : ATmps} {v : AV} : sames cfg P op T v [] = True := rfl
@[simp] theorem agains_nil {n : Nat} {H : AHeap} : agains cfg P n H [] = True := rfl
/-! Whatever arithmetic tells. -/
theorem nble_t {a b : Nat} (h : a ≤ b) : Nat.ble a b = true := by rw [nble]; exact decide_eq_true h
theorem nble_f {a b : Nat} (h : b < a) : Nat.ble a b = false := by rw [nble]; exact decide_eq_false (by omega)
theorem nbeq_t {a b : Nat} (h : a = b) : Nat.beq a b = true := by rw [nbeq]; exact decide_eq_true h
theorem nbeq_f {a b : Nat} (h : a ≠ b) : Nat.beq a b = false := by rw [nbeq]; exact decide_eq_false h
theorem get_put_same {H : AHeap} {o : AObj} {j k : Nat} (h : j = k) : (H.put k o).get j = some o := by rw [AHeap.get_put, if_pos h]
theorem get_put_other {H : AHeap} {o : AObj} {j k : Nat} (h : j ≠ k) : (H.put k o).get j = H.get j := by rw [AHeap.get_put, if_neg h]
theorem get_new_same {H : AHeap} {o : AObj} {j : Nat} (h : j = H.next) : (H.new o).get j = some o := by rw [AHeap.get_new, if_pos h]
theorem get_new_other {H : AHeap} {o : AObj} {j : Nat} (h : j ≠ H.next) : (H.new o).get j = H.get j := by rw [AHeap.get_new, if_neg h]
theorem next_put {H : AHeap} {o : AObj} {k : Nat} : (H.put k o).next = H.next := rfl
theorem next_new {H : AHeap} {o : AObj} : (H.new o).next = H.next + 1 := rfl
attribute [simp] nble_t nble_f nbeq_t nbeq_f get_put_same get_put_other get_new_same get_new_other next_put next_new
attribute [simp] natOf_cast natOf_lit

@[simp] theorem cv_int {k : IntKind} {n : Int} : cv (.int k n) = .int k n := rfl
@[simp] theorem cv_bool {b : Bool} : cv (.bool b) = .bool b := rfl
@[simp] theorem cv_slice : cv (.slice none 0 0) = .nils := rfl
@[simp] theorem cv_map : cv (.map none) = .nilm := rfl
@[simp] theorem cv_ptr : cv (.pointer none) = .nilp := rfl
@[simp] theorem cv_nilFunc : cv .nilFunc = .nilf := rfl
@[simp] theorem cv_nilIface : cv .nilIface = .nili := rfl
theorem cv_str {l : List UInt8} : cv (.string (ByteArray.mk (List.toArray l))) = .str (l.map UInt8.toNat) := by
  show AV.str (lmap UInt8.toNat (List.toArray l).toList) = _
  rw [lmap_eq]
attribute [simp] cv_str
@[simp] theorem oPick_bool {c : Bool} {a b : AV} {H : AHeap} : oPick (.bool c) a b H = some (if c then a else b, H) := by cases c <;> rfl
@[simp] theorem ite_bool {c : Prop} [Decidable c] {a b : Bool} : (if c then AV.bool a else AV.bool b) = AV.bool (if c then a else b) := by split <;> rfl

section
variable {t u : TypeId} {x y : Operand} {k k' : IntKind} {m n : Int}
@[simp] theorem bin_add : binA P .add t x y (.int k m) (.int k n) = some (.int k (k.wrap (m + n))) := by rw [binA_int rfl, arith_add]
@[simp] theorem bin_sub : binA P .sub t x y (.int k m) (.int k n) = some (.int k (k.wrap (m - n))) := by rw [binA_int rfl, arith_sub]
@[simp] theorem bin_mul : binA P .mul t x y (.int k m) (.int k n) = some (.int k (k.wrap (m * n))) := by rw [binA_int rfl, arith_mul]
theorem bin_quo (h : n ≠ 0) : binA P .quo t x y (.int k m) (.int k n) = some (.int k (k.wrap (m.tdiv n))) := by rw [binA_int rfl, arith_quo, if_pos h]
theorem bin_rem (h : n ≠ 0) : binA P .rem t x y (.int k m) (.int k n) = some (.int k (m.tmod n)) := by rw [binA_int rfl, arith_rem, if_pos h]
attribute [simp] bin_quo bin_rem
@[simp] theorem bin_eql : binA P .eql t x y (.int k m) (.int k n) = some (.bool (decide (m = n))) := by rw [binA_int rfl, arith_eql]
@[simp] theorem bin_neq : binA P .neq t x y (.int k m) (.int k n) = some (.bool (decide (m ≠ n))) := by rw [binA_int rfl, arith_neq]
@[simp] theorem bin_lss : binA P .lss t x y (.int k m) (.int k n) = some (.bool (decide (m < n))) := by rw [binA_int rfl, arith_lss]
@[simp] theorem bin_leq : binA P .leq t x y (.int k m) (.int k n) = some (.bool (decide (m ≤ n))) := by rw [binA_int rfl, arith_leq]
@[simp] theorem bin_gtr : binA P .gtr t x y (.int k m) (.int k n) = some (.bool (decide (n < m))) := by rw [binA_int rfl, arith_gtr]
@[simp] theorem bin_geq : binA P .geq t x y (.int k m) (.int k n) = some (.bool (decide (n ≤ m))) := by rw [binA_int rfl, arith_geq]
@[simp] theorem bin_shl : binA P .shl t x y (.int k m) (.int k' n) = shlF k m n := rfl
@[simp] theorem bin_shr : binA P .shr t x y (.int k m) (.int k' n) = shrF k m n := rfl
theorem strEq_dec (a b : List Nat) : strEq a b = decide (a = b) := by
  induction a generalizing b with
  | nil => cases b <;> rfl
  | cons a l ih =>
    cases b with
    | nil => rfl
    | cons b m =>
      show (Bool.casesOn (Nat.beq a b) false (strEq l m) : Bool) = _
      rw [ih, nbeq]
      by_cases h : a = b <;> simp [h]
@[simp] theorem bin_eqlS {a b : List Nat} : binA P .eql t x y (.str a) (.str b) = some (.bool (decide (a = b))) := by
  rw [binA_str rfl]; simp only [strOp, strEq_dec]
@[simp] theorem bin_neqS {a b : List Nat} : binA P .neq t x y (.str a) (.str b) = some (.bool (decide (a ≠ b))) := by
  rw [binA_str rfl]; simp only [strOp, strEq_dec, notB_eq, decide_not]
theorem bin_addS {a b : List Nat} (h : a.length + b.length ≤ maxStr) : binA P .add t x y (.str a) (.str b) = some (.str (a ++ b)) := by
  rw [binA_str rfl]
  have : Nat.ble (Nat.add (llen a) (llen b)) maxStr = true := by rw [llen_eq, llen_eq]; exact nble_t h
  simp only [strOp, this, lapp_eq]
noncomputable def eqAgg (g : Bool) (a : Option Bool) (f : Option (List TypeDesc)) (cs ds : List AV) : Option Bool := match g, a, f with
  | false, some true, some ks => flatEqL ks cs ds
  | _, _, _ => none
def boolO : Option Bool → Option AV
  | none => none
  | some e => some (.bool e)
def boolN : Option Bool → Option AV
  | none => none
  | some e => some (.bool (!e))
@[simp] theorem boolO_some {e : Bool} : boolO (some e) = some (.bool e) := rfl
@[simp] theorem boolN_some {e : Bool} : boolN (some e) = some (.bool (!e)) := rfl
@[simp] theorem bin_eqlG {cs ds : List AV} : binA P .eql t x y (.agg cs) (.agg ds) = boolO (eqAgg (P.eqGuardType P.depth t) (aggOf P t) (flatK P 20 t) cs ds) := by
  show (Option.casesOn (eqA P t x y (.agg cs) (.agg ds)) none (fun e => some (.bool e)) : Option AV) = _
  simp only [eqA, eqAgg]
  cases P.eqGuardType P.depth t <;> cases aggOf P t <;> try rfl
  rename_i b
  cases b <;> cases flatK P 20 t <;> try rfl
  rename_i ks
  show (Option.casesOn (flatEqL ks cs ds) none (fun e => some (.bool e)) : Option AV) = boolO (flatEqL ks cs ds)
  cases flatEqL ks cs ds <;> rfl
@[simp] theorem bin_neqG {cs ds : List AV} : binA P .neq t x y (.agg cs) (.agg ds) = boolN (eqAgg (P.eqGuardType P.depth t) (aggOf P t) (flatK P 20 t) cs ds) := by
  show (Option.casesOn (eqA P t x y (.agg cs) (.agg ds)) none (fun e => some (.bool (notB e))) : Option AV) = _
  simp only [eqA, eqAgg, notB_eq]
  cases P.eqGuardType P.depth t <;> cases aggOf P t <;> try rfl
  rename_i b
  cases b <;> cases flatK P 20 t <;> try rfl
  rename_i ks
  show (Option.casesOn (flatEqL ks cs ds) none (fun e => some (.bool !e)) : Option AV) = boolN (flatEqL ks cs ds)
  cases flatEqL ks cs ds <;> rfl
@[simp] theorem eqAgg_some {ks : List TypeDesc} {cs ds : List AV} : eqAgg false (some true) (some ks) cs ds = flatEqL ks cs ds := rfl
@[simp] theorem flatEqL_nil' : flatEqL [] [] [] = some true := rfl
def andO : Bool → Option Bool → Option Bool
  | e, some f => some (e && f)
  | _, none => none
@[simp] theorem andO_some {e f : Bool} : andO e (some f) = some (e && f) := rfl
theorem flatEqL_step {k : TypeDesc} {ks : List TypeDesc} {a b : AV} {l r : List AV} {e : Bool} (h : flatEq1 k a b = some e) : flatEqL (k :: ks) (a :: l) (b :: r) = andO e (flatEqL ks l r) := by
  show (match flatEq1 k a b, flatEqL ks l r with
        | some e, some f => some (Bool.casesOn (motive := fun _ => Bool) e false f)
        | _, _ => none) = _
  rw [h]
  cases flatEqL ks l r with
  | none => rfl
  | some f => cases e <;> rfl
@[simp] theorem flatEqL_int {ks : List TypeDesc} {l r : List AV} : flatEqL (.int k :: ks) (.int k m :: l) (.int k n :: r) = andO (decide (m = n)) (flatEqL ks l r) :=
  flatEqL_step (by rw [← eqI_eq]; cases k <;> rfl)
@[simp] theorem flatEqL_bool {ks : List TypeDesc} {a b : Bool} {l r : List AV} : flatEqL (.bool :: ks) (.bool a :: l) (.bool b :: r) = andO (decide (a = b)) (flatEqL ks l r) :=
  flatEqL_step (by cases a <;> cases b <;> rfl)
@[simp] theorem flatEqL_str {ks : List TypeDesc} {a b : List Nat} {l r : List AV} : flatEqL (.string :: ks) (.str a :: l) (.str b :: r) = andO (decide (a = b)) (flatEqL ks l r) :=
  flatEqL_step (by simp [flatEq1, strEq_dec])
@[simp] theorem un_not {b : Bool} : unA .not (.bool b) = some (.bool (!b)) := by simp only [unA, notB_eq]
end

/-! Memory. -/
noncomputable def loadM (a : Option Bool) (n : Option Nat) (x : AV) (H : AHeap) : Res := match a with
  | none => none
  | some true => match n with
    | none => none
    | some n => match rdMem n x H with
      | some cs => some (.agg cs, H)
      | none => none
  | some false => match rdMem 1 x H with
    | some [v] => some (v, H)
    | _ => none
@[simp] theorem oLoad_M {t : TypeId} {a : AV} {H : AHeap} : oLoad P t a H = loadM (aggOf P t) (szOf P t) a H := rfl
@[simp] theorem loadM_agg {n : Nat} {x : AV} {H : AHeap} : loadM (some true) (some n) x H = (match rdMem n x H with
      | some cs => some (.agg cs, H)
      | none => none) := rfl
@[simp] theorem loadM_one {n : Option Nat} {x : AV} {H : AHeap} : loadM (some false) n x H = (match rdMem 1 x H with
    | some [v] => some (v, H)
    | _ => none) := rfl
theorem rdMem_v {n : Nat} {cells : List AV} {H : AHeap} (h : n ≤ cells.length) : rdMem n (.vptr cells) H = some (cells.take n) := by
  have : Nat.ble n (llen cells) = true := by rw [llen_eq]; exact nble_t h
  simp only [rdMem, this, ltake_eq]
attribute [simp] rdMem_v
noncomputable def rdObj (ver off n : Nat) : Option AObj → Option (List AV)
  | none => none
  | some o => rdArr ver off n o
@[simp] theorem rdMem_p {n id ver off : Nat} {H : AHeap} : rdMem n (.ptr id ver off) H = rdObj ver off n (H.get id) := by
  simp only [rdMem, rdObj]
  cases H.get id <;> rfl
/-- an object of one version alone, read within -/
theorem rdObj_new {cells : List AV} {off n : Nat} (h : off + n ≤ cells.length) : rdObj 0 off n (some (.arr cells 0 0 [cells.length])) = some ((cells.drop off).take n) := by
  have : Nat.ble (Nat.add off n) (extOf [cells.length] 0 0) = true := nble_t h
  simp only [rdObj, rdArr, arrRead, this, ltake_eq, ldrop_eq]
noncomputable def wrObj (H : AHeap) (id ver off : Nat) (xs : List AV) : Option AObj → Option AHeap
  | none => none
  | some o => match wrArr ver off xs o with
    | none => none
    | some o => some (H.put id o)
theorem wrMem_p {xs : List AV} {id ver off : Nat} {H : AHeap} : wrMem xs (.ptr id ver off) H = wrObj H id ver off xs (H.get id) := by
  simp only [wrMem, wrObj]
  cases H.get id with
  | none => rfl
  | some o => simp only; cases wrArr ver off xs o <;> rfl
noncomputable def storeM (n : Option Nat) (a v : AV) (H : AHeap) : Res := match n with
  | none => none
  | some n => match Nat.beq (llen (cellsOf v)) n, lall oneCell (cellsOf v) with
    | true, true => match wrMem (cellsOf v) a H with
      | some H => some (.tup [], H)
      | none => none
    | _, _ => none
@[simp] theorem oStore_M {t : TypeId} {a v : AV} {H : AHeap} : oStore P t a v H = storeM (szOf P t) a v H := rfl

/-! Guards: whose word they take. -/
def gdst : List Oper → Nat → Option (Option Nat)
  | [], _ => none
  | o :: _, 0 => some o.dst
  | _ :: l, j + 1 => gdst l j
noncomputable def gat (d : Option (Option Nat)) (T : ATmps) (w : Bool) : Option Bool := match d with
  | some (some d) => gv (ATmps.at T d) w
  | _ => some false
theorem gdst_get : ∀ (l : List Oper) (j : Nat), gdst l j = (l[j]?).map (·.dst)
  | [], _ => rfl
  | o :: l, 0 => rfl
  | o :: l, j + 1 => gdst_get l j
theorem guardA_gat {ops : List Oper} {T : ATmps} {j : Nat} {w : Bool} : guardA ops T (some (j, w)) = gat (gdst ops j) T w := by
  simp only [guardA, lget_eq, gdst_get]
  cases ops[j]? with
  | none => rfl
  | some o => cases hd : o.dst <;> simp only [hd, Option.map_some, gat] <;> rfl
@[simp] theorem gdst_z {op : Op} {d : Option Nat} {ty : TypeId} {g : Option (Nat × Bool)} {af : Array Edge} {pos : String} {l : List Oper} : gdst ({ op := op, dst := d, type := ty, guard := g, after := af, pos := pos } :: l) 0 = some d := rfl
@[simp] theorem gdst_s {o : Oper} {l : List Oper} {j : Nat} : gdst (o :: l) (j + 1) = gdst l j := rfl
@[simp] theorem gat_some {d : Nat} {T : ATmps} {w : Bool} : gat (some (some d)) T w = gv (ATmps.at T d) w := rfl
end Go.Proofs.Ytcjfjfhggfcnfaa.Am
