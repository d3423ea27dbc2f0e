/-
  The definitions of a symbolic run over the elaborated program, and the relation between its states and the model's. For whatever program; the conditions stand in each statement.
-/
import Derived.WalkKit
import Derived.Orders
namespace Go.XM
open Go
noncomputable section
/-- How a slice is known: c, it leads to a row, its bounds are looked at; n, nil, or it leads to its row's head; z, it may also be any slice without room. -/
inductive SK where | c | n | z
def SK.sym : SK → Bool
  | .c => false
  | _ => true
def SK.up : SK → SK
  | .n => .n
  | _ => .z

/-- Abstract values. The first Bool of 'int', 'bool', 'str' says: not to be decided by looking. -/
inductive AV where
  | int (s : Bool) (k : IntKind) (n : Int)
  | bool (s : Bool) (b : Bool)
  | str (s : Bool) (b : ByteArray)
  | nilp | nils | nilfn | nilif
  | ptr (id off : Nat)
  | eptr (id i j : Nat)
  | sl (s : SK) (id lo len : Nat)
  | dptr (id len : Nat)
  | emp
  | agg (cs : List AV)
  | tup (vs : List AV)
  | fn (f : Fn) (first cap : List AV)
  | iface (t : TypeId) (v : AV)
  | raw (v : Value)

/-- the kind of a cell. -/
inductive CK where
  | i (k : IntKind) | b | s

/-- Entries. A row with 'sh': its elements are not looked at; each has cells of these kinds. -/
inductive Ent where
  | dead
  | cells (T : TypeId) (cs : List AV)
  | row (T : TypeId) (ro : Bool) (sh : Option (List CK)) (sz : Nat) (xs : List (List AV))

abbrev Mem := List Ent
abbrev Regs := List (Nat × AV)

/-- how a stretch of code ends. -/
inductive Ex where | normal | ret | exit (id : Nat)

/-- what is chosen where a run cannot see: 'call' and 'loop' tell what a call or a loop comes to (it is owed). -/
inductive Ch where
  | t | f | keep
  | val (v : List AV)
  | call (v : AV) (m : Mem)
  | pure (v : AV)
  | loop (e : Ex) (r : Regs) (m : Mem)

/-- what is owed: a fact, or that an entry reads as it did. -/
inductive Ob where
  | fact (q : Prop)
  | same (a b : Option Ent)

def Ob.holds : Ob → Prop
  | .fact q => q
  | .same a b => a = b

instance : CoeSort Ob Prop := ⟨Ob.holds⟩

abbrev Obs := List Ob

def facts : Obs → List Prop
  | [] => []
  | .fact q :: l => q :: facts l
  | .same _ _ :: l => facts l

def lefts : Obs → List (Option Ent)
  | [] => []
  | .fact _ :: l => lefts l
  | .same a _ :: l => a :: lefts l

def rights : Obs → List (Option Ent)
  | [] => []
  | .fact _ :: l => rights l
  | .same _ b :: l => b :: rights l

theorem obs_of {o : Obs} (h : ∀ q ∈ facts o, q) (e : lefts o = rights o) : ∀ q ∈ o, q := by
  induction o with
  | nil => simp
  | cons a l ih =>
    cases a with
    | fact p =>
      simp only [facts, lefts, rights] at h e
      intro q hq
      rcases List.mem_cons.1 hq with rfl | hq
      · exact h p (by simp)
      · exact ih (fun q hq => h q (by simp [hq])) e q hq
    | same a b =>
      simp only [facts, lefts, rights, List.cons.injEq] at h e
      intro q hq
      rcases List.mem_cons.1 hq with rfl | hq
      · exact e.1
      · exact ih h e.2 q hq

def get (r : Regs) (t : Nat) : Option AV := List.rec (motive := fun _ => Option AV) none (fun p _ ih => bif Nat.beq p.1 t then some p.2 else ih) r
theorem get_nil (t : Nat) : get [] t = none := rfl
theorem get_cons (k : Nat) (v : AV) (r : Regs) (t : Nat) : get ((k, v) :: r) t = bif Nat.beq k t then some v else get r t := rfl

def nth {α : Type} (l : List α) : Nat → Option α := List.rec (motive := fun _ => Nat → Option α) (fun _ => none) (fun a _ ih n => Nat.rec (motive := fun _ => Option α) (some a) (fun k _ => ih k) n) l
theorem nth_nil {α : Type} (n : Nat) : nth ([] : List α) n = none := rfl
theorem nth_zero {α : Type} (a : α) (l : List α) : nth (a :: l) 0 = some a := rfl
theorem nth_succ {α : Type} (a : α) (l : List α) (n : Nat) : nth (a :: l) (n + 1) = nth l n := rfl

def upd {α : Type} (l : List α) (n : Nat) (v : α) : List α := List.rec (motive := fun _ => Nat → List α) (fun _ => []) (fun a l ih n => Nat.rec (motive := fun _ => List α) (v :: l) (fun k _ => a :: ih k) n) l n
theorem upd_nil {α : Type} (n : Nat) (v : α) : upd [] n v = [] := rfl
theorem upd_zero {α : Type} (a : α) (l : List α) (v : α) : upd (a :: l) 0 v = v :: l := rfl
theorem upd_succ {α : Type} (a : α) (l : List α) (n : Nat) (v : α) : upd (a :: l) (n + 1) v = a :: upd l n v := rfl

/-- n elements from place i on, or none. -/
def cut {α : Type} : List α → Nat → Nat → Option (List α)
  | _, 0, 0 => some []
  | a :: l, 0, n + 1 => (match cut l 0 n with | some r => some (a :: r) | none => none)
  | _ :: l, i + 1, n => cut l i n
  | [], _, _ => none

/-- the elements from place i on written over by xs, or none. -/
def paste {α : Type} : List α → Nat → List α → Option (List α)
  | l, 0, [] => some l
  | _ :: l, 0, x :: xs => (match paste l 0 xs with | some r => some (x :: r) | none => none)
  | a :: l, i + 1, xs => (match paste l i xs with | some r => some (a :: r) | none => none)
  | [], _, _ => none

def len' {α : Type} (l : List α) : Nat := List.rec (motive := fun _ => Nat) 0 (fun _ _ ih => Nat.succ ih) l
theorem len'_nil {α : Type} : len' ([] : List α) = 0 := rfl
theorem len'_cons {α : Type} (a : α) (l : List α) : len' (a :: l) = len' l + 1 := rfl

def ofV1 : Value → Option AV
  | .bool b => some (.bool false b)
  | .int k n => some (.int false k n)
  | .string s => some (.str false s)
  | .pointer none => some .nilp
  | .slice none 0 0 => some .nils
  | .nilFunc => some .nilfn
  | .nilIface => some .nilif
  | _ => none

def ofVL : List Value → Option (List AV)
  | [] => some []
  | v :: r => match ofV1 v, ofVL r with | some a, some l => some (a :: l) | _, _ => none

def ofV : Value → Option AV
  | .agg cs => (match ofVL cs.toList with | some l => some (.agg l) | none => none)
  | v => ofV1 v

def ev (r : Regs) : Operand → Option AV
  | .tmp t => get r t
  | .const v => ofV v
  | .func f => some (.fn (.func f) [] [])
  | .global _ => none

def evs (r : Regs) : List Operand → Option (List AV)
  | [] => some []
  | x :: xs => match ev r x, evs r xs with | some a, some l => some (a :: l) | _, _ => none

def AV.cells : AV → List AV
  | .agg cs => cs
  | v => [v]

/-- one cell: no aggregate, no tuple. -/
def one : AV → Bool
  | .agg _ => false
  | .tup _ => false
  | _ => true

def ones : List AV → Bool
  | [] => true
  | a :: l => one a && ones l

def dec (sym b : Bool) (st : List Ch) : Option (AV × List Ch × Obs) :=
  match sym with
  | false => some (.bool false b, st, [])
  | true => match st with
    | .t :: r => some (.bool false true, r, [.fact (b = true)])
    | .f :: r => some (.bool false false, r, [.fact (b = false)])
    | .keep :: r => some (.bool true b, r, [])
    | _ => none

/-- a condition: decided by looking where nothing is symbolic, else owed. -/
def need (sym : Bool) (p : Prop) [Decidable p] : Option Obs :=
  match sym with
  | true => some [.fact p]
  | false => match decide p with | true => some [] | false => none

def isAggT (P : Program) (t : TypeId) : Option Bool :=
  match P.underlying t with
  | some (.struct _) => some true
  | some (.array _ _) => some true
  | some _ => some false
  | none => none

def sizeT (P : Program) (t : TypeId) : Option Nat := match P.info? t with | some i => some i.size | none => none

def zeroT (P : Program) (t : TypeId) : Option AV :=
  match P.info? t with
  | some i => (match i.zero with | some z => ofV z | none => none)
  | none => none

/-- n cells of a row of cells, as a value of type t. -/
def partT (P : Program) (t : TypeId) (cs : List AV) (off : Nat) : Option AV :=
  match isAggT P t, sizeT P t with
  | some true, some n => (match cut cs off n with | some l => some (.agg l) | none => none)
  | some false, some _ => nth cs off
  | _, _ => none

def intOf : AV → Int
  | .int _ _ n => n
  | _ => 0
def boolOf : AV → Bool
  | .bool _ b => b
  | _ => false
def strOf : AV → ByteArray
  | .str _ s => s
  | _ => ⟨#[]⟩

def ikEq (a b : IntKind) : Bool := decide (a = b)

/-- a cell, marked. -/
def ckAv (a : AV) : CK → AV
  | .i k => .int true k (intOf a)
  | .b => .bool true (boolOf a)
  | .s => .str true (strOf a)

/-- a place of a list. -/
def nthA : List AV → Nat → AV
  | [], _ => .nilp
  | a :: _, 0 => a
  | _ :: l, n + 1 => nthA l n
/-- an element of a list of elements. -/
def nthE : List (List AV) → Nat → List AV
  | [], _ => []
  | a :: _, 0 => a
  | _ :: l, n + 1 => nthE l n

/-- the cells from place j on, marked; they are of these kinds. -/
def kcells (c : List AV) : Nat → List CK → List AV
  | _, [] => []
  | j, k :: ks => ckAv (nthA c j) k :: kcells c (j + 1) ks

/-- 32 bytes. -/
def idc (x : Nat → Int) : List AV := (List.range 32).map fun i => .int true .u8 (x i)

def nthI : List Int → Nat → Int
  | [], _ => 0
  | a :: _, 0 => a
  | _ :: l, n + 1 => nthI l n
/-- 32 bytes that are looked at, zeros behind the first ones. -/
def idz (l : List Int) : List AV := (List.range 32).map fun i => .int false .u8 (nthI l i)

/-- are the cells of these kinds? -/
def fitsK : List CK → List AV → Bool
  | [], [] => true
  | .i k :: ks, .int _ k' _ :: l => ikEq k k' && fitsK ks l
  | .b :: ks, .bool _ _ :: l => fitsK ks l
  | .s :: ks, .str _ _ :: l => fitsK ks l
  | _, _ => false

def elemAt (sh : Option (List CK)) (xs : List (List AV)) (i : Nat) : Option (List AV × Obs) :=
  match sh with
  | none => (match nth xs i with | some e => some (e, []) | none => none)
  | some ks => some (kcells (nthE xs i) 0 ks, [.fact (i < xs.length)])

/-- an element written into a row. -/
def putAt (sh : Option (List CK)) (xs : List (List AV)) (i : Nat) (l : List AV) : Option (List (List AV)) :=
  match sh with
  | none => some (xs.set i l)
  | some ks => bif fitsK ks l then some (xs.set i (kcells l 0 ks)) else none

def xload (P : Program) (t : TypeId) (a : AV) (m : Mem) (st : List Ch) : Option (AV × List Ch × Obs) :=
  match a with
  | .ptr id off => (match nth m id with
    | some (.cells _ cs) => (match partT P t cs off with | some v => some (v, st, []) | none => none)
    | _ => none)
  | .eptr id i j => (match nth m id with
    | some (.row _ _ sh _ xs) => (match elemAt sh xs i with
      | some (e, o) => (match partT P t e j with | some v => some (v, st, o) | none => none)
      | none => none)
    | _ => none)
  | _ => none

def xstore (P : Program) (t : TypeId) (a v : AV) (m : Mem) (st : List Ch) : Option (Mem × List Ch × Obs) :=
  match sizeT P t with
  | none => none
  | some n => bif Nat.beq (len' v.cells) n && ones v.cells then
    (match a with
    | .ptr id off => (match nth m id with
      | some (.cells T cs) => (match paste cs off v.cells with | some l => some (upd m id (.cells T l), st, []) | none => none)
      | _ => none)
    | .eptr id i j => (match nth m id with
      | some (.row T false sh sz xs) => (match elemAt sh xs i with
        | some (e, o) => (match paste e j v.cells with
          | some l => (match putAt sh xs i l with | some ys => some (upd m id (.row T false sh sz ys), st, o) | none => none)
          | none => none)
        | none => none)
      | _ => none)
    | _ => none) else none

def fillA (place : Nat → Option (Nat × Nat)) : List AV → List (Nat × AV) → Option (List AV)
  | cs, [] => some cs
  | cs, (i, v) :: r => match place i with
    | some (off, n) => bif Nat.beq (len' v.cells) n && ones v.cells then (match paste cs off v.cells with | some l => fillA place l r | none => none) else none
    | none => none

def evParts (r : Regs) : List (Nat × Operand) → Option (List (Nat × AV))
  | [] => some []
  | (i, x) :: xs => match ev r x, evParts r xs with | some a, some l => some ((i, a) :: l) | _, _ => none

def fieldPl (P : Program) (fs : List Field) (i : Nat) : Option (Nat × Nat) :=
  match nth fs i with
  | some f => (match sizeT P f.type with | some n => some (f.offset, n) | none => none)
  | none => none

def placesT (P : Program) : List Field → Option (List (Nat × Nat))
  | [] => some []
  | f :: r => (match sizeT P f.type, placesT P r with | some n, some l => some ((f.offset, n) :: l) | _, _ => none)

def xbuild (P : Program) (t : TypeId) (ps : List (Nat × AV)) : Option AV :=
  match zeroT P t with
  | some (.agg z) => (match P.underlying t with
    | some (.struct fs) => (match placesT P fs.toList with
      | some pl => (match fillA (nth pl) z ps with | some l => some (.agg l) | none => none)
      | none => none)
    | some (.array _ e) => (match sizeT P e with
      | some n => (match fillA (fun i => some (i * n, n)) z ps with | some l => some (.agg l) | none => none)
      | none => none)
    | _ => none)
  | _ => none

def rep {α : Type} (a : α) : Nat → List α
  | 0 => []
  | n + 1 => a :: rep a n

def putParts (n : Nat) : List (List AV) → List (Nat × AV) → Option (List (List AV))
  | xs, [] => some xs
  | xs, (i, v) :: r => bif Nat.beq (len' v.cells) n && ones v.cells && Nat.blt i (len' xs) then putParts n (upd xs i v.cells) r else none

def xbuildSlice (P : Program) (t : TypeId) (len : Nat) (ps : List (Nat × AV)) (m : Mem) : Option (AV × Mem) :=
  match P.underlying t with
  | some (.slice e) => (match sizeT P e, zeroT P e with
    | some n, some z => bif Nat.blt 0 n && Nat.beq (len' z.cells) n && Nat.ble (len * n) 16777216 then
      (match putParts n (rep z.cells len) ps with
      | some xs => some (.sl .c (len' m) 0 len, m ++ [.row e false none n xs])
      | none => none) else none
    | _, _ => none)
  | _ => none

def xfieldAddr (P : Program) (t : TypeId) (a : AV) (i : Nat) : Option AV :=
  match P.underlying t with
  | some (.struct fs) => (match fieldPl P fs.toList i with
    | some (off, n) => bif Nat.blt 0 n then (match a with
      | .ptr id o => some (.ptr id (o + off))
      | .eptr id i j => some (.eptr id i (j + off))
      | _ => none) else none
    | none => none)
  | _ => none

def strEq (a b : ByteArray) : Bool := a.data.toList == b.data.toList

/-- all cells alike. -/
def cellEq : AV → AV → Bool
  | .int _ _ a, .int _ _ b => a == b
  | .bool _ a, .bool _ b => a == b
  | .str _ a, .str _ b => strEq a b
  | _, _ => false

def cellsEq : List AV → List AV → Bool
  | [], [] => true
  | a :: x, b :: y => cellEq a b && cellsEq x y
  | _, _ => false

def symC : AV → Bool
  | .int s _ _ => s
  | .bool s _ => s
  | .str s _ => s
  | _ => false

def symCs : List AV → Bool
  | [] => false
  | a :: l => symC a || symCs l

/-- the kinds of a type's cells, where its values are alike when their cells are: 0 an int, 1 a bool, 2 a string. -/
def flatKF (P : Program) (g : TypeId → Option (List Nat)) : List Field → Nat → Option (List Nat)
  | [], _ => some []
  | f :: r, off => bif f.name != "_" && Nat.beq f.offset off then
      (match g f.type, sizeT P f.type with
      | some ks, some n => bif Nat.beq (len' ks) n then (match flatKF P g r (off + n) with | some l => some (ks ++ l) | none => none) else none
      | _, _ => none) else none

def repL {α : Type} (a : List α) : Nat → List α
  | 0 => []
  | n + 1 => a ++ repL a n

def flatK (P : Program) : Nat → TypeId → Option (List Nat)
  | 0, _ => none
  | d + 1, t => match P.underlying t with
    | some (.int _) => some [0]
    | some .bool => some [1]
    | some .string => some [2]
    | some (.struct fs) => bif P.stoodInHeld t then none else flatKF P (flatK P d) fs.toList 0
    | some (.array n e) => (match flatK P d e, sizeT P e with
      | some ks, some k => bif Nat.beq (len' ks) k then some (repL ks n) else none
      | _, _ => none)
    | _ => none

/-- the cells are of these kinds. -/
def kOk : List Nat → List AV → List AV → Bool
  | [], [], [] => true
  | 0 :: ks, .int _ k _ :: x, .int _ k' _ :: y => ikEq k k' && kOk ks x y
  | 1 :: ks, .bool _ _ :: x, .bool _ _ :: y => kOk ks x y
  | 2 :: ks, .str _ _ :: x, .str _ _ :: y => kOk ks x y
  | _, _, _ => false

def xeq (P : Program) (t : TypeId) (x y : AV) : Option (Bool × Bool) :=
  match P.underlying t, x, y with
  | some .bool, .bool s a, .bool s' b => some (s || s', a == b)
  | some (.pointer _), .nilp, .nilp => some (false, true)
  | some (.pointer _), .ptr _ _, .nilp => some (false, false)
  | some (.pointer _), .nilp, .ptr _ _ => some (false, false)
  | some (.pointer _), .eptr _ _ _, .nilp => some (false, false)
  | some (.pointer _), .nilp, .eptr _ _ _ => some (false, false)
  | some (.pointer t), .ptr i o, .ptr i' o' => bif Nat.beq i i' && Nat.beq o o' && (sizeT P t).isSome then some (false, true) else none
  | some (.func _ _ _), .nilfn, .nilfn => some (false, true)
  | some (.func _ _ _), .fn _ _ _, .nilfn => some (false, false)
  | some (.slice _), .nils, .nils => some (false, true)
  | some (.slice _), .sl .c _ _ _, .nils => some (false, false)
  | some _, .agg xs, .agg ys => (match isAggT P t, flatK P 20 t with
    | some true, some ks => bif kOk ks xs ys && !(P.eqGuardType P.depth t) then some (symCs xs || symCs ys, cellsEq xs ys) else none
    | _, _ => none)
  | _, _, _ => none

def rng (k : IntKind) (e : Int) : Prop := k.wrap e = e

def arith (s : Bool) (k : IntKind) (e : Int) : AV × Obs :=
  match s with
  | false => (.int false k (k.wrap e), [])
  | true => (match k with
    | .i64 => (.int true k e, [.fact (rng k e)])
    | _ => (.int true k (k.wrap e), []))

def arithR (s : Bool) (k : IntKind) (e : Int) (st : List Ch) : Option (AV × List Ch × Obs) := some ((arith s k e).1, st, (arith s k e).2)

def xbin (P : Program) (op : BinOp) (t : TypeId) (x y : AV) (st : List Ch) : Option (AV × List Ch × Obs) :=
  match x, y with
  | .int s k a, .int s' k' b => bif ikEq k k' then (match op with
    | .add => arithR (s || s') k (a + b) st
    | .sub => arithR (s || s') k (a - b) st
    | .mul => arithR (s || s') k (a * b) st
    | .eql => dec (s || s') (a == b) st
    | .neq => dec (s || s') (a != b) st
    | .lss => dec (s || s') (decide (a < b)) st
    | .leq => dec (s || s') (decide (a ≤ b)) st
    | .gtr => dec (s || s') (decide (a > b)) st
    | .geq => dec (s || s') (decide (a ≥ b)) st
    | .quo => (match need s' (b ≠ 0) with | some o => some ((arith (s || s') k (a.tdiv b)).1, st, o ++ (arith (s || s') k (a.tdiv b)).2) | none => none)
    | .rem => (match need s' (b ≠ 0) with | some o => some (.int (s || s') k (a.tmod b), st, o) | none => none)
    | _ => none) else none
  | .str s a, .str s' b => (match op with
    | .eql => dec (s || s') (strEq a b) st
    | .neq => dec (s || s') (!(strEq a b)) st
    | .add => (match need (s || s') (((a.size + b.size : Nat) : Int) ≤ 9223372036854775807) with | some o => some (.str (s || s') (a ++ b), st, o) | none => none)
    | _ => none)
  | x, y => (match op with
    | .eql => (match xeq P t x y with | some (s, b) => dec s b st | none => none)
    | .neq => (match xeq P t x y with | some (s, b) => dec s (!b) st | none => none)
    | _ => none)

def xun (op : UnOp) (x : AV) : Option AV :=
  match op, x with
  | .not, .bool s b => some (.bool s (!b))
  | .neg, .int s k n => (match s with | false => some (.int false k (k.wrap (0 - n))) | true => some (.int true k (k.wrap (0 - n))))
  | _, _ => none

def strAt (s : ByteArray) (i : Int) : Int := ((s.data.toList.getD i.toNat 0).toNat : Int)

/-- the row's elements are as large as those of type e. -/
def szOk (P : Program) (e : TypeId) (m : Mem) (id : Nat) : Bool :=
  match nth m id, sizeT P e with
  | some (.row _ _ _ sz _), some n => Nat.beq sz n
  | _, _ => false

def bnd (d : Bool × Int) : Option AV → Option (Bool × Int)
  | none => some d
  | some (.int s _ n) => some (s, n)
  | some _ => none

def owing (x : Option Obs) (v : AV) (st : List Ch) : Option (AV × List Ch × Obs) :=
  match x with
  | some o => some (v, st, o)
  | none => none

def strCut (b : ByteArray) (sy : Bool) (l h : Option (Bool × Int)) (st : List Ch) : Option (AV × List Ch × Obs) :=
  match l, h with
  | some (s1, l), some (s2, h) => owing (need (sy || s1 || s2) (0 ≤ l ∧ l ≤ h ∧ h ≤ (b.size : Int))) (.str (sy || s1 || s2) (b.extract l.toNat h.toNat)) st
  | _, _ => none

/-- the kind of a part of a slice: is its lower bound left out? is a bound symbolic? -/
def SK.part (s : SK) (bare sym : Bool) : SK :=
  match s with
  | .z => .z
  | .n => (match bare with | true => .n | false => .z)
  | .c => (match sym with | true => .z | false => .c)

def slCut (sy : SK) (bare : Bool) (id lo0 len : Nat) (l h : Option (Bool × Int)) (st : List Ch) : Option (AV × List Ch × Obs) :=
  match l, h with
  | some (s1, l), some (s2, h) => owing (need (sy.sym || s1 || s2) (0 ≤ l ∧ l ≤ h ∧ h ≤ (len : Int))) (.sl (sy.part bare (s1 || s2)) id (l.toNat + lo0) (h.toNat - l.toNat)) st
  | _, _ => none

def nilCut (v : AV) (l h : Option (Bool × Int)) (st : List Ch) : Option (AV × List Ch × Obs) :=
  match l, h with
  | some (s1, l), some (s2, h) => owing (need (s1 || s2) (l = 0 ∧ h = 0)) v st
  | _, _ => none

/-- are all three bounds the constant 0 (the first may be missing)? -/
def zero3 (lo hi mx : Option AV) : Bool :=
  match lo, hi, mx with
  | none, some (.int false _ h), some (.int false _ m) => decide (h = 0) && decide (m = 0)
  | some (.int false _ l), some (.int false _ h), some (.int false _ m) => decide (l = 0) && decide (h = 0) && decide (m = 0)
  | _, _, _ => false

def xslice (P : Program) (t : TypeId) (x : AV) (lo hi mx : Option AV) (m : Mem) (st : List Ch) : Option (AV × List Ch × Obs) :=
  match P.underlying t, x with
  | some .string, .str s b => (match mx with
    | some _ => none
    | none => strCut b s (bnd (false, 0) lo) (bnd (s, (b.size : Int)) hi) st)
  | some (.slice e), .sl sy id lo0 len => bif szOk P e m id then (match mx with
    | some _ => bif zero3 lo hi mx then some (.emp, st, []) else none
    | none => slCut sy lo.isNone id lo0 len (bnd (false, 0) lo) (bnd (sy.sym, (len : Int)) hi) st) else none
  | some (.slice e), .nils => (match sizeT P e with
    | some _ => (match mx with
      | some _ => bif zero3 lo hi mx then some (.nils, st, []) else none
      | none => nilCut .nils (bnd (false, 0) lo) (bnd (false, 0) hi) st)
    | none => none)
  | some (.slice e), .emp => (match sizeT P e with
    | some _ => (match mx with
      | some _ => bif zero3 lo hi mx then some (.emp, st, []) else none
      | none => nilCut .emp (bnd (false, 0) lo) (bnd (false, 0) hi) st)
    | none => none)
  | _, _ => none

def xindexAddr (P : Program) (t : TypeId) (x ix : AV) (m : Mem) (st : List Ch) : Option (AV × List Ch × Obs) :=
  match P.underlying t, x, ix with
  | some (.slice e), .sl s id lo len, .int s' _ i => bif szOk P e m id then (match need (s.sym || s') (0 ≤ i ∧ i < (len : Int)) with | some o => some (.eptr id (i.toNat + lo) 0, st, o) | none => none) else none
  | some (.array n e), .ptr id off, .int s _ i => (match sizeT P e with
    | some k => bif Nat.blt 0 k then (match need s (0 ≤ i ∧ i < (n : Int)) with | some o => some (.ptr id (i.toNat * k + off), st, o) | none => none) else none
    | none => none)
  | some (.array n e), .eptr id a j, .int s _ i => (match sizeT P e with
    | some k => bif Nat.blt 0 k then (match need s (0 ≤ i ∧ i < (n : Int)) with | some o => some (.eptr id a (i.toNat * k + j), st, o) | none => none) else none
    | none => none)
  | _, _, _ => none

def xindex (P : Program) (t : TypeId) (x ix : AV) (st : List Ch) : Option (AV × List Ch × Obs) :=
  match P.underlying t, x, ix with
  | some .string, .str s b, .int s' _ i => (match need (s || s') (0 ≤ i ∧ i < (b.size : Int)) with | some o => some (.int (s || s') .u8 (strAt b i), st, o) | none => none)
  | some (.array n e), .agg cs, .int s _ i => (match sizeT P e with
    | some k => (match need s (0 ≤ i ∧ i < (n : Int)), partT P e cs (i.toNat * k) with | some o, some v => some (v, st, o) | _, _ => none)
    | none => none)
  | _, _, _ => none

def xconvert (P : Program) (src dst : TypeId) (x : AV) : Option (AV × Obs) :=
  match P.underlying src, P.underlying dst, x with
  | some (.int _), some (.int k), .int s _ n => (match s with
    | false => some (.int false k (k.wrap n), [])
    | true => (match k with
      | .i64 => some (.int true k n, [.fact (rng k n)])
      | _ => some (.int true k (k.wrap n), [])))
  | some .string, some .string, .str s b => some (.str s b, [])
  | _, _, _ => none

/-- to a bare pointer and back: the address as it is. -/
def xunsafe (P : Program) (src dst : TypeId) (x : AV) (m : Mem) : Option AV :=
  match P.underlying src, P.underlying dst, x with
  | some (.pointer t), some .unsafePointer, .ptr id off => (match nth m id, sizeT P t with
    | some (.cells _ cs), some n => bif Nat.blt 0 n && Nat.blt off (len' cs) then some (.ptr id off) else none
    | _, _ => none)
  | some .unsafePointer, some (.pointer u), .ptr id off => (match nth m id, sizeT P u with
    | some (.cells T cs), some _ => bif liesAt P P.depth T (len' cs / P.cellsOf T) off u 1 then some (.ptr id off) else none
    | _, _ => none)
  | _, _, _ => none

def minI : List AV → Option AV
  | [.int s k a, .int s' _ b] => some (.int (s || s') k (bif decide (b < a) then b else a))
  | _ => none

def maxI : List AV → Option AV
  | [.int s k a, .int s' _ b] => some (.int (s || s') k (bif decide (b > a) then b else a))
  | _ => none

def xlen : AV → Option AV
  | .str s b => some (.int s .i64 (b.size : Int))
  | .sl s _ _ len => some (.int s.sym .i64 (len : Int))
  | .nils => some (.int false .i64 0)
  | .emp => some (.int false .i64 0)
  | _ => none

/-- why a run stops -/
inductive Err where
  | op (o : Oper) (r : Regs) (m : Mem) (st : List Ch)
  | code (c : Code) (r : Regs) (m : Mem) (st : List Ch)
  | res (r : Regs) (m : Mem)
  | func (f : FuncId)
  | within (f : FuncId) (e : Err)

inductive Res (α : Type) where
  | ok (a : α)
  | no (e : Err)

abbrev Out := AV × Mem × List Ch × Obs
abbrev CallFn := FuncId → List AV → Mem → List Ch → Res Out
def lenT (P : Program) (t : TypeId) (x : AV) : Bool :=
  match x, P.underlying t with
  | .str _ _, some .string => true
  | .str _ _, _ => false
  | _, some (.slice _) => true
  | _, _ => false

abbrev LeafFn := FuncId → List AV → Mem → List Ch → Option Out

/-- the elements, marked. -/
def normK (sh : Option (List CK)) (xs : List (List AV)) : List (List AV) :=
  match sh with
  | none => xs
  | some ks => xs.map fun x => kcells x 0 ks
def fitsAll (ks : List CK) : List (List AV) → Bool
  | [] => true
  | x :: xs => fitsK ks x && fitsAll ks xs
def ckEq : CK → CK → Bool
  | .i k, .i k' => ikEq k k'
  | .b, .b => true
  | .s, .s => true
  | _, _ => false
def cksEq : List CK → List CK → Bool
  | [], [] => true
  | a :: l, c :: r => ckEq a c && cksEq l r
  | _, _ => false
/-- one row out of two: its shape, and the elements of both. -/
def joinR (sh sh' : Option (List CK)) (xs ys : List (List AV)) : Option (Option (List CK) × List (List AV)) :=
  match sh, sh' with
  | none, none => some (none, xs ++ ys)
  | some ks, none => bif fitsAll ks ys then some (some ks, xs ++ normK (some ks) ys) else none
  | none, some ks => bif fitsAll ks xs then some (some ks, normK (some ks) xs ++ ys) else none
  | some ks, some ks' => bif cksEq ks ks' then some (some ks, xs ++ ys) else none

/-- the kind of what append returns. -/
def SK.join (s : SK) (sym : Bool) : SK :=
  match s with
  | .c => (match sym with | true => .z | false => .c)
  | s => s
def SK.ofSh (s : SK) (sym : Bool) : SK := match sym with | true => s | false => .c

/-- append of a list of elements. -/
def xappend (e : TypeId) (bytes sz : Nat) (s : AV) (ys : List (List AV)) (n : Nat) (sh' : Option (List CK)) (m : Mem) (st : List Ch) : Option Out :=
  match s with
  | .sl sy id lo len => (match nth m id with
    | some (.row T false sh sz' xs) => bif Nat.beq sz sz' && (!sy.sym || sh.isSome) && Nat.beq T e then
        (match need (sy.sym || sh.isSome) (lo + len ≤ xs.length), need (sy.sym || sh'.isSome) (((len + n : Nat) : Int) * (bytes : Int) ≤ 70368744177664), joinR sh sh' ((xs.drop lo).take len) ys with
        | some o1, some o2, some (sh2, zs) => some (.sl (sy.join sh'.isSome) (len' m) 0 (len + n), upd m id .dead ++ [.row e false sh2 sz zs], st, o1 ++ o2)
        | _, _, _ => none) else none
    | _ => none)
  | .nils => (match need sh'.isSome ((n : Int) * (bytes : Int) ≤ 70368744177664) with
    | some o1 => some (.sl (SK.ofSh .n sh'.isSome) (len' m) 0 n, m ++ [.row e false sh' sz ys], st, o1)
    | none => none)
  | .emp => (match need sh'.isSome ((n : Int) * (bytes : Int) ≤ 70368744177664) with
    | some o1 => some (.sl (SK.ofSh .z sh'.isSome) (len' m) 0 n, m ++ [.row e false sh' sz ys], st, o1)
    | none => none)
  | _ => none

def isSl : AV → Bool
  | .sl _ _ _ _ => true
  | .nils => true
  | .emp => true
  | _ => false

/-- append, perhaps of nothing. -/
def xappendN (e : TypeId) (bytes sz : Nat) (s : AV) (ys : List (List AV)) (n : Nat) (sh' : Option (List CK)) (m : Mem) (st : List Ch) : Option Out :=
  match sh' with
  | some ks => xappend e bytes sz s ys n (some ks) m st
  | none => (match ys with
    | [] => bif isSl s then some (s, m, st, []) else none
    | _ :: _ => xappend e bytes sz s ys n none m st)

/-- the bytes of a text, as elements. -/
def bytesRow (b : ByteArray) : List (List AV) := b.data.toList.map fun c => [.int true .u8 (c.toNat : Int)]

def notInt (P : Program) (t : TypeId) : Bool :=
  match P.underlying t with
  | some (.slice _) => true
  | some .string => true
  | _ => false

def xappendOp (P : Program) (t : TypeId) (s x : AV) (m : Mem) (st : List Ch) : Option Out :=
  match P.underlying t with
  | some (.slice e) => (match P.info? e with
    | some i => bif Nat.blt 0 i.size && Nat.blt 0 i.bytes && (match zeroT P e with | some z => Nat.beq (len' z.cells) i.size | none => false) then (match x with
      | .nils => xappendN e i.bytes i.size s [] 0 none m st
      | .emp => xappendN e i.bytes i.size s [] 0 none m st
      | .sl sy id' lo' n' => (match nth m id' with
        | some (.row T _ sh sz xs) => bif Nat.beq sz i.size && (!sy.sym || sh.isSome) then
          (match need (sy.sym || sh.isSome) (lo' + n' ≤ xs.length) with
          | some o1 => (match xappendN e i.bytes i.size s ((xs.drop lo').take n') n' sh m st with
            | some (v, m, st, o) => some (v, m, st, o1 ++ o)
            | none => none)
          | none => none) else none
        | _ => none)
      | .str _ b => bif Nat.beq i.size 1 then xappendN e i.bytes i.size s (bytesRow b) b.size (some [.i .u8]) m st else none
      | _ => none) else none
    | none => none)
  | _ => none

/-- a call of a Go function: its number and arguments. -/
def xcallee (o : Op) (r : Regs) : Option (FuncId × List AV) :=
  match o with
  | .call c => (match c.callee, evs r c.args.toList with
    | .value f, some args => (match ev r f with
      | some (.fn (.func k) first cap) => some (k, first ++ args ++ cap)
      | _ => none)
    | _, _ => none)
  | _ => none

def pure' (v : Option AV) (m : Mem) (st : List Ch) : Option (AV × Mem × List Ch × Obs) :=
  match v with | some v => some (v, m, st, []) | none => none

def same' (v : Option (AV × List Ch × Obs)) (m : Mem) : Option (AV × Mem × List Ch × Obs) :=
  match v with | some (v, st, o) => some (v, m, st, o) | none => none

def evO (r : Regs) : Option Operand → Option (Option AV)
  | none => some none
  | some x => (match ev r x with | some v => some (some v) | none => none)

/-- the text that a row of bytes holds. -/
def rowStr (xs : List (List AV)) : ByteArray := ⟨(xs.map fun c => (intOf (nthA c 0)).toNat.toUInt8).toArray⟩

/-- the data pointer of a slice. -/
def xsliceData (P : Program) (ty : TypeId) (x : AV) (m : Mem) (st : List Ch) : Option Out :=
  match x with
  | .sl .n id _ len => (match nth m id, P.underlying ty with
    | some (.row _ _ _ _ _), some (.pointer _) => some (.dptr id len, m, st, [])
    | _, _ => none)
  | .sl .c id lo len => (match nth m id, P.underlying ty with
    | some (.row _ _ _ _ _), some (.pointer _) => (match lo with | 0 => some (.dptr id len, m, st, []) | _ => none)
    | _, _ => none)
  | .nils => some (.nilp, m, st, [])
  | _ => none

/-- a string laid over a row of bytes: the row is not written again. -/
def xunsafeString (P : Program) (pt : TypeId) (p : AV) (n : Int) (m : Mem) (st : List Ch) : Option Out :=
  match p with
  | .nilp => (match decide (n = 0) with | true => some (.str false ⟨#[]⟩, m, st, []) | false => none)
  | .dptr id len => (match nth m id, P.underlying pt with
    | some (.row T false (some ks) sz xs), some (.pointer e) => bif cksEq ks [.i .u8] && Nat.beq sz 1 && Nat.beq T e && Nat.beq (P.cellsOf e) 1 then
        some (.str true (rowStr xs), upd m id (.row T true (some ks) sz xs), st, [.fact (n = (len : Int)), .fact (xs.length = len), .fact (xs = bytesRow (rowStr xs)), .fact ((len : Int) ≤ 70368744177664)]) else none
    | _, _ => none)
  | _ => none

/-- builtins that write, or make memory. -/
def xmore (P : Program) (ty : TypeId) (b : Builtin) (ts : List TypeId) (l : List AV) (m : Mem) (st : List Ch) : Option Out :=
  match b with
  | .unsafeSliceData => (match l with
    | [x] => xsliceData P ty x m st
    | _ => none)
  | .unsafeString => (match l with
    | [p, .int _ .i64 n] => (match ts with
      | [pt, _] => xunsafeString P pt p n m st
      | _ => none)
    | _ => none)
  | _ => none

def xbuiltin (P : Program) (ty : TypeId) (b : Builtin) (ts : List TypeId) (l : List AV) (m : Mem) (st : List Ch) : Option Out :=
  match b with
  | .len => (match l with
    | [x] => (match ts with
      | [t] => bif lenT P t x then pure' (xlen x) m st else none
      | _ => none)
    | _ => none)
  | .min => pure' (minI l) m st
  | .max => pure' (maxI l) m st
  | .append => (match l with
    | [s, x] => (match ts with
      | [t, t'] => bif notInt P t' then xappendOp P t s x m st else none
      | _ => none)
    | _ => none)
  | b => xmore P ty b ts l m st

def xop (P : Program) (ty : TypeId) (o : Op) (r : Regs) (m : Mem) (st : List Ch) : Option (AV × Mem × List Ch × Obs) :=
  match o with
  | .move x => pure' (ev r x) m st
  | .assign x => pure' (ev r x) m st
  | .pick c a b => (match ev r c with
    | some (.bool false true) => pure' (ev r a) m st
    | some (.bool false false) => pure' (ev r b) m st
    | some (.bool true x) => (match st with
      | .t :: st => (match ev r a with | some v => some (v, m, st, [.fact (x = true)]) | none => none)
      | .f :: st => (match ev r b with | some v => some (v, m, st, [.fact (x = false)]) | none => none)
      | _ => none)
    | _ => none)
  | .alloc t => (match zeroT P t with | some z => some (.ptr (len' m) 0, m ++ [.cells t z.cells], st, []) | none => none)
  | .box t x => (match ev r x with | some v => bif ones v.cells then some (.ptr (len' m) 0, m ++ [.cells t v.cells], st, []) else none | none => none)
  | .build t ps => (match evParts r ps.toList with | some l => pure' (xbuild P t l) m st | none => none)
  | .buildSlice t n ps => (match evParts r ps.toList with
    | some l => (match xbuildSlice P t n l m with | some (v, m) => some (v, m, st, []) | none => none)
    | none => none)
  | .load t a => (match ev r a with | some a => same' (xload P t a m st) m | none => none)
  | .store t a x => (match ev r a, ev r x with
    | some a, some v => (match xstore P t a v m st with | some (m, st, o) => some (.tup [], m, st, o) | none => none)
    | _, _ => none)
  | .nilCheck x => (match ev r x with
    | some (.ptr id off) => some (.ptr id off, m, st, [])
    | some (.eptr id i j) => some (.eptr id i j, m, st, [])
    | _ => none)
  | .binOp op t x y _ => (match ev r x, ev r y with | some a, some b => same' (xbin P op t a b st) m | _, _ => none)
  | .unOp op _ x => (match ev r x with | some a => pure' (xun op a) m st | none => none)
  | .convert src dst x => (match ev r x with
    | some a => (match xconvert P src dst a with
      | some (v, o) => some (v, m, st, o)
      | none => (match xunsafe P src dst a m with
        | some v => some (v, m, st, [])
        | none => none))
    | none => none)
  | .makeInterface t x => (match ev r x with | some a => (match P.concrete t with | true => some (.iface t a, m, st, []) | false => none) | none => none)
  | .makeFunc f first cap => (match evs r first.toList, evs r cap.toList with | some a, some b => some (.fn f a b, m, st, []) | _, _ => none)
  | .slice t x lo hi mx => (match ev r x, evO r lo, evO r hi, evO r mx with
    | some a, some l, some h, some x => same' (xslice P t a l h x m st) m
    | _, _, _, _ => none)
  | .fieldAddr t x i => (match ev r x with | some a => pure' (xfieldAddr P t a i) m st | none => none)
  | .field t x i => (match ev r x, P.underlying t with
    | some (.agg cs), some (.struct fs) => (match nth fs.toList i with | some f => pure' (partT P f.type cs f.offset) m st | none => none)
    | _, _ => none)
  | .indexAddr t x i => (match ev r x, ev r i with | some a, some b => same' (xindexAddr P t a b m st) m | _, _ => none)
  | .index t x i => (match ev r x, ev r i with | some a, some b => same' (xindex P t a b st) m | _, _ => none)
  | .extract x i => (match ev r x with | some (.tup vs) => pure' (nth vs i) m st | _ => none)
  | .call c => (match c.callee with
    | .builtin b => (match evs r c.args.toList with | some l => xbuiltin P ty b c.argTypes.toList l m st | none => none)
    | _ => none)
  | _ => none

def xguard (ops : List Oper) (r : Regs) (g : Option (Nat × Bool)) (st : List Ch) : Option (Bool × List Ch × Obs) :=
  match g with
  | none => some (true, st, [])
  | some (j, want) => (match nth ops j with
    | some o => (match o.dst with
      | some d => (match get r d with
        | some (.bool false b) => some (b == want, st, [])
        | some (.bool true b) => (match st with
          | .t :: st => some (true == want, st, [.fact (b = true)])
          | .f :: st => some (false == want, st, [.fact (b = false)])
          | _ => none)
        | _ => none)
      | none => none)
    | none => none)

def put (N : Nat) (r : Regs) (d : Option Tmp) (v : AV) : Option Regs :=
  match d with
  | some t => bif Nat.blt t N then some ((t, v) :: r) else none
  | none => some r

def isCall : Op → Bool
  | .call c => (match c.callee with | .value _ => true | _ => false)
  | _ => false

def number {α : Type} : Nat → List α → List (Nat × α)
  | _, [] => []
  | n, a :: l => (n, a) :: number (n + 1) l

/-- a Go function with a body, that is entered. -/
def enters (P : Program) (f : FuncId) : Bool :=
  match P.funcs[f]? with
  | some fn => fn.body.isSome && !(fn.name == "runtime.NumGoroutine")
  | none => false

/-- one operation: its value, memory, stream, what is owed. -/
def xstep (P : Program) (call : CallFn) (o : Oper) (r : Regs) (m : Mem) (st : List Ch) : Res Out :=
  match isCall o.op with
  | true => (match xcallee o.op r with
    | some (f, args) => call f args m st
    | none => .no (.op o r m st))
  | false => (match xop P o.type o.op r m st with
    | some x => .ok x
    | none => .no (.op o r m st))

def xops (P : Program) (call : CallFn) (N : Nat) (ops : List Oper) : List Oper → Regs → Mem → List Ch → Res (Regs × Mem × List Ch × Obs)
  | [], r, m, st => .ok (r, m, st, [])
  | o :: l, r, m, st => match xguard ops r o.guard st with
    | some (true, st, g) => (match xstep P call o r m st with
      | .ok (v, m, st, ob) => (match put N r o.dst v with
        | some r => (match xops P call N ops l r m st with
          | .ok (r, m, st, ob') => .ok (r, m, st, g ++ ob ++ ob')
          | .no e => .no e)
        | none => .no (.op o r m st))
      | .no e => .no e)
    | some (false, st, g) => (match put N r o.dst (.tup []) with
      | some r => (match xops P call N ops l r m st with
        | .ok (r, m, st, ob') => .ok (r, m, st, g ++ ob')
        | .no e => .no e)
      | none => .no (.op o r m st))
    | none => .no (.op o r m st)

/-- what is noted of an operation of a region that draws its order. -/
structure Tr where
  o : Oper
  run : Bool
  m : Mem
  m' : Mem
  r : Regs
  st : List Ch
  v : AV

def xtrace (P : Program) (call : CallFn) (N : Nat) (ops : List Oper) : List Oper → Regs → Mem → List Ch → Res (List Tr × Regs × Mem × List Ch × Obs)
  | [], r, m, st => .ok ([], r, m, st, [])
  | o :: l, r, m, st => match xguard ops r o.guard st with
    | some (true, st, g) => (match xstep P call o r m st with
      | .ok (v, m1, st1, ob) => (match put N r o.dst v with
        | some r1 => (match xtrace P call N ops l r1 m1 st1 with
          | .ok (T, r2, m2, st2, ob') => .ok (⟨o, true, m, m1, r, st, v⟩ :: T, r2, m2, st2, g ++ ob ++ ob')
          | .no e => .no e)
        | none => .no (.op o r m st))
      | .no e => .no e)
    | some (false, st, g) => (match put N r o.dst (.tup []) with
      | some r1 => (match xtrace P call N ops l r1 m st with
        | .ok (T, r2, m2, st2, ob') => .ok (⟨o, false, m, m, r, st, .tup []⟩ :: T, r2, m2, st2, g ++ ob')
        | .no e => .no e)
      | none => .no (.op o r m st))
    | none => .no (.op o r m st)

/-- does the operation change memory, or run Go code? -/
def isW : Op → Bool
  | .alloc _ => true
  | .box _ _ => true
  | .buildSlice _ _ _ => true
  | .store _ _ _ => true
  | .call c => (match c.callee with
    | .builtin .len => false
    | .builtin .min => false
    | .builtin .max => false
    | _ => true)
  | _ => false

/-- the entry that an operation looks into. -/
def idOf : AV → Option Nat
  | .ptr id _ => some id
  | .eptr id _ _ => some id
  | .sl _ id _ _ => some id
  | .dptr id _ => some id
  | _ => none

def rdId (o : Op) (r : Regs) : Option Nat :=
  match o with
  | .load _ a => (match ev r a with | some v => idOf v | none => none)
  | .slice _ x _ _ _ => (match ev r x with | some v => idOf v | none => none)
  | .convert _ _ x => (match ev r x with | some v => idOf v | none => none)
  | .indexAddr _ x _ => (match ev r x with | some v => idOf v | none => none)
  | _ => none

/-- a writing operation that leaves an entry alone. -/
def spares (o : Op) (r : Regs) (m : Mem) (id : Nat) : Bool :=
  match o with
  | .alloc _ => Nat.blt id (len' m)
  | .box _ _ => Nat.blt id (len' m)
  | .buildSlice _ _ _ => Nat.blt id (len' m)
  | .store _ a _ => (match ev r a with
    | some v => (match idOf v with | some k => !(Nat.beq k id) | none => false)
    | none => false)
  | _ => false

def isF : Op → Bool
  | .alloc _ => true
  | .box _ _ => true
  | .buildSlice _ _ _ => true
  | _ => false

/-- what an operation waits for, directly or through others: a number's bits. -/
def orEdges (A : List Nat) : List Edge → Nat
  | [] => 0
  | e :: es => (bif Region.binds .any e then (2 ^ e.on ||| (match nth A e.on with | some x => x | none => 0)) else 0) ||| orEdges A es

def ancs : List Nat → List Oper → List Nat
  | A, [] => A
  | A, o :: l => ancs (A ++ [orEdges A o.after.toList]) l

def anc (A : List Nat) (i j : Nat) : Bool := match nth A j with | some x => Nat.testBit x i | none => false

/-- the slots that an operation names. -/
def looks (ops : List Oper) (o : Oper) : List Tmp :=
  (o.op.operands.toList.filterMap fun | .tmp t => some t | _ => none) ++
  (match o.guard with
   | some (g, _) => (match nth ops g with | some q => q.dst.toList | none => [])
   | none => [])

def hasN (t : Nat) (l : List Nat) : Bool := List.rec (motive := fun _ => Bool) false (fun a _ ih => bif Nat.beq a t then true else ih) l
theorem hasN_nil (t : Nat) : hasN t [] = false := rfl
theorem hasN_cons (t a : Nat) (l : List Nat) : hasN t (a :: l) = (Nat.beq a t || hasN t l) := rfl

def edgesOk (k : Nat) : List Edge → Bool
  | [] => true
  | e :: es => (!(Region.binds .any e) || Nat.blt e.on k) && edgesOk k es

def allN {α : Type} (f : Nat → α → Bool) : Nat → List α → Bool
  | _, [] => true
  | k, a :: l => f k a && allN f (k + 1) l

/-- each slot that an operation names is written before it or behind it by force of edges; no two operations write one slot. -/
def slotsOk (A : List Nat) (ops : List Oper) : Bool :=
  allN (fun p x => edgesOk p x.after.toList && allN (fun q y => Nat.beq p q ||
    (match x.dst with
    | none => true
    | some d => (match y.dst with | some d' => !(Nat.beq d d') | none => true) &&
      (!(hasN d (looks ops y)) || (bif Nat.blt p q then anc A p q else anc A q p)))) 0 ops) 0 ops

def isC (t : Tr) : Bool := t.run && isW t.o.op && !(isF t.o.op)

/-- what writes or runs waits for all that makes memory, writes or runs before it in the text. -/
def chainOk (A : List Nat) (T : List Tr) : Bool :=
  allN (fun q y => !(isC y) || allN (fun p x => !(Nat.blt p q && x.run && isW x.o.op) || anc A p q) 0 T) 0 T

/-- what looks into a new entry waits for it. -/
def freshOk (A : List Nat) (T : List Tr) : Bool :=
  allN (fun p x => !(x.run && !(isW x.o.op)) || (match rdId x.o.op x.r with
    | none => true
    | some id => allN (fun q y => !(y.run && isF y.o.op && Nat.beq (len' y.m) id) || (Nat.blt q p && anc A q p)) 0 T)) 0 T

def flatN {α : Type} (f : Nat → α → Obs) : Nat → List α → Obs
  | _, [] => []
  | k, a :: l => f k a ++ flatN f (k + 1) l

/-- what is owed for the entries that are read while a writing operation may run before or behind. -/
def crossObs (A : List Nat) (T : List Tr) : Obs :=
  flatN (fun p x => bif x.run && !(isW x.o.op) then (match rdId x.o.op x.r with
    | none => []
    | some id => flatN (fun q y => bif isC y && !(bif Nat.blt q p then anc A q p else anc A p q) && !(spares y.o.op y.r y.m id) then [.same (nth y.m' id) (nth y.m id)] else []) 0 T) else []) 0 T

def xdraw (P : Program) (call : CallFn) (N : Nat) (ops : List Oper) (r : Regs) (m : Mem) (st : List Ch) : Res (Regs × Mem × List Ch × Obs) :=
  match xtrace P call N ops ops r m st with
  | .ok (T, r', m', st', ob) => bif slotsOk (ancs [] ops) ops && chainOk (ancs [] ops) T && freshOk (ancs [] ops) T then .ok (r', m', st', ob ++ crossObs (ancs [] ops) T) else .no (.code (.region 0 ops.toArray true) r m st)
  | .no e => .no e

abbrev LoopP := Nat → Code → Regs → Mem → Ex → Regs → Mem → Prop
abbrev CallP := FuncId → List AV → Mem → AV → Mem → Prop

def xcode (P : Program) (call : CallFn) (lp : LoopP) (N : Nat) : Nat → Code → Regs → Mem → List Ch → Res (Ex × Regs × Mem × List Ch × Obs)
  | 0, c, r, m, st => .no (.code c r m st)
  | n + 1, c, r, m, st => match c with
    | .skip => .ok (.normal, r, m, st, [])
    | .ret => .ok (.ret, r, m, st, [])
    | .exit id => .ok (.exit id, r, m, st, [])
    | .region _ ops d => (match (match d with | false => xops P call N ops.toList ops.toList r m st | true => xdraw P call N ops.toList r m st) with
      | .ok (r, m, st, o) => .ok (.normal, r, m, st, o)
      | .no e => .no e)
    | .seq a b => (match xcode P call lp N n a r m st with
      | .ok (.normal, r, m, st, o) => (match xcode P call lp N n b r m st with
        | .ok (e, r, m, st, o') => .ok (e, r, m, st, o ++ o')
        | .no e => .no e)
      | x => x)
    | .cond c a b => (match ev r c with
      | some (.bool false true) => xcode P call lp N n a r m st
      | some (.bool false false) => xcode P call lp N n b r m st
      | _ => .no (.code (.cond c a b) r m st))
    | .block id c => (match xcode P call lp N n c r m st with
      | .ok (.exit j, r, m, st, o) => .ok (bif Nat.beq j id then .normal else .exit j, r, m, st, o)
      | x => x)
    | .loop c => (match st with
      | .loop e r' m' :: st => .ok (e, r', m', st, [.fact (lp N c r m e r' m')])
      | .keep :: st => .no (.code (.loop c) r m st)
      | st => (match xcode P call lp N n c r m st with
        | .ok (.normal, r, m, st, o) => (match xcode P call lp N n (.loop c) r m st with
          | .ok (e, r, m, st, o') => .ok (e, r, m, st, o ++ o')
          | .no e => .no e)
        | x => x))
    | c => .no (.code c r m st)

def xresults (P : Program) (r : Regs) (m : Mem) : List ResultVar → Option (List AV)
  | [] => some []
  | .tmp t :: l => (match get r t, xresults P r m l with | some v, some vs => some (v :: vs) | _, _ => none)
  | .cell p ty :: l => (match get r p with
    | some a => (match xload P ty a m [], xresults P r m l with | some (v, [], []), some vs => some (v :: vs) | _, _ => none)
    | none => none)

def xcall (P : Program) (leaf : LeafFn) (cp : CallP) (lp : LoopP) : Nat → CallFn
  | 0, f, _, _, _ => .no (.func f)
  | n + 1, f, args, m, st => match leaf f args m st with
    | some x => .ok x
    | none => (match enters P f with
     | false => .no (.func f)
     | true => (match st with
      | .call v m' :: st => .ok (v, m', st, [.fact (cp f args m v m')])
      | .pure v :: st => .ok (v, m, st, [.fact (∀ m, cp f args m v m)])
      | st => (match P.funcs[f]? with
        | some fn => (match fn.body with
          | some c => (match Nat.ble (len' args) fn.ntmps with
            | true => (match xcode P (xcall P leaf cp lp n) lp fn.ntmps 1000 c (number 0 args) m st with
              | .ok (e, r, m, st, o) => (match e with
                | .exit _ => .no (.func f)
                | _ => (match xresults P r m fn.results.toList with
                  | some [v] => .ok (v, m, st, o)
                  | some vs => .ok (.tup vs, m, st, o)
                  | none => .no (.within f (.res r m))))
              | .no e => .no (.within f e))
            | false => .no (.func f))
          | none => .no (.func f))
        | none => .no (.func f))))
end
end Go.XM

namespace Go.XM
open Go
structure G where
  b : Nat
  off : Nat
  cap : Nat
  sz : Nat
abbrev Gm := Nat → Option G

mutual
def VR (γ : Gm) : AV → Value → Prop
  | .int _ k n, V => V = .int k n
  | .bool _ b, V => V = .bool b
  | .str _ s, V => V = .string s
  | .nilp, V => V = .pointer none
  | .nils, V => V = .slice none 0 0
  | .nilfn, V => V = .nilFunc
  | .nilif, V => V = .nilIface
  | .ptr id off, V => ∃ g, γ id = some g ∧ V = .pointer (some ⟨g.b, g.off + off, none⟩)
  | .eptr id i j, V => ∃ g, γ id = some g ∧ V = .pointer (some ⟨g.b, g.off + i * g.sz + j, none⟩)
  | .sl s id lo len, V => (∃ g ao, γ id = some g ∧ V = .slice (some ⟨g.b, ao, none⟩) len (g.cap - lo) ∧ lo + len ≤ g.cap ∧ (lo = 0 ∨ lo < g.cap → ao = g.off + lo * g.sz) ∧ (s = .n → lo = 0)) ∨ (s.sym = true ∧ lo = 0 ∧ len = 0 ∧ ∃ a, V = .slice a 0 0 ∧ (s = .n → a = none))
  | .dptr id len, V => ∃ p, V = .pointer p ∧ (len = 0 ∨ ∃ g, γ id = some g ∧ p = some ⟨g.b, g.off, none⟩)
  | .emp, V => ∃ a, V = .slice a 0 0
  | .agg cs, V => ∃ l : List Value, V = .agg l.toArray ∧ LR γ cs l
  | .tup vs, V => ∃ l : List Value, V = .tuple l.toArray ∧ LR γ vs l
  | .fn f first cap, V => ∃ a b : List Value, V = .func f a.toArray b.toArray ∧ LR γ first a ∧ LR γ cap b
  | .iface t v, V => ∃ x, V = .iface t x ∧ VR γ v x
  | .raw v, V => V = v ∧ v.oneCell' = true
def LR (γ : Gm) : List AV → List Value → Prop
  | [], l => l = []
  | a :: r, l => ∃ v t, l = v :: t ∧ VR γ a v ∧ LR γ r t
end

def Gm.le (γ γ' : Gm) : Prop := ∀ id g, γ id = some g → γ' id = some g

mutual
theorem VR.mono {γ γ' : Gm} (h : γ.le γ') : ∀ {v : AV} {V : Value}, VR γ v V → VR γ' v V
  | .int .., _, r => r
  | .bool .., _, r => r
  | .str .., _, r => r
  | .nilp, _, r => r
  | .nils, _, r => r
  | .nilfn, _, r => r
  | .nilif, _, r => r
  | .ptr .., _, ⟨g, hg, r⟩ => ⟨g, h _ _ hg, r⟩
  | .eptr .., _, ⟨g, hg, r⟩ => ⟨g, h _ _ hg, r⟩
  | .sl .., _, .inl ⟨g, ao, hg, r⟩ => .inl ⟨g, ao, h _ _ hg, r⟩
  | .sl .., _, .inr r => .inr r
  | .emp, _, r => r
  | .dptr .., _, ⟨p, e, h1⟩ => ⟨p, e, h1.imp (fun h => h) fun ⟨g, hg, r⟩ => ⟨g, h _ _ hg, r⟩⟩
  | .agg _, _, ⟨l, e, r⟩ => ⟨l, e, LR.mono h r⟩
  | .tup _, _, ⟨l, e, r⟩ => ⟨l, e, LR.mono h r⟩
  | .fn _ _ _, _, ⟨a, b, e, r, r'⟩ => ⟨a, b, e, LR.mono h r, LR.mono h r'⟩
  | .iface _ _, _, ⟨x, e, r⟩ => ⟨x, e, VR.mono h r⟩
  | .raw _, _, r => r
theorem LR.mono {γ γ' : Gm} (h : γ.le γ') : ∀ {v : List AV} {V : List Value}, LR γ v V → LR γ' v V
  | [], _, r => r
  | _ :: _, _, ⟨v, t, e, r, r'⟩ => ⟨v, t, e, VR.mono h r, LR.mono h r'⟩
end

theorem LR.length {γ : Gm} : ∀ {v : List AV} {V : List Value}, LR γ v V → V.length = v.length
  | [], _, r => by cases r; rfl
  | _ :: _, _, ⟨_, _, e, _, r'⟩ => by subst e; simp [LR.length r']

theorem LR.append {γ : Gm} : ∀ {v v' : List AV} {V V' : List Value}, LR γ v V → LR γ v' V' → LR γ (v ++ v') (V ++ V')
  | [], _, _, _, r, r' => by cases r; exact r'
  | _ :: _, _, _, _, ⟨x, t, e, r, r1⟩, r' => by subst e; exact ⟨x, _, rfl, r, LR.append r1 r'⟩

theorem LR.split {γ : Gm} : ∀ {v v' : List AV} {V : List Value}, LR γ (v ++ v') V → ∃ A B, V = A ++ B ∧ LR γ v A ∧ LR γ v' B
  | [], _, V, r => ⟨[], V, rfl, rfl, r⟩
  | _ :: _, _, _, ⟨x, t, e, r, r1⟩ => by
    obtain ⟨A, B, h, ra, rb⟩ := LR.split r1
    exact ⟨x :: A, B, by rw [e, h]; rfl, ⟨x, A, rfl, r, ra⟩, rb⟩

theorem nth_eq {α : Type} : ∀ (l : List α) (n : Nat), nth l n = l[n]?
  | [], _ => by simp [nth_nil]
  | _ :: _, 0 => by simp [nth_zero]
  | _ :: l, n + 1 => by simp [nth_succ, nth_eq l n]

theorem len_eq {α : Type} : ∀ (l : List α), len' l = l.length
  | [] => rfl
  | _ :: l => by simp [len'_cons, len_eq l]

theorem upd_eq {α : Type} : ∀ (l : List α) (n : Nat) (v : α), upd l n v = l.set n v
  | [], _, _ => by simp [upd_nil]
  | _ :: _, 0, _ => by simp [upd_zero]
  | _ :: l, n + 1, v => by simp [upd_succ, upd_eq l n v]

/-- cut: a middle part. -/
theorem cut_spec {α : Type} : ∀ (l : List α) (i n : Nat) (r : List α), cut l i n = some r → ∃ A B, l = A ++ r ++ B ∧ A.length = i ∧ r.length = n
  | [], 0, 0, r, h => by simp [cut] at h; subst h; exact ⟨[], [], by simp⟩
  | [], 0, n + 1, r, h => by simp [cut] at h
  | [], i + 1, n, r, h => by simp [cut] at h
  | a :: l, 0, 0, r, h => by simp [cut] at h; subst h; exact ⟨[], a :: l, by simp⟩
  | a :: l, 0, n + 1, r, h => by
    simp only [cut] at h
    cases hc : cut l 0 n with
    | none => rw [hc] at h; simp at h
    | some r' =>
      rw [hc] at h; simp at h; subst h
      obtain ⟨A, B, e, e1, e2⟩ := cut_spec l 0 n r' hc
      have : A = [] := List.eq_nil_of_length_eq_zero e1
      subst this
      exact ⟨[], B, by simp [e], rfl, by simp [e2]⟩
  | a :: l, i + 1, n, r, h => by
    have h' : cut l i n = some r := by simpa [cut] using h
    obtain ⟨A, B, e, e1, e2⟩ := cut_spec l i n r h'
    exact ⟨a :: A, B, by simp [e], by simp [e1], e2⟩

theorem paste_spec {α : Type} : ∀ (l : List α) (i : Nat) (xs r : List α), paste l i xs = some r → ∃ A M B, l = A ++ M ++ B ∧ r = A ++ xs ++ B ∧ A.length = i ∧ M.length = xs.length
  | l, 0, [], r, h => by
    have : r = l := by cases l <;> simp [paste] at h <;> simp [h]
    subst this; exact ⟨[], [], r, by simp⟩
  | [], 0, x :: xs, r, h => by simp [paste] at h
  | [], i + 1, xs, r, h => by simp [paste] at h
  | a :: l, 0, x :: xs, r, h => by
    simp only [paste] at h
    cases hc : paste l 0 xs with
    | none => rw [hc] at h; simp at h
    | some r' =>
      rw [hc] at h; simp at h; subst h
      obtain ⟨A, M, B, e, e1, e2, e3⟩ := paste_spec l 0 xs r' hc
      have : A = [] := List.eq_nil_of_length_eq_zero e2
      subst this
      exact ⟨[], a :: M, B, by simp [e], by simp [e1], rfl, by simp [e3]⟩
  | a :: l, i + 1, xs, r, h => by
    have h' : ∃ r', paste l i xs = some r' ∧ r = a :: r' := by
      simp only [paste] at h
      cases hc : paste l i xs with
      | none => rw [hc] at h; simp at h
      | some r' => rw [hc] at h; simp at h; exact ⟨r', rfl, h.symm⟩
    obtain ⟨r', hr, rfl⟩ := h'
    obtain ⟨A, M, B, e, e1, e2, e3⟩ := paste_spec l i xs r' hr
    exact ⟨a :: A, M, B, by simp [e], by simp [e1], by simp [e2], e3⟩

theorem LR.get {γ : Gm} : ∀ {v : List AV} {V : List Value} {i : Nat} {a : AV}, LR γ v V → v[i]? = some a → ∃ x, V[i]? = some x ∧ VR γ a x
  | [], _, _, _, _, h => by simp at h
  | _ :: _, _, 0, _, ⟨x, t, e, r, _⟩, h => by simp at h; subst h; subst e; exact ⟨x, by simp, r⟩
  | _ :: _, _, i + 1, _, ⟨x, t, e, _, r⟩, h => by
    simp at h; subst e
    obtain ⟨y, hy, ry⟩ := LR.get r h
    exact ⟨y, by simpa using hy, ry⟩

theorem LR.mid {γ : Gm} {A M B : List AV} {V : List Value} (h : LR γ (A ++ M ++ B) V) : ∃ A' M' B', V = A' ++ M' ++ B' ∧ LR γ A A' ∧ LR γ M M' ∧ LR γ B B' := by
  obtain ⟨X, B', e, h1, hB⟩ := LR.split h
  obtain ⟨A', M', e', hA, hM⟩ := LR.split h1
  exact ⟨A', M', B', by rw [e, e'], hA, hM, hB⟩

theorem one_spec {γ : Gm} {a : AV} {V : Value} (ho : one a = true) (h : VR γ a V) : V.oneCell' = true := by
  cases a <;> simp [one] at ho <;> simp only [VR] at h
  all_goals first
    | (subst h; rfl)
    | (obtain ⟨g, _, rfl⟩ := h; rfl)
    | (obtain ⟨a, rfl⟩ := h; rfl)
    | (obtain ⟨p, rfl, _⟩ := h; rfl)
    | (obtain ⟨g, ao, _, rfl, _⟩ | ⟨_, _, _, a, rfl, _⟩ := h <;> rfl)
    | (obtain ⟨x, y, rfl, _⟩ := h; rfl)
    | (obtain ⟨x, rfl, _⟩ := h; rfl)
    | (obtain ⟨rfl, h⟩ := h; exact h)

theorem ones_spec {γ : Gm} : ∀ {l : List AV} {V : List Value}, ones l = true → LR γ l V → ∀ u ∈ V, u.oneCell' = true
  | [], _, _, h, u, hu => by cases h; simp at hu
  | a :: l, _, ho, ⟨x, t, e, r, r'⟩, u, hu => by
    simp [ones] at ho
    subst e
    rcases List.mem_cons.1 hu with rfl | hu
    · exact one_spec ho.1 r
    · exact ones_spec ho.2 r' u hu

/-- the cells of a value. -/
theorem cells_spec {γ : Gm} {a : AV} {V : Value} (ho : ones a.cells = true) (h : VR γ a V) : LR γ a.cells V.cells.toList := by
  have single : one a = true → a.cells = [a] → LR γ a.cells V.cells.toList := fun h1 h2 => by
    have hv := one_spec h1 h
    rw [h2]
    have : V.cells = #[V] := by cases V <;> first | rfl | (simp [Value.oneCell'] at hv)
    rw [this]
    exact ⟨V, [], rfl, h, rfl⟩
  cases a with
  | agg cs => obtain ⟨l, rfl, r⟩ := h; exact r
  | tup vs => simp [AV.cells, ones, one] at ho
  | _ => exact single rfl rfl

theorem ofV1_spec {v : Value} {a : AV} (γ : Gm) (h : ofV1 v = some a) : VR γ a v := by
  unfold ofV1 at h
  split at h <;> simp at h <;> subst h <;> simp [VR]

theorem ofVL_spec (γ : Gm) : ∀ {l : List Value} {a : List AV}, ofVL l = some a → LR γ a l
  | [], a, h => by simp [ofVL] at h; subst h; rfl
  | v :: r, a, h => by
    simp only [ofVL] at h
    cases h1 : ofV1 v with
    | none => rw [h1] at h; simp at h
    | some x =>
      cases h2 : ofVL r with
      | none => rw [h1, h2] at h; simp at h
      | some y =>
        rw [h1, h2] at h; simp at h; subst h
        exact ⟨v, r, rfl, ofV1_spec γ h1, ofVL_spec γ h2⟩

theorem ofV_spec {v : Value} {a : AV} (γ : Gm) (h : ofV v = some a) : VR γ a v := by
  unfold ofV at h
  split at h
  · rename_i cs
    cases h1 : ofVL cs.toList with
    | none => rw [h1] at h; simp at h
    | some l =>
      rw [h1] at h; simp at h; subst h
      exact ⟨cs.toList, by simp, ofVL_spec γ h1⟩
  · exact ofV1_spec γ h

/-- Entries. -/
def Ent.rw : Ent → Bool
  | .dead => false
  | .cells _ _ => true
  | .row _ ro _ _ _ => !ro
def Ent.live : Ent → Bool
  | .dead => false
  | _ => true

def EntOk (γ : Gm) (w : World) (id : Nat) : Ent → Prop
  | .dead => True
  | .cells T cs => ∃ g vs, γ id = some g ∧ g.off = 0 ∧ LR γ cs vs ∧ w.heap[g.b]? = some (.cells vs.toArray T (0, 0))
  | .row T ro sh sz xs => 0 < sz ∧ (∀ ks, sh = some ks → ks.length = sz ∧ ∀ x ∈ xs, x = kcells x 0 ks) ∧ ((sh.isSome = true ∧ xs = [] ∧ γ id = none) ∨ ∃ g pre vs rest fr, γ id = some g ∧ g.sz = sz ∧ 0 < sz ∧ pre.length = g.off ∧ LR γ xs.flatten vs ∧ (∀ x ∈ xs, x.length = sz) ∧ (∀ u ∈ vs, u.oneCell' = true) ∧
      w.heap[g.b]? = some (.cells (pre ++ vs ++ rest).toArray T fr) ∧ (ro = false → fr = (0, 0)) ∧ g.cap * sz ≤ vs.length + rest.length)

structure MemOk (H : Nat) (γ : Gm) (m : Mem) (w : World) : Prop where
  ent : ∀ id e, m[id]? = some e → EntOk γ w id e
  dom : ∀ id g, γ id = some g → (id < m.length ∨ H ≤ id) ∧ g.b < w.heap.size
  sep : ∀ i j ei ej gi gj, i ≠ j → m[i]? = some ei → m[j]? = some ej → ei.rw = true → ej.live = true → γ i = some gi → γ j = some gj → gi.b ≠ gj.b

/-- a live entry's block -/
def Lv (γ : Gm) (m : Mem) (b : Nat) : Prop := ∃ id e g, m[id]? = some e ∧ e.live = true ∧ γ id = some g ∧ g.b = b

def Foot (γ : Gm) (m : Mem) (b : Nat) : Prop := ∃ id e g, m[id]? = some e ∧ e.rw = true ∧ γ id = some g ∧ g.b = b

structure SF (γ : Gm) (m : Mem) (w : World) (γ' : Gm) (m' : Mem) (w' : World) : Prop where
  ext : γ.le γ'
  os : w'.os = w.os
  tape : w'.tape = w.tape
  output : w'.output = w.output
  size : w.heap.size ≤ w'.heap.size
  keep : ∀ k, k < w.heap.size → ¬ Foot γ m k → w'.heap[k]? = w.heap[k]?
  foot : ∀ b, Foot γ' m' b → Foot γ m b ∨ w.heap.size ≤ b
  live : ∀ b, Lv γ' m' b → Lv γ m b ∨ w.heap.size ≤ b
  len : m.length ≤ m'.length
  back : ∀ id, id < m.length ∨ m'.length ≤ id → γ' id = γ id

theorem Gm.le_refl (γ : Gm) : γ.le γ := fun _ _ h => h
theorem SF.refl (γ : Gm) (m : Mem) (w : World) : SF γ m w γ m w := ⟨Gm.le_refl _, rfl, rfl, rfl, Nat.le_refl _, fun _ _ _ => rfl, fun _ h => .inl h, fun _ h => .inl h, Nat.le_refl _, fun _ _ => rfl⟩
theorem SF.trans {γ γ1 γ2 : Gm} {m m1 m2 : Mem} {w w1 w2 : World} (h : SF γ m w γ1 m1 w1) (k : SF γ1 m1 w1 γ2 m2 w2) : SF γ m w γ2 m2 w2 where
  ext := fun id g hg => k.ext id g (h.ext id g hg)
  os := k.os.trans h.os
  tape := k.tape.trans h.tape
  output := k.output.trans h.output
  size := Nat.le_trans h.size k.size
  keep := fun b hb hf => by
    rw [k.keep b (Nat.lt_of_lt_of_le hb h.size) (fun hf' => (h.foot b hf').elim hf (fun hle => by omega)), h.keep b hb hf]
  foot := fun b hb => (k.foot b hb).elim (fun hb' => h.foot b hb') (fun hle => .inr (Nat.le_trans h.size hle))
  live := fun b hb => (k.live b hb).elim (fun hb' => h.live b hb') (fun hle => .inr (Nat.le_trans h.size hle))
  len := Nat.le_trans h.len k.len
  back := fun id hid => by
    have h1 := h.len
    have h2 := k.len
    rw [k.back id (by omega), h.back id (by omega)]

/-- A world that parts from another in the draws alone. -/
def Same (w w' : World) : Prop := w'.heap = w.heap ∧ w'.os = w.os ∧ w'.tape = w.tape ∧ w'.output = w.output

theorem EntOk.of_heap {γ : Gm} {w w' : World} {id : Nat} {e : Ent} (h : EntOk γ w id e) (hh : ∀ g, γ id = some g → w'.heap[g.b]? = w.heap[g.b]?) : EntOk γ w' id e := by
  cases e with
  | dead => trivial
  | cells T cs => obtain ⟨g, vs, hg, ho, hl, hw⟩ := h; exact ⟨g, vs, hg, ho, hl, (hh g hg).trans hw⟩
  | row T ro sh sz xs =>
    obtain ⟨hp, hc, h⟩ := h
    rcases h with h | ⟨g, pre, vs, rest, fr, hg, h1, h2, h3, h4, h5, h8, hw, h6, h7⟩
    · exact ⟨hp, hc, .inl h⟩
    · exact ⟨hp, hc, .inr ⟨g, pre, vs, rest, fr, hg, h1, h2, h3, h4, h5, h8, (hh g hg).trans hw, h6, h7⟩⟩

theorem EntOk.mono {γ γ' : Gm} {w : World} {id : Nat} {e : Ent} (hle : γ.le γ') (hid : γ' id = γ id) (h : EntOk γ w id e) : EntOk γ' w id e := by
  cases e with
  | dead => trivial
  | cells T cs => obtain ⟨g, vs, hg, ho, hl, hw⟩ := h; exact ⟨g, vs, hle _ _ hg, ho, hl.mono hle, hw⟩
  | row T ro sh sz xs =>
    obtain ⟨hp, hc, h⟩ := h
    rcases h with h | ⟨g, pre, vs, rest, fr, hg, h1, h2, h3, h4, h5, h6⟩
    · exact ⟨hp, hc, .inl ⟨h.1, h.2.1, hid.trans h.2.2⟩⟩
    · exact ⟨hp, hc, .inr ⟨g, pre, vs, rest, fr, hle _ _ hg, h1, h2, h3, h4.mono hle, h5, h6⟩⟩

/-- A new entry in a new block. -/
theorem MemOk.new {H : Nat} {γ : Gm} {m : Mem} {w w' : World} (hm : MemOk H γ m w) (hH : m.length + 1 ≤ H) (e : Ent) (g : G) (o : Obj) (hb : g.b = w.heap.size)
    (hw : w'.heap = w.heap.push o) (hos : w'.os = w.os) (htp : w'.tape = w.tape) (hout : w'.output = w.output)
    (he : ∀ γ' : Gm, γ.le γ' → γ' m.length = some g → EntOk γ' w' m.length e) :
    ∃ γ', γ' m.length = some g ∧ MemOk H γ' (m ++ [e]) w' ∧ SF γ m w γ' (m ++ [e]) w' := by
  have hsz : w'.heap.size = w.heap.size + 1 := by rw [hw]; simp
  have hold : ∀ k, k < w.heap.size → w'.heap[k]? = w.heap[k]? := fun k hk => by rw [hw, Array.getElem?_push, if_neg (by omega)]
  let γ' : Gm := fun id => if id = m.length then some g else γ id
  have hle : γ.le γ' := fun id g' h => by
    have := (hm.dom id g' h).1
    show (if id = m.length then some g else γ id) = some g'
    rw [if_neg (by omega)]; exact h
  have hnew : γ' m.length = some g := by show (if m.length = m.length then some g else _) = _; rw [if_pos rfl]
  have hback : ∀ id, id ≠ m.length → γ' id = γ id := fun id h => by show (if id = m.length then some g else γ id) = _; rw [if_neg h]
  have hlook : ∀ id e', (m ++ [e])[id]? = some e' → (id = m.length ∧ e' = e) ∨ (id < m.length ∧ m[id]? = some e') := fun id e' h => by
    rcases Nat.lt_trichotomy id m.length with hl | hl | hl
    · rw [List.getElem?_append_left hl] at h; exact .inr ⟨hl, h⟩
    · subst hl; simp at h; exact .inl ⟨rfl, h.symm⟩
    · rw [List.getElem?_append_right (by omega)] at h
      have : id - m.length ≠ 0 := by omega
      cases hx : id - m.length with
      | zero => omega
      | succ k => rw [hx] at h; simp at h
  refine ⟨γ', hnew, ⟨?_, ?_, ?_⟩, ⟨hle, hos, htp, hout, by omega, fun k hk _ => hold k hk, ?_, ?_, by simp, fun id hid => hback id (by simp at hid; omega)⟩⟩
  · intro id e' h
    rcases hlook id e' h with ⟨rfl, rfl⟩ | ⟨hl, h⟩
    · exact he γ' hle hnew
    · exact ((hm.ent id e' h).mono hle (hback id (by omega))).of_heap fun g' hg' => hold _ (by
        rw [hback id (by omega)] at hg'
        exact (hm.dom id g' hg').2)
  · intro id g' h
    by_cases hi : id = m.length
    · subst hi; rw [hnew] at h; cases h
      exact ⟨by simp, by omega⟩
    · rw [hback id hi] at h
      have := hm.dom id g' h
      exact ⟨by simp; omega, by omega⟩
  · intro i j ei ej gi gj hij hi hj hrw hlive hgi hgj
    rcases hlook i ei hi with ⟨rfl, rfl⟩ | ⟨hl, hi⟩
    · rw [hnew] at hgi; cases hgi
      rcases hlook j ej hj with ⟨rfl, rfl⟩ | ⟨hl', hj⟩
      · exact absurd rfl hij
      · rw [hback j (by omega)] at hgj
        have := (hm.dom j gj hgj).2
        omega
    · rw [hback i (by omega)] at hgi
      rcases hlook j ej hj with ⟨rfl, rfl⟩ | ⟨hl', hj⟩
      · rw [hnew] at hgj; cases hgj
        have := (hm.dom i gi hgi).2
        omega
      · rw [hback j (by omega)] at hgj
        exact hm.sep i j ei ej gi gj hij hi hj hrw hlive hgi hgj
  · intro b hb'
    obtain ⟨id, e', g', hid, hrw, hg', rfl⟩ := hb'
    rcases hlook id e' hid with ⟨rfl, rfl⟩ | ⟨hl, hid⟩
    · rw [hnew] at hg'; cases hg'
      exact .inr (by omega)
    · rw [hback id (by omega)] at hg'
      exact .inl ⟨id, e', g', hid, hrw, hg', rfl⟩
  · intro b hb'
    obtain ⟨id, e', g', hid, hrw, hg', rfl⟩ := hb'
    rcases hlook id e' hid with ⟨rfl, rfl⟩ | ⟨hl, hid⟩
    · rw [hnew] at hg'; cases hg'
      exact .inr (by omega)
    · rw [hback id (by omega)] at hg'
      exact .inl ⟨id, e', g', hid, hrw, hg', rfl⟩

/-- An entry that may be written, written anew in its block. -/
theorem MemOk.write {H : Nat} {γ : Gm} {m : Mem} {w w' : World} (hm : MemOk H γ m w) {id : Nat} {e e' : Ent} {g : G} (hid : m[id]? = some e) (hrw : e.rw = true) (hrw' : e'.rw = true) (hg : γ id = some g)
    (hsz : w'.heap.size = w.heap.size) (hold : ∀ k, k ≠ g.b → w'.heap[k]? = w.heap[k]?) (hos : w'.os = w.os) (htp : w'.tape = w.tape) (hout : w'.output = w.output)
    (he : EntOk γ w' id e') : MemOk H γ (m.set id e') w' ∧ SF γ m w γ (m.set id e') w' := by
  have hlt : id < m.length := (List.getElem?_eq_some_iff.1 hid).1
  have hlook : ∀ k x, (m.set id e')[k]? = some x → (k = id ∧ x = e') ∨ (k ≠ id ∧ m[k]? = some x) := fun k x h => by
    rw [List.getElem?_set] at h
    by_cases hk : id = k
    · subst hk; rw [if_pos rfl, if_pos hlt] at h; cases h; exact .inl ⟨rfl, rfl⟩
    · rw [if_neg hk] at h; exact .inr ⟨fun e => hk e.symm, h⟩
  have hlive : ∀ {x : Ent}, x.rw = true → x.live = true := fun {x} h => by cases x <;> simp_all [Ent.rw, Ent.live]
  refine ⟨⟨?_, ?_, ?_⟩, ⟨Gm.le_refl _, hos, htp, hout, by omega, ?_, ?_, ?_, by simp, fun _ _ => rfl⟩⟩
  · intro k x h
    rcases hlook k x h with ⟨rfl, rfl⟩ | ⟨hk, h⟩
    · exact he
    · cases hx : x.live with
      | false => cases x <;> simp [Ent.live] at hx; trivial
      | true => exact (hm.ent k x h).of_heap fun g' hg' => hold _ (fun hb => hm.sep id k e x g g' (fun e => hk e.symm) hid h hrw hx hg hg' hb.symm)
  · intro k g' h; have := hm.dom k g' h; exact ⟨by simpa using this.1, by omega⟩
  · intro i j ei ej gi gj hij hi hj h1 h2 hgi hgj
    rcases hlook i ei hi with ⟨rfl, rfl⟩ | ⟨_, hi'⟩
    · rw [hg] at hgi; cases hgi
      rcases hlook j ej hj with ⟨rfl, rfl⟩ | ⟨_, hj'⟩
      · exact absurd rfl hij
      · exact hm.sep _ j e ej g gj hij hid hj' hrw h2 hg hgj
    · rcases hlook j ej hj with ⟨rfl, rfl⟩ | ⟨_, hj'⟩
      · rw [hg] at hgj; cases hgj
        exact hm.sep i _ ei e gi g hij hi' hid h1 (hlive hrw) hgi hg
      · exact hm.sep i j ei ej gi gj hij hi' hj' h1 h2 hgi hgj
  · intro k hk hf
    exact hold k fun hb => hf ⟨id, e, g, hid, hrw, hg, hb.symm⟩
  · intro b hb
    obtain ⟨k, x, g', hk, hx, hg', rfl⟩ := hb
    rcases hlook k x hk with ⟨rfl, rfl⟩ | ⟨_, hk⟩
    · rw [hg] at hg'; cases hg'; exact .inl ⟨_, e, g, hid, hrw, hg, rfl⟩
    · exact .inl ⟨k, x, g', hk, hx, hg', rfl⟩
  · intro b hb
    obtain ⟨k, x, g', hk, hx, hg', rfl⟩ := hb
    rcases hlook k x hk with ⟨rfl, rfl⟩ | ⟨_, hk⟩
    · rw [hg] at hg'; cases hg'; exact .inl ⟨_, e, g, hid, hlive hrw, hg, rfl⟩
    · exact .inl ⟨k, x, g', hk, hx, hg', rfl⟩

/-- An entry given up. -/
theorem MemOk.kill {H : Nat} {γ : Gm} {m : Mem} {w : World} (hm : MemOk H γ m w) (id : Nat) : MemOk H γ (m.set id Ent.dead) w ∧ SF γ m w γ (m.set id Ent.dead) w := by
  have hlook : ∀ k x, (m.set id Ent.dead)[k]? = some x → x = Ent.dead ∨ m[k]? = some x := fun k x h => by
    rw [List.getElem?_set] at h
    split at h
    · split at h
      · cases h; exact .inl rfl
      · cases h
    · exact .inr h
  refine ⟨⟨?_, ?_, ?_⟩, ⟨Gm.le_refl _, rfl, rfl, rfl, Nat.le_refl _, fun _ _ _ => rfl, ?_, ?_, by simp, fun _ _ => rfl⟩⟩
  · intro k x h
    rcases hlook k x h with rfl | h
    · trivial
    · exact hm.ent k x h
  · intro k g h; have := hm.dom k g h; exact ⟨by simpa using this.1, this.2⟩
  · intro i j ei ej gi gj hij hi hj h1 h2 hgi hgj
    rcases hlook i ei hi with rfl | hi
    · simp [Ent.rw] at h1
    · rcases hlook j ej hj with rfl | hj
      · simp [Ent.live] at h2
      · exact hm.sep i j ei ej gi gj hij hi hj h1 h2 hgi hgj
  · intro b hb
    obtain ⟨k, x, g', hk, hx, hg', rfl⟩ := hb
    rcases hlook k x hk with rfl | hk
    · simp [Ent.rw] at hx
    · exact .inl ⟨k, x, g', hk, hx, hg', rfl⟩
  · intro b hb
    obtain ⟨k, x, g', hk, hx, hg', rfl⟩ := hb
    rcases hlook k x hk with rfl | hk
    · simp [Ent.live] at hx
    · exact .inl ⟨k, x, g', hk, hx, hg', rfl⟩

/-- An entry that may be written goes on under a new number. -/
theorem MemOk.move {H : Nat} {γ : Gm} {m : Mem} {w : World} (hm : MemOk H γ m w) (hH : m.length + 1 ≤ H) {id : Nat} {e : Ent} {g : G} (hid : m[id]? = some e) (hrw : e.rw = true) (hg : γ id = some g)
    (he : ∀ γ' : Gm, γ.le γ' → γ' m.length = some g → EntOk γ' w m.length e) :
    ∃ γ', γ' m.length = some g ∧ MemOk H γ' (m.set id .dead ++ [e]) w ∧ SF γ m w γ' (m.set id .dead ++ [e]) w := by
  have hlt : id < m.length := (List.getElem?_eq_some_iff.1 hid).1
  let γ' : Gm := fun k => if k = m.length then some g else γ k
  have hle : γ.le γ' := fun k g' h => by
    have := (hm.dom k g' h).1
    show (if k = m.length then some g else γ k) = some g'
    rw [if_neg (by omega)]; exact h
  have hnew : γ' m.length = some g := by show (if m.length = m.length then some g else _) = _; rw [if_pos rfl]
  have hback : ∀ k, k ≠ m.length → γ' k = γ k := fun k h => by show (if k = m.length then some g else γ k) = _; rw [if_neg h]
  have hlook : ∀ k x, (m.set id .dead ++ [e])[k]? = some x → x.live = true → (k = m.length ∧ x = e) ∨ (k < m.length ∧ k ≠ id ∧ m[k]? = some x) := fun k x h hl => by
    rcases Nat.lt_trichotomy k m.length with hk | hk | hk
    · rw [List.getElem?_append_left (by simpa using hk), List.getElem?_set] at h
      split at h
      · rename_i hki
        subst hki
        first
          | (cases h; simp [Ent.live] at hl; done)
          | (rw [if_pos hk] at h; cases h; simp [Ent.live] at hl)
      · rename_i hki; exact .inr ⟨hk, fun e => hki e.symm, h⟩
    · subst hk; rw [List.getElem?_append_right (by simp)] at h; simp at h; exact .inl ⟨rfl, h.symm⟩
    · rw [List.getElem?_eq_none (by simp; omega)] at h; cases h
  have hlive : ∀ {x : Ent}, x.rw = true → x.live = true := fun {x} h => by cases x <;> simp_all [Ent.rw, Ent.live]
  refine ⟨γ', hnew, ⟨?_, ?_, ?_⟩, ⟨hle, rfl, rfl, rfl, Nat.le_refl _, fun _ _ _ => rfl, ?_, ?_, by simp, fun k hk => hback k (by simp at hk; omega)⟩⟩
  · intro k x h
    cases hl : x.live with
    | false => cases x <;> simp [Ent.live] at hl; trivial
    | true =>
      rcases hlook k x h hl with ⟨rfl, rfl⟩ | ⟨hk, _, h⟩
      · exact he γ' hle hnew
      · exact (hm.ent k x h).mono hle (hback k (by omega))
  · intro k g' h
    by_cases hk : k = m.length
    · subst hk; rw [hnew] at h; cases h; exact ⟨by simp, (hm.dom id g hg).2⟩
    · rw [hback k hk] at h; have := hm.dom k g' h; exact ⟨by simp; omega, this.2⟩
  · intro i j ei ej gi gj hij hi hj h1 h2 hgi hgj
    rcases hlook i ei hi (hlive h1) with ⟨rfl, rfl⟩ | ⟨hil, hine, hi'⟩
    · rw [hnew] at hgi; cases hgi
      rcases hlook j ej hj h2 with ⟨rfl, rfl⟩ | ⟨hjl, hjne, hj'⟩
      · exact absurd rfl hij
      · rw [hback j (by omega)] at hgj
        exact hm.sep id j ei ej g gj (fun e => hjne e.symm) hid hj' hrw h2 hg hgj
    · rw [hback i (by omega)] at hgi
      rcases hlook j ej hj h2 with ⟨rfl, rfl⟩ | ⟨hjl, hjne, hj'⟩
      · rw [hnew] at hgj; cases hgj
        exact hm.sep i id ei ej gi g hine hi' hid h1 h2 hgi hg
      · rw [hback j (by omega)] at hgj
        exact hm.sep i j ei ej gi gj hij hi' hj' h1 h2 hgi hgj
  · intro b hb
    obtain ⟨k, x, g', hk, hx, hg', rfl⟩ := hb
    rcases hlook k x hk (hlive hx) with ⟨rfl, rfl⟩ | ⟨hkl, _, hk'⟩
    · rw [hnew] at hg'; cases hg'; exact .inl ⟨id, x, g, hid, hrw, hg, rfl⟩
    · rw [hback k (by omega)] at hg'; exact .inl ⟨k, x, g', hk', hx, hg', rfl⟩
  · intro b hb
    obtain ⟨k, x, g', hk, hx, hg', rfl⟩ := hb
    rcases hlook k x hk hx with ⟨rfl, rfl⟩ | ⟨hkl, _, hk'⟩
    · rw [hnew] at hg'; cases hg'; exact .inl ⟨id, x, g, hid, hx, hg, rfl⟩
    · rw [hback k (by omega)] at hg'; exact .inl ⟨k, x, g', hk', hx, hg', rfl⟩

/-- An entry that may be written goes on under a new number, perhaps from another place of its block on, and written over. -/
theorem MemOk.over {H : Nat} {γ : Gm} {m : Mem} {w w' : World} (hm : MemOk H γ m w) (hH : m.length + 1 ≤ H) {id : Nat} {e e' : Ent} {g g' : G} (hid : m[id]? = some e) (hrw : e.rw = true) (hg : γ id = some g) (hb : g'.b = g.b)
    (hsz : w'.heap.size = w.heap.size) (hold : ∀ k, k ≠ g.b → w'.heap[k]? = w.heap[k]?) (hos : w'.os = w.os) (htp : w'.tape = w.tape) (hout : w'.output = w.output)
    (he : ∀ γ' : Gm, γ.le γ' → γ' m.length = some g' → EntOk γ' w' m.length e') :
    ∃ γ', γ' m.length = some g' ∧ MemOk H γ' (m.set id .dead ++ [e']) w' ∧ SF γ m w γ' (m.set id .dead ++ [e']) w' := by
  have hlt : id < m.length := (List.getElem?_eq_some_iff.1 hid).1
  let γ' : Gm := fun k => if k = m.length then some g' else γ k
  have hle : γ.le γ' := fun k g1 h => by
    have := (hm.dom k g1 h).1
    show (if k = m.length then some g' else γ k) = some g1
    rw [if_neg (by omega)]; exact h
  have hnew : γ' m.length = some g' := by show (if m.length = m.length then some g' else _) = _; rw [if_pos rfl]
  have hback : ∀ k, k ≠ m.length → γ' k = γ k := fun k h => by show (if k = m.length then some g' else γ k) = _; rw [if_neg h]
  have hlook : ∀ k x, (m.set id .dead ++ [e'])[k]? = some x → x.live = true → (k = m.length ∧ x = e') ∨ (k < m.length ∧ k ≠ id ∧ m[k]? = some x) := fun k x h hl => by
    rcases Nat.lt_trichotomy k m.length with hk | hk | hk
    · rw [List.getElem?_append_left (by simpa using hk), List.getElem?_set] at h
      split at h
      · rename_i hki
        subst hki
        first
          | (cases h; simp [Ent.live] at hl; done)
          | (rw [if_pos hk] at h; cases h; simp [Ent.live] at hl)
      · rename_i hki; exact .inr ⟨hk, fun e => hki e.symm, h⟩
    · subst hk; rw [List.getElem?_append_right (by simp)] at h; simp at h; exact .inl ⟨rfl, h.symm⟩
    · rw [List.getElem?_eq_none (by simp; omega)] at h; cases h
  have hlive : ∀ {x : Ent}, x.rw = true → x.live = true := fun {x} h => by cases x <;> simp_all [Ent.rw, Ent.live]
  refine ⟨γ', hnew, ⟨?_, ?_, ?_⟩, ⟨hle, hos, htp, hout, by omega, fun k _ hf => hold k fun hb => hf ⟨id, e, g, hid, hrw, hg, hb.symm⟩, ?_, ?_, by simp, fun k hk => hback k (by simp at hk; omega)⟩⟩
  · intro k x h
    cases hl : x.live with
    | false => cases x <;> simp [Ent.live] at hl; trivial
    | true =>
      rcases hlook k x h hl with ⟨rfl, rfl⟩ | ⟨hk, hki, h⟩
      · exact he γ' hle hnew
      · refine ((hm.ent k x h).mono hle (hback k (by omega))).of_heap fun g1 hg1 => hold _ fun hb1 => ?_
        rw [hback k (by omega)] at hg1
        exact hm.sep id k e x g g1 (fun e => hki e.symm) hid h hrw hl hg hg1 hb1.symm
  · intro k g1 h
    by_cases hk : k = m.length
    · subst hk; rw [hnew] at h; cases h; have := (hm.dom id g hg).2; exact ⟨by simp, by omega⟩
    · rw [hback k hk] at h; have := hm.dom k g1 h; exact ⟨by simp; omega, by omega⟩
  · intro i j ei ej gi gj hij hi hj h1 h2 hgi hgj
    rcases hlook i ei hi (hlive h1) with ⟨rfl, rfl⟩ | ⟨hil, hine, hi'⟩
    · rw [hnew] at hgi; cases hgi
      rcases hlook j ej hj h2 with ⟨rfl, rfl⟩ | ⟨hjl, hjne, hj'⟩
      · exact absurd rfl hij
      · rw [hback j (by omega)] at hgj
        rw [hb]
        exact hm.sep id j e ej g gj (fun e => hjne e.symm) hid hj' hrw h2 hg hgj
    · rw [hback i (by omega)] at hgi
      rcases hlook j ej hj h2 with ⟨rfl, rfl⟩ | ⟨hjl, hjne, hj'⟩
      · rw [hnew] at hgj; cases hgj
        rw [hb]
        exact hm.sep i id ei e gi g hine hi' hid h1 (hlive hrw) hgi hg
      · rw [hback j (by omega)] at hgj
        exact hm.sep i j ei ej gi gj hij hi' hj' h1 h2 hgi hgj
  · intro b hb1
    obtain ⟨k, x, g1, hk, hx, hg1, rfl⟩ := hb1
    rcases hlook k x hk (hlive hx) with ⟨rfl, rfl⟩ | ⟨hkl, _, hk'⟩
    · rw [hnew] at hg1; cases hg1; exact .inl ⟨id, e, g, hid, hrw, hg, hb.symm⟩
    · rw [hback k (by omega)] at hg1; exact .inl ⟨k, x, g1, hk', hx, hg1, rfl⟩
  · intro b hb1
    obtain ⟨k, x, g1, hk, hx, hg1, rfl⟩ := hb1
    rcases hlook k x hk hx with ⟨rfl, rfl⟩ | ⟨hkl, _, hk'⟩
    · rw [hnew] at hg1; cases hg1; exact .inl ⟨id, e, g, hid, hlive hrw, hg, hb.symm⟩
    · rw [hback k (by omega)] at hg1; exact .inl ⟨k, x, g1, hk', hx, hg1, rfl⟩

/-- A new block that no entry speaks of. -/
theorem MemOk.beside {H : Nat} {γ : Gm} {m : Mem} {w w' : World} (hm : MemOk H γ m w) (o : Obj) (hw : w'.heap = w.heap.push o) (hos : w'.os = w.os) (htp : w'.tape = w.tape) (hout : w'.output = w.output) : MemOk H γ m w' ∧ SF γ m w γ m w' := by
  have hsz : w'.heap.size = w.heap.size + 1 := by rw [hw]; simp
  have hold : ∀ k, k < w.heap.size → w'.heap[k]? = w.heap[k]? := fun k hk => by rw [hw, Array.getElem?_push, if_neg (by omega)]
  refine ⟨⟨fun id e he => (hm.ent id e he).of_heap fun g hg => hold _ (hm.dom id g hg).2, fun id g hg => ⟨(hm.dom id g hg).1, by have := (hm.dom id g hg).2; omega⟩, hm.sep⟩, ⟨Gm.le_refl _, hos, htp, hout, by omega, fun k hk _ => hold k hk, fun _ h => .inl h, fun _ h => .inl h, Nat.le_refl _, fun _ _ => rfl⟩⟩

/-- A new entry without a block. -/
theorem MemOk.bare {H : Nat} {γ : Gm} {m : Mem} {w : World} (hm : MemOk H γ m w) (hH : m.length + 1 ≤ H) (e : Ent) (he : γ m.length = none → EntOk γ w m.length e) : MemOk H γ (m ++ [e]) w ∧ SF γ m w γ (m ++ [e]) w := by
  have hno : γ m.length = none := by
    cases hg : γ m.length with
    | none => rfl
    | some g => have := (hm.dom _ g hg).1; omega
  have hlook : ∀ k x, (m ++ [e])[k]? = some x → (k = m.length ∧ x = e) ∨ (k < m.length ∧ m[k]? = some x) := fun k x h => by
    rcases Nat.lt_trichotomy k m.length with hl | hl | hl
    · rw [List.getElem?_append_left hl] at h; exact .inr ⟨hl, h⟩
    · subst hl; simp at h; exact .inl ⟨rfl, h.symm⟩
    · rw [List.getElem?_eq_none (by simp; omega)] at h; cases h
  refine ⟨⟨?_, ?_, ?_⟩, ⟨Gm.le_refl _, rfl, rfl, rfl, Nat.le_refl _, fun _ _ _ => rfl, ?_, ?_, by simp, fun _ _ => rfl⟩⟩
  · intro k x h
    rcases hlook k x h with ⟨rfl, rfl⟩ | ⟨_, h⟩
    · exact he hno
    · exact hm.ent k x h
  · intro k g hg
    have := hm.dom k g hg
    exact ⟨by simp; omega, this.2⟩
  · intro i j ei ej gi gj hij hi hj h1 h2 hgi hgj
    rcases hlook i ei hi with ⟨rfl, rfl⟩ | ⟨_, hi⟩
    · rw [hno] at hgi; cases hgi
    · rcases hlook j ej hj with ⟨rfl, rfl⟩ | ⟨_, hj⟩
      · rw [hno] at hgj; cases hgj
      · exact hm.sep i j ei ej gi gj hij hi hj h1 h2 hgi hgj
  · intro b hb
    obtain ⟨k, x, g', hk, hx, hg', rfl⟩ := hb
    rcases hlook k x hk with ⟨rfl, rfl⟩ | ⟨_, hk⟩
    · rw [hno] at hg'; cases hg'
    · exact .inl ⟨k, x, g', hk, hx, hg', rfl⟩
  · intro b hb
    obtain ⟨k, x, g', hk, hx, hg', rfl⟩ := hb
    rcases hlook k x hk with ⟨rfl, rfl⟩ | ⟨_, hk⟩
    · rw [hno] at hg'; cases hg'
    · exact .inl ⟨k, x, g', hk, hx, hg', rfl⟩

/-- Draws. -/
theorem MemOk.same {H : Nat} {γ : Gm} {m : Mem} {w w' : World} (hm : MemOk H γ m w) (h : Same w w') : MemOk H γ m w' ∧ SF γ m w γ m w' := by
  obtain ⟨hh, hos, htp, hout⟩ := h
  refine ⟨⟨fun id e he => (hm.ent id e he).of_heap fun _ _ => by rw [hh], fun id g hg => by rw [hh]; exact hm.dom id g hg, hm.sep⟩, ⟨Gm.le_refl _, hos, htp, hout, by rw [hh]; exact Nat.le_refl _, fun _ _ _ => by rw [hh], fun _ h => .inl h, fun _ h => .inl h, Nat.le_refl _, fun _ _ => rfl⟩⟩
end Go.XM

