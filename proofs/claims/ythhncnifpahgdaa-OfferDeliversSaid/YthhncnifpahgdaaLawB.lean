/-
  A part of the proofs of this seat's laws; the conditions stand in each statement.
-/
import Derived.Test.YthhncnifpahgdaaLawA
namespace Go.Proofs.Ythhncnifpahgdaa
open Go Go.XM
noncomputable section
/-! ### OfferDelivers: the loops' layouts -/
def outR (dn : Nat) (t : ByteArray) (j : Int) : Regs := [(2, .sl .n 0 0 dn), (10, .ptr 4 0), (1, .str true t), (7, .ptr 1 0), (8, .ptr 2 0), (13, .int true .i64 j)]
def inR (dn : Nat) (t : ByteArray) (j st i : Int) : Regs := [(16, .int true .i64 st), (17, .int true .i64 i), (2, .sl .n 0 0 dn), (10, .ptr 4 0), (1, .str true t), (7, .ptr 1 0), (8, .ptr 2 0), (13, .int true .i64 j)]
def drE (ds : Nat × List (List AV)) : Ent := .row ds.1 true (some [.i .u8]) 1 ds.2
def bufE (b : ByteArray) : Ent := .row 5 false (some [.i .u8]) 1 (XM.bytesRow b)
def rcvA (t : ByteArray) : Ent := rcvC (idz [7]) (t.size : Int) .nilp .nils false
def rcvB (t : ByteArray) (b p : Nat) (d : Bool) : Ent := rcvC (idz [7]) (t.size : Int) (.ptr 4 33) (.sl .n b 0 p) d
def outA (n : Int) (t : ByteArray) (ds : Nat × List (List AV)) : Mem := [drE ds, .cells 40 (idz [7]), sndC n (.sl .c 3 0 1) 0 (idz []) (.str false es) .nilp .nils, rowQ t, rcvA t]
def outB (n : Int) (t : ByteArray) (ds : Nat × List (List AV)) (p : Nat) : Mem := [drE ds, .cells 40 (idz [7]), sndC n (.sl .c 3 0 1) 0 (idz []) (.str false es) .nilp .nils, rowQ t, rcvB t 5 p false, bufE (t.extract 0 p)]
def trE (n : Int) (t : ByteArray) (p : Int) (d : Bool) : Ent := .cells 119 (idz [7] ++ [.str true t, .int true .i64 n, .int true .i64 p, .bool false d])
def inS (n : Int) (t : ByteArray) (st : Int) : Ent := sndC n (.sl .c 3 0 0) st (idz [7]) (.str true t) (.ptr 5 0) .nils
def inA (n : Int) (t : ByteArray) (ds : Nat × List (List AV)) : Mem := [drE ds, .cells 40 (idz [7]), inS n t 2, .row 83 false none 33 [], rcvA t, trE n t 0 false]
def inB (n : Int) (t : ByteArray) (ds : Nat × List (List AV)) (p : Nat) : Mem := [drE ds, .cells 40 (idz [7]), inS n t 2, .row 83 false none 33 [], rcvB t 6 p false, trE n t p false, bufE (t.extract 0 p)]
def inC (n : Int) (t : ByteArray) (ds : Nat × List (List AV)) : Mem := [drE ds, .cells 40 (idz [7]), inS n t 3, .row 83 false none 33 [], rcvB t 6 t.size true, trE n t t.size true, bufE (t.extract 0 t.size)]
def fs6 : List Bool := [true, true, true, true, true, true]
/-- how far the text was said after one more part. -/
def nxtI (n : Int) (t : ByteArray) (p : Int) : Int := bif decide (p + n < (t.size : Int)) then p + n else (t.size : Int)
def nxt (n : Int) (t : ByteArray) (p : Nat) : Nat := (nxtI n t p).toNat
set_option maxRecDepth 100000 in
theorem rC (n j st i : Int) (t : ByteArray) (ds : Nat × List (List AV)) (dn : Nat) : (vCode Try.prog call3 (noLoops 7) (loopN Try.prog 7) 1000 (loopAt Try.prog 7 106) (inR dn t j st i) (inC n t ds) (postL fs6 [(True, .exit 2, outR dn t j, inC n t ds)])) = (
(((decide (i < st) = true) →
  (True ∧
  ((((0 : Nat) = (0 : Nat)) ∧
   (dn = dn)) ∧
  ((t = t) ∧
  ((j = j) ∧
  ((Prod.fst ds = Prod.fst ds) ∧
  ((Prod.snd ds = Prod.snd ds) ∧
  ((n = n) ∧
  ((t = t) ∧
  (((↑(ByteArray.size t) : Int) = (↑(ByteArray.size t) : Int)) ∧
  ((((0 : Nat) = (0 : Nat)) ∧
   (ByteArray.size t = ByteArray.size t)) ∧
  ((t = t) ∧
  ((n = n) ∧
  (((↑(ByteArray.size t) : Int) = (↑(ByteArray.size t) : Int)) ∧
  ((XM.bytesRow (ByteArray.extract t (0 : Nat) (ByteArray.size t)) = XM.bytesRow (ByteArray.extract t (0 : Nat) (ByteArray.size t))) ∧
  True))))))))))))))) ∧
((decide (i < st) = false) →
 (True ∧
 ((((0 : Nat) = (0 : Nat)) ∧
  (dn = dn)) ∧
 ((t = t) ∧
 ((j = j) ∧
 ((Prod.fst ds = Prod.fst ds) ∧
 ((Prod.snd ds = Prod.snd ds) ∧
 ((n = n) ∧
 ((t = t) ∧
 (((↑(ByteArray.size t) : Int) = (↑(ByteArray.size t) : Int)) ∧
 ((((0 : Nat) = (0 : Nat)) ∧
  (ByteArray.size t = ByteArray.size t)) ∧
 ((t = t) ∧
 ((n = n) ∧
 (((↑(ByteArray.size t) : Int) = (↑(ByteArray.size t) : Int)) ∧
 ((XM.bytesRow (ByteArray.extract t (0 : Nat) (ByteArray.size t)) = XM.bytesRow (ByteArray.extract t (0 : Nat) (ByteArray.size t))) ∧
 True))))))))))))))))) := by kernel_rfl
set_option maxRecDepth 100000 in
theorem rA (n j st i : Int) (t : ByteArray) (ds : Nat × List (List AV)) (dn : Nat) : (vCode Try.prog call3 (noLoops 7) (loopN Try.prog 7) 1000 (loopAt Try.prog 7 106) (inR dn t j st i) (inA n t ds) (postL fs6 [(decide (i < st) = false, .exit 2, outR dn t j, inA n t ds), (decide (i < st) = true, .normal, inR dn t j st (i + 1), inB n t ds (nxt n t 0))])) = (
(((decide (i < st) = true) →
  (((((0 : Int) == (↑(ByteArray.size t) : Int)) = true) →
    (((decide ((0 : Int) < (↑(ByteArray.size t) : Int)) = true) →
      ((sameX (some (Ent.cells (nat_lit 111) (idz [(7 : Int)] ++ [AV.int true IntKind.i64 (↑(ByteArray.size t) : Int), AV.nilp, AV.nils, AV.bool false false])))) ∧
      False)) ∧
    ((decide ((0 : Int) < (↑(ByteArray.size t) : Int)) = false) →
     ((sameX (some (Ent.cells (nat_lit 111) (idz [(7 : Int)] ++ [AV.int true IntKind.i64 (↑(ByteArray.size t) : Int), AV.nilp, AV.nils, AV.bool false false])))) ∧
     ((rng IntKind.i64 (i + (1 : Int))) ∧
     False))))) ∧
  ((((0 : Int) == (↑(ByteArray.size t) : Int)) = false) →
   ((rng IntKind.i64 ((0 : Int) + n)) ∧
   ((((0 : Int) ≤ (0 : Int)) ∧
    (((0 : Int) ≤ bif decide ((0 : Int) + n < (↑(ByteArray.size t) : Int)) then (0 : Int) + n else (↑(ByteArray.size t) : Int)) ∧
    ((bif decide ((0 : Int) + n < (↑(ByteArray.size t) : Int)) then (0 : Int) + n else (↑(ByteArray.size t) : Int)) ≤ (↑(ByteArray.size t) : Int)))) ∧
   (((((0 : Int) != (0 : Int)) = true) →
     ((sameX (some (Ent.cells (nat_lit 45) ([AV.int false IntKind.i64 (7 : Int), AV.str false (ByteArray.mk #[])] ++ (idz [(7 : Int)] ++ [AV.int false IntKind.i64 (0 : Int), AV.int true IntKind.i64 (0 : Int), AV.int false IntKind.i64 (0 : Int), AV.int false IntKind.i64 (0 : Int), AV.str true (ByteArray.extract t (Int.toNat (0 : Int)) (Int.toNat (bif decide ((0 : Int) + n < (↑(ByteArray.size t) : Int)) then (0 : Int) + n else (↑(ByteArray.size t) : Int))))]))))) ∧
     False)) ∧
   ((((0 : Int) != (0 : Int)) = false) →
    ((sameX (some (Ent.cells (nat_lit 45) ([AV.int false IntKind.i64 (7 : Int), AV.str false (ByteArray.mk #[])] ++ (idz [(7 : Int)] ++ [AV.int false IntKind.i64 (0 : Int), AV.int true IntKind.i64 (0 : Int), AV.int false IntKind.i64 (0 : Int), AV.int false IntKind.i64 (0 : Int), AV.str true (ByteArray.extract t (Int.toNat (0 : Int)) (Int.toNat (bif decide ((0 : Int) + n < (↑(ByteArray.size t) : Int)) then (0 : Int) + n else (↑(ByteArray.size t) : Int))))]))))) ∧
    ((rng IntKind.i64 ((↑(ByteArray.size t) : Int) - (0 : Int))) ∧
    (((decide ((↑(ByteArray.size (ByteArray.extract t (Int.toNat (0 : Int)) (Int.toNat (bif decide ((0 : Int) + n < (↑(ByteArray.size t) : Int)) then (0 : Int) + n else (↑(ByteArray.size t) : Int))))) : Int) > (↑(ByteArray.size t) : Int) - (0 : Int)) = true) →
      ((sameX (some (Ent.cells (nat_lit 45) ([AV.int false IntKind.i64 (7 : Int), AV.str false (ByteArray.mk #[])] ++ (idz [(7 : Int)] ++ [AV.int false IntKind.i64 (0 : Int), AV.int true IntKind.i64 (0 : Int), AV.int false IntKind.i64 (0 : Int), AV.int false IntKind.i64 (0 : Int), AV.str true (ByteArray.extract t (Int.toNat (0 : Int)) (Int.toNat (bif decide ((0 : Int) + n < (↑(ByteArray.size t) : Int)) then (0 : Int) + n else (↑(ByteArray.size t) : Int))))]))))) ∧
      ((sameX (some (Ent.cells (nat_lit 111) (idz [(7 : Int)] ++ [AV.int true IntKind.i64 (↑(ByteArray.size t) : Int), AV.nilp, AV.nils, AV.bool false false])))) ∧
      False))) ∧
    ((decide ((↑(ByteArray.size (ByteArray.extract t (Int.toNat (0 : Int)) (Int.toNat (bif decide ((0 : Int) + n < (↑(ByteArray.size t) : Int)) then (0 : Int) + n else (↑(ByteArray.size t) : Int))))) : Int) > (↑(ByteArray.size t) : Int) - (0 : Int)) = false) →
     ((sameX (some (Ent.cells (nat_lit 45) ([AV.int false IntKind.i64 (7 : Int), AV.str false (ByteArray.mk #[])] ++ (idz [(7 : Int)] ++ [AV.int false IntKind.i64 (0 : Int), AV.int true IntKind.i64 (0 : Int), AV.int false IntKind.i64 (0 : Int), AV.int false IntKind.i64 (0 : Int), AV.str true (ByteArray.extract t (Int.toNat (0 : Int)) (Int.toNat (bif decide ((0 : Int) + n < (↑(ByteArray.size t) : Int)) then (0 : Int) + n else (↑(ByteArray.size t) : Int))))]))))) ∧
     ((sameX (some (Ent.cells (nat_lit 111) (idz [(7 : Int)] ++ [AV.int true IntKind.i64 (↑(ByteArray.size t) : Int), AV.nilp, AV.nils, AV.bool false false])))) ∧
     (((↑(ByteArray.size (ByteArray.extract t (Int.toNat (0 : Int)) (Int.toNat (bif decide ((0 : Int) + n < (↑(ByteArray.size t) : Int)) then (0 : Int) + n else (↑(ByteArray.size t) : Int))))) : Int) * (↑(1 : Nat) : Int) ≤ (70368744177664 : Int)) ∧
     ((rng IntKind.i64 (i + (1 : Int))) ∧
     ((decide (i < st) = true) ∧
     ((st = st) ∧
     ((i + (1 : Int) = i + (1 : Int)) ∧
     ((((0 : Nat) = (0 : Nat)) ∧
      (dn = dn)) ∧
     ((t = t) ∧
     ((j = j) ∧
     ((Prod.fst ds = Prod.fst ds) ∧
     ((Prod.snd ds = Prod.snd ds) ∧
     ((n = n) ∧
     ((t = t) ∧
     (((↑(ByteArray.size t) : Int) = (↑(ByteArray.size t) : Int)) ∧
     ((((0 : Nat) = (0 : Nat)) ∧
      (ByteArray.size (ByteArray.extract t (Int.toNat (0 : Int)) (Int.toNat (bif decide ((0 : Int) + n < (↑(ByteArray.size t) : Int)) then (0 : Int) + n else (↑(ByteArray.size t) : Int)))) = nxt n t (0 : Nat))) ∧
     ((t = t) ∧
     ((n = n) ∧
     (((bif decide ((0 : Int) + n < (↑(ByteArray.size t) : Int)) then (0 : Int) + n else (↑(ByteArray.size t) : Int)) = (↑(nxt n t (0 : Nat)) : Int)) ∧
     ((XM.bytesRow (ByteArray.extract t (Int.toNat (0 : Int)) (Int.toNat (bif decide ((0 : Int) + n < (↑(ByteArray.size t) : Int)) then (0 : Int) + n else (↑(ByteArray.size t) : Int)))) = XM.bytesRow (ByteArray.extract t (0 : Nat) (nxt n t (0 : Nat)))) ∧
     True))))))))))))))))))))))))))))))) ∧
((decide (i < st) = false) →
 ((decide (i < st) = false) ∧
 ((((0 : Nat) = (0 : Nat)) ∧
  (dn = dn)) ∧
 ((t = t) ∧
 ((j = j) ∧
 ((Prod.fst ds = Prod.fst ds) ∧
 ((Prod.snd ds = Prod.snd ds) ∧
 ((n = n) ∧
 ((t = t) ∧
 (((↑(ByteArray.size t) : Int) = (↑(ByteArray.size t) : Int)) ∧
 ((t = t) ∧
 ((n = n) ∧
 (((0 : Int) = (0 : Int)) ∧
 True))))))))))))))) := by kernel_rfl
set_option maxRecDepth 100000 in
theorem rB (n j st i : Int) (t : ByteArray) (ds : Nat × List (List AV)) (dn p : Nat) : (vCode Try.prog call3 (noLoops 7) (loopN Try.prog 7) 1000 (loopAt Try.prog 7 106) (inR dn t j st i) (inB n t ds p) (postL fs6 [(decide (i < st) = false, .exit 2, outR dn t j, inB n t ds p), (decide (i < st) = true ∧ p = t.size, .normal, inR dn t j st (i + 1), inC n t ds), (decide (i < st) = true ∧ p ≠ t.size, .normal, inR dn t j st (i + 1), inB n t ds (nxt n t p))])) = (
(((decide (i < st) = true) →
  (((((↑p : Int) == (↑(ByteArray.size t) : Int)) = true) →
    (((decide ((↑p : Int) < (↑(ByteArray.size t) : Int)) = true) →
      ((sameX (some (Ent.cells (nat_lit 111) (idz [(7 : Int)] ++ [AV.int true IntKind.i64 (↑(ByteArray.size t) : Int), AV.ptr (nat_lit 4) (nat_lit 33), AV.sl SK.n (nat_lit 6) (nat_lit 0) p, AV.bool false false])))) ∧
      False)) ∧
    ((decide ((↑p : Int) < (↑(ByteArray.size t) : Int)) = false) →
     ((sameX (some (Ent.cells (nat_lit 111) (idz [(7 : Int)] ++ [AV.int true IntKind.i64 (↑(ByteArray.size t) : Int), AV.ptr (nat_lit 4) (nat_lit 33), AV.sl SK.n (nat_lit 6) (nat_lit 0) p, AV.bool false false])))) ∧
     ((rng IntKind.i64 (i + (1 : Int))) ∧
     (((decide (i < st) = true) ∧
      (p = ByteArray.size t)) ∧
     ((st = st) ∧
     ((i + (1 : Int) = i + (1 : Int)) ∧
     ((((0 : Nat) = (0 : Nat)) ∧
      (dn = dn)) ∧
     ((t = t) ∧
     ((j = j) ∧
     ((Prod.fst ds = Prod.fst ds) ∧
     ((Prod.snd ds = Prod.snd ds) ∧
     ((n = n) ∧
     ((t = t) ∧
     (((↑(ByteArray.size t) : Int) = (↑(ByteArray.size t) : Int)) ∧
     ((((0 : Nat) = (0 : Nat)) ∧
      (p = ByteArray.size t)) ∧
     ((t = t) ∧
     ((n = n) ∧
     (((↑p : Int) = (↑(ByteArray.size t) : Int)) ∧
     ((XM.bytesRow (ByteArray.extract t (0 : Nat) p) = XM.bytesRow (ByteArray.extract t (0 : Nat) (ByteArray.size t))) ∧
     True))))))))))))))))))))) ∧
  ((((↑p : Int) == (↑(ByteArray.size t) : Int)) = false) →
   ((rng IntKind.i64 ((↑p : Int) + n)) ∧
   ((((0 : Int) ≤ (↑p : Int)) ∧
    (((↑p : Int) ≤ bif decide ((↑p : Int) + n < (↑(ByteArray.size t) : Int)) then (↑p : Int) + n else (↑(ByteArray.size t) : Int)) ∧
    ((bif decide ((↑p : Int) + n < (↑(ByteArray.size t) : Int)) then (↑p : Int) + n else (↑(ByteArray.size t) : Int)) ≤ (↑(ByteArray.size t) : Int)))) ∧
   (((((↑p : Int) != (↑p : Int)) = true) →
     ((sameX (some (Ent.cells (nat_lit 45) ([AV.int false IntKind.i64 (7 : Int), AV.str false (ByteArray.mk #[])] ++ (idz [(7 : Int)] ++ [AV.int false IntKind.i64 (0 : Int), AV.int true IntKind.i64 (↑p : Int), AV.int false IntKind.i64 (0 : Int), AV.int false IntKind.i64 (0 : Int), AV.str true (ByteArray.extract t (Int.toNat (↑p : Int)) (Int.toNat (bif decide ((↑p : Int) + n < (↑(ByteArray.size t) : Int)) then (↑p : Int) + n else (↑(ByteArray.size t) : Int))))]))))) ∧
     False)) ∧
   ((((↑p : Int) != (↑p : Int)) = false) →
    ((sameX (some (Ent.cells (nat_lit 45) ([AV.int false IntKind.i64 (7 : Int), AV.str false (ByteArray.mk #[])] ++ (idz [(7 : Int)] ++ [AV.int false IntKind.i64 (0 : Int), AV.int true IntKind.i64 (↑p : Int), AV.int false IntKind.i64 (0 : Int), AV.int false IntKind.i64 (0 : Int), AV.str true (ByteArray.extract t (Int.toNat (↑p : Int)) (Int.toNat (bif decide ((↑p : Int) + n < (↑(ByteArray.size t) : Int)) then (↑p : Int) + n else (↑(ByteArray.size t) : Int))))]))))) ∧
    ((rng IntKind.i64 ((↑(ByteArray.size t) : Int) - (↑p : Int))) ∧
    (((decide ((↑(ByteArray.size (ByteArray.extract t (Int.toNat (↑p : Int)) (Int.toNat (bif decide ((↑p : Int) + n < (↑(ByteArray.size t) : Int)) then (↑p : Int) + n else (↑(ByteArray.size t) : Int))))) : Int) > (↑(ByteArray.size t) : Int) - (↑p : Int)) = true) →
      ((sameX (some (Ent.cells (nat_lit 45) ([AV.int false IntKind.i64 (7 : Int), AV.str false (ByteArray.mk #[])] ++ (idz [(7 : Int)] ++ [AV.int false IntKind.i64 (0 : Int), AV.int true IntKind.i64 (↑p : Int), AV.int false IntKind.i64 (0 : Int), AV.int false IntKind.i64 (0 : Int), AV.str true (ByteArray.extract t (Int.toNat (↑p : Int)) (Int.toNat (bif decide ((↑p : Int) + n < (↑(ByteArray.size t) : Int)) then (↑p : Int) + n else (↑(ByteArray.size t) : Int))))]))))) ∧
      ((sameX (some (Ent.cells (nat_lit 111) (idz [(7 : Int)] ++ [AV.int true IntKind.i64 (↑(ByteArray.size t) : Int), AV.ptr (nat_lit 4) (nat_lit 33), AV.sl SK.n (nat_lit 6) (nat_lit 0) p, AV.bool false false])))) ∧
      False))) ∧
    ((decide ((↑(ByteArray.size (ByteArray.extract t (Int.toNat (↑p : Int)) (Int.toNat (bif decide ((↑p : Int) + n < (↑(ByteArray.size t) : Int)) then (↑p : Int) + n else (↑(ByteArray.size t) : Int))))) : Int) > (↑(ByteArray.size t) : Int) - (↑p : Int)) = false) →
     ((sameX (some (Ent.cells (nat_lit 45) ([AV.int false IntKind.i64 (7 : Int), AV.str false (ByteArray.mk #[])] ++ (idz [(7 : Int)] ++ [AV.int false IntKind.i64 (0 : Int), AV.int true IntKind.i64 (↑p : Int), AV.int false IntKind.i64 (0 : Int), AV.int false IntKind.i64 (0 : Int), AV.str true (ByteArray.extract t (Int.toNat (↑p : Int)) (Int.toNat (bif decide ((↑p : Int) + n < (↑(ByteArray.size t) : Int)) then (↑p : Int) + n else (↑(ByteArray.size t) : Int))))]))))) ∧
     ((sameX (some (Ent.cells (nat_lit 111) (idz [(7 : Int)] ++ [AV.int true IntKind.i64 (↑(ByteArray.size t) : Int), AV.ptr (nat_lit 4) (nat_lit 33), AV.sl SK.n (nat_lit 6) (nat_lit 0) p, AV.bool false false])))) ∧
     (((0 : Nat) + p ≤ List.length (XM.bytesRow (ByteArray.extract t (0 : Nat) p))) ∧
     (((↑(p + ByteArray.size (ByteArray.extract t (Int.toNat (↑p : Int)) (Int.toNat (bif decide ((↑p : Int) + n < (↑(ByteArray.size t) : Int)) then (↑p : Int) + n else (↑(ByteArray.size t) : Int))))) : Int) * (↑(1 : Nat) : Int) ≤ (70368744177664 : Int)) ∧
     ((rng IntKind.i64 (i + (1 : Int))) ∧
     (((decide (i < st) = true) ∧
      (p ≠ ByteArray.size t)) ∧
     ((st = st) ∧
     ((i + (1 : Int) = i + (1 : Int)) ∧
     ((((0 : Nat) = (0 : Nat)) ∧
      (dn = dn)) ∧
     ((t = t) ∧
     ((j = j) ∧
     ((Prod.fst ds = Prod.fst ds) ∧
     ((Prod.snd ds = Prod.snd ds) ∧
     ((n = n) ∧
     ((t = t) ∧
     (((↑(ByteArray.size t) : Int) = (↑(ByteArray.size t) : Int)) ∧
     ((((0 : Nat) = (0 : Nat)) ∧
      (p + ByteArray.size (ByteArray.extract t (Int.toNat (↑p : Int)) (Int.toNat (bif decide ((↑p : Int) + n < (↑(ByteArray.size t) : Int)) then (↑p : Int) + n else (↑(ByteArray.size t) : Int)))) = nxt n t p)) ∧
     ((t = t) ∧
     ((n = n) ∧
     (((bif decide ((↑p : Int) + n < (↑(ByteArray.size t) : Int)) then (↑p : Int) + n else (↑(ByteArray.size t) : Int)) = (↑(nxt n t p) : Int)) ∧
     ((List.take p (List.drop (0 : Nat) (XM.bytesRow (ByteArray.extract t (0 : Nat) p))) ++ XM.bytesRow (ByteArray.extract t (Int.toNat (↑p : Int)) (Int.toNat (bif decide ((↑p : Int) + n < (↑(ByteArray.size t) : Int)) then (↑p : Int) + n else (↑(ByteArray.size t) : Int)))) = XM.bytesRow (ByteArray.extract t (0 : Nat) (nxt n t p))) ∧
     True)))))))))))))))))))))))))))))))) ∧
((decide (i < st) = false) →
 ((decide (i < st) = false) ∧
 ((((0 : Nat) = (0 : Nat)) ∧
  (dn = dn)) ∧
 ((t = t) ∧
 ((j = j) ∧
 ((Prod.fst ds = Prod.fst ds) ∧
 ((Prod.snd ds = Prod.snd ds) ∧
 ((n = n) ∧
 ((t = t) ∧
 (((↑(ByteArray.size t) : Int) = (↑(ByteArray.size t) : Int)) ∧
 ((((0 : Nat) = (0 : Nat)) ∧
  (p = p)) ∧
 ((t = t) ∧
 ((n = n) ∧
 (((↑p : Int) = (↑p : Int)) ∧
 ((XM.bytesRow (ByteArray.extract t (0 : Nat) p) = XM.bytesRow (ByteArray.extract t (0 : Nat) p)) ∧
 True))))))))))))))))) := by kernel_rfl
end
end Go.Proofs.Ythhncnifpahgdaa

namespace Go.Proofs.Ythhncnifpahgdaa
open Go Go.XM
noncomputable section
/-! ### OfferDelivers: the inner loop -/
theorem nxt_spec {n : Int} {t : ByteArray} {p : Nat} (hn : 1 ≤ n) (hp : p ≤ t.size) : nxtI n t p = (nxt n t p : Nat) ∧ p ≤ nxt n t p ∧ nxt n t p ≤ t.size ∧ (p < t.size → p < nxt n t p) := by
  have h : nxtI n t p = (nxt n t p : Nat) := by
    unfold nxt
    have : 0 ≤ nxtI n t p := by unfold nxtI; cases h : decide ((p : Int) + n < (t.size : Int)) <;> simp <;> omega
    omega
  refine ⟨h, ?_⟩
  unfold nxtI at h
  by_cases hlt : (p : Int) + n < (t.size : Int)
  · rw [decide_eq_true hlt, cond_true] at h; omega
  · rw [decide_eq_false hlt, cond_false] at h; omega
theorem rng64 {e : Int} (h1 : -9223372036854775808 ≤ e) (h2 : e ≤ 9223372036854775807) : rng .i64 e := rng_of h1 h2
theorem sameX_true {e : Option Ent} : sameX e = True := by simp [sameX]
theorem rA_ok {n st i : Int} {t : ByteArray} (hn : 1 ≤ n ∧ n ≤ 64) (ht : 0 < t.size ∧ t.size ≤ 300) (hi : 0 ≤ i ∧ i ≤ 1000) (j : Int) (ds : Nat × List (List AV)) (dn : Nat) : Holds (vCode Try.prog call3 (noLoops 7) (loopN Try.prog 7) 1000 (loopAt Try.prog 7 106) (inR dn t j st i) (inA n t ds) (postL fs6 [(decide (i < st) = false, .exit 2, outR dn t j, inA n t ds), (decide (i < st) = true, .normal, inR dn t j st (i + 1), inB n t ds (nxt n t 0))])) := by
  refine .of (rA n j st i t ds dn) ?_
  obtain ⟨h1, h2, h3, h4⟩ := nxt_spec (t := t) hn.1 (Nat.zero_le _)
  unfold nxtI at h1
  rw [show ((0 : Nat) : Int) = 0 from rfl] at h1
  rw [h1]
  have hsz : ByteArray.size (ByteArray.extract t (Int.toNat (0 : Int)) (Int.toNat ((nxt n t 0 : Nat) : Int))) = nxt n t 0 := by simp; omega
  rw [hsz]
  have g1 : ((0 : Int) == (↑(ByteArray.size t) : Int)) = false := by simp; omega
  have g2 : decide (((nxt n t 0 : Nat) : Int) > (↑(ByteArray.size t) : Int) - (0 : Int)) = false := decide_eq_false (by omega)
  rw [g1, g2]
  have r1 : rng .i64 ((0 : Int) + n) := rng64 (by omega) (by omega)
  have r2 : rng .i64 ((↑(ByteArray.size t) : Int) - (0 : Int)) := rng64 (by omega) (by omega)
  have r3 : rng .i64 (i + 1) := rng64 (by omega) (by omega)
  have r4 : ((nxt n t 0 : Nat) : Int) * ((1 : Nat) : Int) ≤ 70368744177664 := by omega
  simp only [sameX_true, r1, r2, r3, r4, true_and, and_true]
  simp
  omega
theorem bytesRow_len (b : ByteArray) : (XM.bytesRow b).length = b.size := by
  unfold XM.bytesRow; rw [List.length_map]; rfl
theorem bytesRow_join (t : ByteArray) {p q : Nat} (h : p ≤ q) (hq : q ≤ t.size) : List.take p (List.drop 0 (XM.bytesRow (t.extract 0 p))) ++ XM.bytesRow (t.extract p q) = XM.bytesRow (t.extract 0 q) := by
  have e : (XM.bytesRow (t.extract 0 p)).length = p := by rw [bytesRow_len, ByteArray.size_extract]; omega
  rw [List.drop_zero, List.take_of_length_le (by omega)]
  unfold XM.bytesRow
  rw [← List.map_append, ← Array.toList_append, ← ByteArray.data_append, ByteArray.extract_append_extract]
  rw [Nat.min_eq_left (Nat.zero_le _), Nat.max_eq_right h]
theorem rB_ok {n st i : Int} {t : ByteArray} {p : Nat} (hn : 1 ≤ n ∧ n ≤ 64) (ht : 0 < t.size ∧ t.size ≤ 300) (hi : 0 ≤ i ∧ i ≤ 1000) (hp : p ≤ t.size) (j : Int) (ds : Nat × List (List AV)) (dn : Nat) : Holds (vCode Try.prog call3 (noLoops 7) (loopN Try.prog 7) 1000 (loopAt Try.prog 7 106) (inR dn t j st i) (inB n t ds p) (postL fs6 [(decide (i < st) = false, .exit 2, outR dn t j, inB n t ds p), (decide (i < st) = true ∧ p = t.size, .normal, inR dn t j st (i + 1), inC n t ds), (decide (i < st) = true ∧ p ≠ t.size, .normal, inR dn t j st (i + 1), inB n t ds (nxt n t p))])) := by
  refine .of (rB n j st i t ds dn p) ?_
  obtain ⟨h1, h2, h3, h4⟩ := nxt_spec (t := t) hn.1 hp
  unfold nxtI at h1
  rw [h1]
  have hsz : ByteArray.size (ByteArray.extract t (Int.toNat (p : Int)) (Int.toNat ((nxt n t p : Nat) : Int))) = nxt n t p - p := by simp; omega
  rw [hsz]
  have r1 : rng .i64 ((p : Int) + n) := rng64 (by omega) (by omega)
  have r2 : rng .i64 ((↑(ByteArray.size t) : Int) - (p : Int)) := rng64 (by omega) (by omega)
  have r3 : rng .i64 (i + 1) := rng64 (by omega) (by omega)
  have r5 : (0 : Nat) + p ≤ List.length (XM.bytesRow (ByteArray.extract t (0 : Nat) p)) := by rw [bytesRow_len, ByteArray.size_extract]; omega
  have r6 := bytesRow_join t h2 h3
  have r7 : p + (nxt n t p - p) = nxt n t p := by omega
  have r4 : ((nxt n t p : Nat) : Int) * ((1 : Nat) : Int) ≤ 70368744177664 := by omega
  have g2 : decide (((nxt n t p - p : Nat) : Int) > (↑(ByteArray.size t) : Int) - (p : Int)) = false := decide_eq_false (by omega)
  rw [g2, r7]
  simp only [sameX_true, r1, r2, r3, r4, r5, r6, Int.toNat_natCast, true_and, and_true]
  by_cases hpt : p = t.size
  · simp [hpt]
  · have g1 : ((p : Int) == (↑(ByteArray.size t) : Int)) = false := by simp; omega
    simp [g1, hpt]
    omega
theorem rC_ok (n st i j : Int) (t : ByteArray) (ds : Nat × List (List AV)) (dn : Nat) : Holds (vCode Try.prog call3 (noLoops 7) (loopN Try.prog 7) 1000 (loopAt Try.prog 7 106) (inR dn t j st i) (inC n t ds) (postL fs6 [(True, .exit 2, outR dn t j, inC n t ds)])) := by
  refine .of (rC n j st i t ds dn) ?_
  simp
/-! The whole of the inner loop. -/
def step1 (n : Int) (t : ByteArray) (s : Nat × Bool) : Nat × Bool := if s.2 = true then s else if s.1 = t.size then (s.1, true) else (nxt n t s.1, false)
def run (n : Int) (t : ByteArray) : Nat → Nat × Bool → Nat × Bool
  | 0, s => s
  | k + 1, s => run n t k (step1 n t s)
def inL (n : Int) (t : ByteArray) (ds : Nat × List (List AV)) (s : Nat × Bool) : Mem := match s.2 with
  | true => inC n t ds
  | false => (match s.1 with
    | 0 => inA n t ds
    | p + 1 => inB n t ds (p + 1))
def altsIn (n j st : Int) (t : ByteArray) (ds : Nat × List (List AV)) (dn : Nat) (i : Int) (s : Nat × Bool) : LAlts :=
  [((run n t (st - i).toNat s).2 = true, .exit 2, outR dn t j, inC n t ds),
   ((run n t (st - i).toNat s).2 = false ∧ (run n t (st - i).toNat s).1 = 0, .exit 2, outR dn t j, inA n t ds),
   ((run n t (st - i).toNat s).2 = false ∧ 0 < (run n t (st - i).toNat s).1, .exit 2, outR dn t j, inB n t ds (run n t (st - i).toNat s).1)]
theorem run_done (n : Int) (t : ByteArray) (p : Nat) : ∀ k, run n t k (p, true) = (p, true)
  | 0 => rfl
  | k + 1 => by unfold run step1; simp [run_done n t p k]
theorem inner_sole : soleLoop Try.prog 7 106 = true := by kernel_rfl
theorem inner_ok {n st : Int} {t : ByteArray} (hn : 1 ≤ n ∧ n ≤ 64) (ht : 0 < t.size ∧ t.size ≤ 300) (hst : st ≤ 400) (j : Int) (ds : Nat × List (List AV)) (dn : Nat) :
    ∀ q : Int × Nat × Bool, (0 ≤ q.1 ∧ q.1 ≤ 400 ∧ q.2.1 ≤ t.size) → LoopX Try.prog fs6 (loopN Try.prog 7) (loopAt Try.prog 7 106) (inR dn t j st q.1) (inL n t ds q.2) (altsIn n j st t ds dn q.1 q.2) := by
  refine loopX_rule (fun q : Int × Nat × Bool => inR dn t j st q.1) (fun q => inL n t ds q.2) (fun q => 0 ≤ q.1 ∧ q.1 ≤ 400 ∧ q.2.1 ≤ t.size) (fun q => (st - q.1).toNat) (fun q => altsIn n j st t ds dn q.1 q.2) ?_
  rintro ⟨i, p, d⟩ ⟨hi, hi2, hp⟩
  simp only at hi hi2 hp ⊢
  have stop : ∀ {s : Nat × Bool}, ¬ i < st → run n t (st - i).toNat s = s := fun h => by
    rw [show (st - i).toNat = 0 by omega]; rfl
  have go : ∀ {s : Nat × Bool}, i < st → altsIn n j st t ds dn i s = altsIn n j st t ds dn (i + 1) (step1 n t s) := fun h => by
    unfold altsIn
    rw [show (st - i).toNat = (st - (i + 1)).toNat + 1 by omega]; rfl
  cases d with
  | true =>
    obtain ⟨q, e, R, L, hmem, hq, hc⟩ := round_alts (fs := fs6) call3_ok (noLoops_ok _) mix (by show 6 ≤ 7; omega) inner_sole (rC_ok n st i j t ds dn)
    simp only [List.mem_singleton, Prod.mk.injEq] at hmem
    obtain ⟨rfl, rfl, rfl, rfl⟩ := hmem
    exact .inr ⟨_, _, _, _, by simp, hc, by unfold altsIn; exact List.mem_cons_self .., by simp [run_done]⟩
  | false =>
    cases p with
    | zero =>
      obtain ⟨q, e, R, L, hmem, hq, hc⟩ := round_alts (fs := fs6) call3_ok (noLoops_ok _) mix (by show 6 ≤ 6; omega) inner_sole (rA_ok (st := st) (i := i) hn ht (by omega) j ds dn)
      simp only [List.mem_cons, List.not_mem_nil, or_false, Prod.mk.injEq] at hmem
      rcases hmem with ⟨rfl, rfl, rfl, rfl⟩ | ⟨rfl, rfl, rfl, rfl⟩
      · have h := of_decide_eq_false hq
        exact .inr ⟨_, _, _, _, by simp, hc, by unfold altsIn; exact List.mem_cons_of_mem _ (List.mem_cons_self ..), by simp [stop h]⟩
      · have h := of_decide_eq_true hq
        obtain ⟨h1, h2, h3, h4⟩ := nxt_spec (t := t) hn.1 (Nat.zero_le _)
        refine .inl ⟨(i + 1, nxt n t 0, false), ⟨by simp; omega, by simp; omega, h3⟩, by simp only; omega, ?_, ?_⟩
        · have : inL n t ds (nxt n t 0, false) = inB n t ds (nxt n t 0) := by
            unfold inL
            have := h4 ht.1
            cases hx : nxt n t 0 with
            | zero => omega
            | succ x => rfl
          simp only [this]; exact hc
        · intro q e r m hm hq
          refine ⟨q, ?_, hq⟩
          rw [go h]
          have : step1 n t (0, false) = (nxt n t 0, false) := by unfold step1; simp; omega
          rw [this]; exact hm
    | succ p =>
      obtain ⟨q, e, R, L, hmem, hq, hc⟩ := round_alts (fs := fs6) call3_ok (noLoops_ok _) mix (by show 6 ≤ 7; omega) inner_sole (rB_ok (st := st) (i := i) (p := p + 1) hn ht (by omega) hp j ds dn)
      simp only [List.mem_cons, List.not_mem_nil, or_false, Prod.mk.injEq] at hmem
      rcases hmem with ⟨rfl, rfl, rfl, rfl⟩ | ⟨rfl, rfl, rfl, rfl⟩ | ⟨rfl, rfl, rfl, rfl⟩
      · have h := of_decide_eq_false hq
        refine .inr ⟨(run n t (st - i).toNat (p + 1, false)).2 = false ∧ 0 < (run n t (st - i).toNat (p + 1, false)).1, _, _, _, by simp, hc, ?_, by simp [stop h]⟩
        unfold altsIn
        simp [stop h]
      · have h := of_decide_eq_true hq.1
        refine .inl ⟨(i + 1, p + 1, true), ⟨by simp; omega, by simp; omega, hp⟩, by simp only; omega, hc, ?_⟩
        intro q e r m hm hq'
        refine ⟨q, ?_, hq'⟩
        rw [go h]
        have : step1 n t (p + 1, false) = (p + 1, true) := by unfold step1; simp [hq.2]
        rw [this]; exact hm
      · have h := of_decide_eq_true hq.1
        obtain ⟨h1, h2, h3, h4⟩ := nxt_spec (t := t) hn.1 hp
        refine .inl ⟨(i + 1, nxt n t (p + 1), false), ⟨by simp; omega, by simp; omega, h3⟩, by simp only; omega, ?_, ?_⟩
        · have : inL n t ds (nxt n t (p + 1), false) = inB n t ds (nxt n t (p + 1)) := by
            unfold inL
            cases hx : nxt n t (p + 1) with
            | zero => omega
            | succ x => rfl
          simp only [this]; exact hc
        · intro q e r m hm hq'
          refine ⟨q, ?_, hq'⟩
          rw [go h]
          have : step1 n t (p + 1, false) = (nxt n t (p + 1), false) := by unfold step1; simp [hq.2]
          rw [this]; exact hm
theorem run_le {n : Int} {t : ByteArray} (hn : 1 ≤ n) : ∀ (k : Nat) {s : Nat × Bool}, s.1 ≤ t.size → (run n t k s).1 ≤ t.size
  | 0, _, h => h
  | k + 1, (p, d), h => by
    unfold run
    refine run_le hn k ?_
    unfold step1
    simp only at h ⊢
    split
    · exact h
    · split
      · exact h
      · exact (nxt_spec hn h).2.2.1
theorem run_ends {n : Int} {t : ByteArray} (hn : 1 ≤ n) : ∀ (k : Nat) {p : Nat} {d : Bool}, p ≤ t.size → t.size - p < k → (run n t k (p, d)).2 = true
  | 0, _, _, _, h => by omega
  | k + 1, p, d, hp, h => by
    unfold run step1
    cases d with
    | true => simp [run_done]
    | false =>
      simp only [Bool.false_eq_true, if_false]
      split
      · simp [run_done]
      · obtain ⟨_, _, h3, h4⟩ := nxt_spec hn hp
        exact run_ends hn k h3 (by omega)
end
end Go.Proofs.Ythhncnifpahgdaa

