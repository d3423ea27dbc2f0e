/-
  A part of the proofs of this seat's laws; the conditions stand in each statement.
-/
import Derived.Test.YthhncnifpahgdaaLawB
namespace Go.Proofs.Ythhncnifpahgdaa
open Go Go.XM
noncomputable section
/-! ### OfferDelivers: the outer loop -/
/-- where the receiver stands: the bytes that it has, if it has a buffer. -/
def gotOf (m : Mem) (x : Nat) : Option (Option Nat) := match nth m x with
  | some (.cells _ cs) => (match nthA cs 33 with
    | .nilp => some none
    | .ptr _ _ => (match nthA cs 34 with
      | .sl _ _ _ p => some (some p)
      | _ => none)
    | _ => none)
  | _ => none
def rowOf (m : Mem) (x : Nat) : Option (Nat × List (List AV)) := match nth m x with
  | some (.row T _ _ _ ds) => some (T, ds)
  | _ => none
def preIn (n st i : Int) (t : ByteArray) (p : Nat) : Prop := (1 ≤ n ∧ n ≤ 64) ∧ (0 < t.size ∧ t.size ≤ 300) ∧ st ≤ 400 ∧ (0 ≤ i ∧ i ≤ 400 ∧ p ≤ t.size)
def sInner : Loop1 := fun r m k => match get r 16, get r 17, get r 2, get r 1, get r 13, get r 8, get r 10 with
  | some (.int _ _ st), some (.int _ _ i), some (.sl _ d0 _ dn), some (.str _ t), some (.int _ _ j), some (.ptr s _), some (.ptr x _) => (match chunkOf m s, rowOf m d0, gotOf m x with
    | some n, some ds, some none => useLoop fs6 (inR dn t j st i) (inA n t ds) (preIn n st i t 0) (altsIn n j st t ds dn i (0, false)) r m k
    | some n, some ds, some (some p) => useLoop fs6 (inR dn t j st i) (inB n t ds p) (preIn n st i t p ∧ 0 < p) (altsIn n j st t ds dn i (p, false)) r m k
    | _, _, _ => none)
  | _, _, _, _, _, _, _ => none
theorem innerA_ok {n st i j : Int} {t : ByteArray} {ds : Nat × List (List AV)} {dn : Nat} (h : preIn n st i t 0) : LoopX Try.prog fs6 (loopN Try.prog 7) (loopAt Try.prog 7 106) (inR dn t j st i) (inA n t ds) (altsIn n j st t ds dn i (0, false)) :=
  inner_ok h.1 h.2.1 h.2.2.1 j ds dn (i, 0, false) h.2.2.2
theorem innerB_ok {n st i j : Int} {t : ByteArray} {ds : Nat × List (List AV)} {dn p : Nat} (h : preIn n st i t p ∧ 0 < p) : LoopX Try.prog fs6 (loopN Try.prog 7) (loopAt Try.prog 7 106) (inR dn t j st i) (inB n t ds p) (altsIn n j st t ds dn i (p, false)) := by
  have := inner_ok h.1.1 h.1.2.1 h.1.2.2.1 j ds dn (i, p, false) h.1.2.2.2
  cases p with
  | zero => exact absurd h.2 (by omega)
  | succ p => exact this
theorem sInner_ok : Loop1Ok Try.prog 7 106 sInner := by
  intro r m k Q h hQ
  unfold sInner at h
  split at h
  · split at h
    · exact useLoop_ok innerA_ok h hQ
    · exact useLoop_ok innerB_ok h hQ
    · simp at h
  · simp at h
def loops6 : LoopFn := addLoop 7 106 sInner noLoops
theorem loops6_ok : LoopsOk Try.prog loops6 := addLoop_ok inner_sole sInner_ok (noLoops_ok _)
abbrev call6 : CallV := vCall Try.prog specs3 loops6 20
theorem call6_ok : CallVOk Try.prog call6 := vCall_ok specs3_ok loops6_ok mix 20
def dropAt (ds : Nat × List (List AV)) (j : Int) : Int := intOf (nthA (nthE ds.2 (Int.toNat j + 0)) 0)
def after (n : Int) (t : ByteArray) (ds : Nat × List (List AV)) (j : Int) (p : Nat) : Nat := (run n t (Int.toNat (Int.tmod (dropAt ds j) 8 - 0)) (p, false)).1
def altsR (n : Int) (t : ByteArray) (ds : Nat × List (List AV)) (dn : Nat) (j : Int) (p : Nat) : LAlts := [(True, .ret, [(6, .bool false true)], []), (j < 20 ∧ after n t ds j p = 0, .normal, outR dn t (j + 1), outA n t ds), (j < 20 ∧ 0 < after n t ds j p ∧ after n t ds j p ≤ t.size, .normal, outR dn t (j + 1), outB n t ds (after n t ds j p))]
set_option maxRecDepth 100000 in
theorem oA (n j : Int) (t : ByteArray) (ds : Nat × List (List AV)) (dn : Nat) : (vCode Try.prog call6 (loops6 7) (loopN Try.prog 7) 1000 (loopAt Try.prog 7 60) (outR dn t j) (outA n t ds) (postL [] (altsR n t ds dn j 0))) = (
(((decide (j ≤ (20 : Int)) = true) →
  ((sameX (some (Ent.cells (nat_lit 86) ([AV.int true IntKind.i64 n, AV.sl SK.c (nat_lit 3) (nat_lit 0) (nat_lit 1), AV.int false IntKind.i64 (0 : Int)] ++ (idz [] ++ [AV.str false es, AV.nilp, AV.nils]))))) ∧
  ((sameX (some (Ent.row (nat_lit 83) false none (nat_lit 33) [idz [(7 : Int)] ++ [AV.str true t]]))) ∧
  ((sameX (some (Ent.row (nat_lit 83) false none (nat_lit 33) [idz [(7 : Int)] ++ [AV.str true t]]))) ∧
  (((((↑(ByteArray.size t) : Int) != (↑(ByteArray.size t) : Int)) = true) →
    False) ∧
  ((((↑(ByteArray.size t) : Int) != (↑(ByteArray.size t) : Int)) = false) →
   (True ∧
   (((decide ((0 : Int) > (↑(ByteArray.size t) : Int)) = true) →
     False) ∧
   ((decide ((0 : Int) > (↑(ByteArray.size t) : Int)) = false) →
    (((decide ((↑(ByteArray.size t) : Int) > (65536 : Int)) = true) →
      False) ∧
    ((decide ((↑(ByteArray.size t) : Int) > (65536 : Int)) = false) →
     (((decide (n < (1 : Int)) = true) →
       False) ∧
     ((decide (n < (1 : Int)) = false) →
      (((decide (n > (4096 : Int)) = true) →
        False) ∧
      ((decide (n > (4096 : Int)) = false) →
       (((decide ((0 : Int) > (↑(ByteArray.size t) : Int)) = true) →
         False) ∧
       ((decide ((0 : Int) > (↑(ByteArray.size t) : Int)) = false) →
        (((decide (j < (↑dn : Int)) = true) →
          (((decide (j < (20 : Int)) = true) →
            ((((0 : Int) ≤ j) ∧
             (j < (↑dn : Int))) ∧
            ((Int.toNat j + (0 : Nat) < List.length (Prod.snd ds)) ∧
            ((rng IntKind.i64 (intOf (nthA (nthE (Prod.snd ds) (Int.toNat j + (0 : Nat))) (0 : Nat)))) ∧
            ((Int.tmod (intOf (nthA (nthE (Prod.snd ds) (Int.toNat j + (0 : Nat))) (0 : Nat))) (8 : Int) = Int.tmod (intOf (nthA (nthE (Prod.snd ds) (Int.toNat j + (0 : Nat))) (0 : Nat))) (8 : Int)) ∧
            (((0 : Int) = (0 : Int)) ∧
            ((((0 : Nat) = (0 : Nat)) ∧
             (dn = dn)) ∧
            ((t = t) ∧
            ((j = j) ∧
            ((Prod.fst ds = Prod.fst (Prod.fst ds, Prod.snd ds)) ∧
            ((Prod.snd ds = Prod.snd (Prod.fst ds, Prod.snd ds)) ∧
            ((n = n) ∧
            ((t = t) ∧
            (((↑(ByteArray.size t) : Int) = (↑(ByteArray.size t) : Int)) ∧
            ((t = t) ∧
            ((n = n) ∧
            (((0 : Int) = (0 : Int)) ∧
            (((((1 : Int) ≤ n) ∧
              (n ≤ (64 : Int))) ∧
             ((((0 : Nat) < ByteArray.size t) ∧
              (ByteArray.size t ≤ (300 : Nat))) ∧
             ((Int.tmod (intOf (nthA (nthE (Prod.snd ds) (Int.toNat j + (0 : Nat))) (0 : Nat))) (8 : Int) ≤ (400 : Int)) ∧
             (((0 : Int) ≤ (0 : Int)) ∧
             (((0 : Int) ≤ (400 : Int)) ∧
             ((0 : Nat) ≤ ByteArray.size t)))))) ∧
            (((Prod.snd (run n t (Int.toNat (Int.tmod (intOf (nthA (nthE (Prod.snd ds) (Int.toNat j + (0 : Nat))) (0 : Nat))) (8 : Int) - (0 : Int))) ((0 : Nat), false)) = true) →
              (((↑(ByteArray.size t) : Int) = (↑(ByteArray.size t) : Int)) ∧
              ((List.length (XM.bytesRow (ByteArray.extract t (0 : Nat) (ByteArray.size t))) = ByteArray.size t) ∧
              ((XM.bytesRow (ByteArray.extract t (0 : Nat) (ByteArray.size t)) = XM.bytesRow (rowStr (XM.bytesRow (ByteArray.extract t (0 : Nat) (ByteArray.size t))))) ∧
              (((↑(ByteArray.size t) : Int) ≤ (70368744177664 : Int)) ∧
              ((sameX (some (Ent.cells (nat_lit 111) (idz [(7 : Int)] ++ [AV.int true IntKind.i64 (↑(ByteArray.size t) : Int), AV.ptr (nat_lit 4) (nat_lit 33), AV.sl SK.n (nat_lit 26) (nat_lit 0) (ByteArray.size t), AV.bool false true])))) ∧
              ((((!strEq (rowStr (XM.bytesRow (ByteArray.extract t (0 : Nat) (ByteArray.size t)))) t) = true) →
                False) ∧
              (((!strEq (rowStr (XM.bytesRow (ByteArray.extract t (0 : Nat) (ByteArray.size t)))) t) = false) →
               (True ∧
               (True ∧
               True)))))))))) ∧
            (((Prod.snd (run n t (Int.toNat (Int.tmod (intOf (nthA (nthE (Prod.snd ds) (Int.toNat j + (0 : Nat))) (0 : Nat))) (8 : Int) - (0 : Int))) ((0 : Nat), false)) = false ∧ Prod.fst (run n t (Int.toNat (Int.tmod (intOf (nthA (nthE (Prod.snd ds) (Int.toNat j + (0 : Nat))) (0 : Nat))) (8 : Int) - (0 : Int))) ((0 : Nat), false)) = (0 : Nat)) →
              ((rng IntKind.i64 (j + (1 : Int))) ∧
              (((j < (20 : Int)) ∧
               (after n t ds j (0 : Nat) = (0 : Nat))) ∧
              ((((0 : Nat) = (0 : Nat)) ∧
               (dn = dn)) ∧
              ((t = t) ∧
              ((j + (1 : Int) = j + (1 : Int)) ∧
              ((Prod.fst (Prod.fst ds, Prod.snd ds) = Prod.fst ds) ∧
              ((Prod.snd (Prod.fst ds, Prod.snd ds) = Prod.snd ds) ∧
              ((n = n) ∧
              ((t = t) ∧
              (((↑(ByteArray.size t) : Int) = (↑(ByteArray.size t) : Int)) ∧
              True))))))))))) ∧
            (((Prod.snd (run n t (Int.toNat (Int.tmod (intOf (nthA (nthE (Prod.snd ds) (Int.toNat j + (0 : Nat))) (0 : Nat))) (8 : Int) - (0 : Int))) ((0 : Nat), false)) = false ∧ (0 : Nat) < Prod.fst (run n t (Int.toNat (Int.tmod (intOf (nthA (nthE (Prod.snd ds) (Int.toNat j + (0 : Nat))) (0 : Nat))) (8 : Int) - (0 : Int))) ((0 : Nat), false))) →
              ((rng IntKind.i64 (j + (1 : Int))) ∧
              (((j < (20 : Int)) ∧
               (((0 : Nat) < after n t ds j (0 : Nat)) ∧
               (after n t ds j (0 : Nat) ≤ ByteArray.size t))) ∧
              ((((0 : Nat) = (0 : Nat)) ∧
               (dn = dn)) ∧
              ((t = t) ∧
              ((j + (1 : Int) = j + (1 : Int)) ∧
              ((Prod.fst (Prod.fst ds, Prod.snd ds) = Prod.fst ds) ∧
              ((Prod.snd (Prod.fst ds, Prod.snd ds) = Prod.snd ds) ∧
              ((n = n) ∧
              ((t = t) ∧
              (((↑(ByteArray.size t) : Int) = (↑(ByteArray.size t) : Int)) ∧
              ((((0 : Nat) = (0 : Nat)) ∧
               (Prod.fst (run n t (Int.toNat (Int.tmod (intOf (nthA (nthE (Prod.snd ds) (Int.toNat j + (0 : Nat))) (0 : Nat))) (8 : Int) - (0 : Int))) ((0 : Nat), false)) = after n t ds j (0 : Nat))) ∧
              ((XM.bytesRow (ByteArray.extract t (0 : Nat) (Prod.fst (run n t (Int.toNat (Int.tmod (intOf (nthA (nthE (Prod.snd ds) (Int.toNat j + (0 : Nat))) (0 : Nat))) (8 : Int) - (0 : Int))) ((0 : Nat), false)))) = XM.bytesRow (ByteArray.extract t (0 : Nat) (after n t ds j (0 : Nat)))) ∧
              True))))))))))))) ∧
            True))))))))))))))))))))) ∧
          ((decide (j < (20 : Int)) = false) →
           (((400 : Int) = (400 : Int)) ∧
           (((0 : Int) = (0 : Int)) ∧
           ((((0 : Nat) = (0 : Nat)) ∧
            (dn = dn)) ∧
           ((t = t) ∧
           ((j = j) ∧
           ((Prod.fst ds = Prod.fst (Prod.fst ds, Prod.snd ds)) ∧
           ((Prod.snd ds = Prod.snd (Prod.fst ds, Prod.snd ds)) ∧
           ((n = n) ∧
           ((t = t) ∧
           (((↑(ByteArray.size t) : Int) = (↑(ByteArray.size t) : Int)) ∧
           ((t = t) ∧
           ((n = n) ∧
           (((0 : Int) = (0 : Int)) ∧
           (((((1 : Int) ≤ n) ∧
             (n ≤ (64 : Int))) ∧
            ((((0 : Nat) < ByteArray.size t) ∧
             (ByteArray.size t ≤ (300 : Nat))) ∧
            (((400 : Int) ≤ (400 : Int)) ∧
            (((0 : Int) ≤ (0 : Int)) ∧
            (((0 : Int) ≤ (400 : Int)) ∧
            ((0 : Nat) ≤ ByteArray.size t)))))) ∧
           (((Prod.snd (run n t (Int.toNat ((400 : Int) - (0 : Int))) ((0 : Nat), false)) = true) →
             (((↑(ByteArray.size t) : Int) = (↑(ByteArray.size t) : Int)) ∧
             ((List.length (XM.bytesRow (ByteArray.extract t (0 : Nat) (ByteArray.size t))) = ByteArray.size t) ∧
             ((XM.bytesRow (ByteArray.extract t (0 : Nat) (ByteArray.size t)) = XM.bytesRow (rowStr (XM.bytesRow (ByteArray.extract t (0 : Nat) (ByteArray.size t))))) ∧
             (((↑(ByteArray.size t) : Int) ≤ (70368744177664 : Int)) ∧
             ((sameX (some (Ent.cells (nat_lit 111) (idz [(7 : Int)] ++ [AV.int true IntKind.i64 (↑(ByteArray.size t) : Int), AV.ptr (nat_lit 4) (nat_lit 33), AV.sl SK.n (nat_lit 26) (nat_lit 0) (ByteArray.size t), AV.bool false true])))) ∧
             ((((!strEq (rowStr (XM.bytesRow (ByteArray.extract t (0 : Nat) (ByteArray.size t)))) t) = true) →
               False) ∧
             (((!strEq (rowStr (XM.bytesRow (ByteArray.extract t (0 : Nat) (ByteArray.size t)))) t) = false) →
              (True ∧
              (True ∧
              True)))))))))) ∧
           (((Prod.snd (run n t (Int.toNat ((400 : Int) - (0 : Int))) ((0 : Nat), false)) = false ∧ Prod.fst (run n t (Int.toNat ((400 : Int) - (0 : Int))) ((0 : Nat), false)) = (0 : Nat)) →
             ((rng IntKind.i64 (j + (1 : Int))) ∧
             (((j < (20 : Int)) ∧
              (after n t ds j (0 : Nat) = (0 : Nat))) ∧
             ((((0 : Nat) = (0 : Nat)) ∧
              (dn = dn)) ∧
             ((t = t) ∧
             ((j + (1 : Int) = j + (1 : Int)) ∧
             ((Prod.fst (Prod.fst ds, Prod.snd ds) = Prod.fst ds) ∧
             ((Prod.snd (Prod.fst ds, Prod.snd ds) = Prod.snd ds) ∧
             ((n = n) ∧
             ((t = t) ∧
             (((↑(ByteArray.size t) : Int) = (↑(ByteArray.size t) : Int)) ∧
             True))))))))))) ∧
           (((Prod.snd (run n t (Int.toNat ((400 : Int) - (0 : Int))) ((0 : Nat), false)) = false ∧ (0 : Nat) < Prod.fst (run n t (Int.toNat ((400 : Int) - (0 : Int))) ((0 : Nat), false))) →
             ((rng IntKind.i64 (j + (1 : Int))) ∧
             (((j < (20 : Int)) ∧
              (((0 : Nat) < after n t ds j (0 : Nat)) ∧
              (after n t ds j (0 : Nat) ≤ ByteArray.size t))) ∧
             ((((0 : Nat) = (0 : Nat)) ∧
              (dn = dn)) ∧
             ((t = t) ∧
             ((j + (1 : Int) = j + (1 : Int)) ∧
             ((Prod.fst (Prod.fst ds, Prod.snd ds) = Prod.fst ds) ∧
             ((Prod.snd (Prod.fst ds, Prod.snd ds) = Prod.snd ds) ∧
             ((n = n) ∧
             ((t = t) ∧
             (((↑(ByteArray.size t) : Int) = (↑(ByteArray.size t) : Int)) ∧
             ((((0 : Nat) = (0 : Nat)) ∧
              (Prod.fst (run n t (Int.toNat ((400 : Int) - (0 : Int))) ((0 : Nat), false)) = after n t ds j (0 : Nat))) ∧
             ((XM.bytesRow (ByteArray.extract t (0 : Nat) (Prod.fst (run n t (Int.toNat ((400 : Int) - (0 : Int))) ((0 : Nat), false)))) = XM.bytesRow (ByteArray.extract t (0 : Nat) (after n t ds j (0 : Nat)))) ∧
             True))))))))))))) ∧
           True)))))))))))))))))))) ∧
        ((decide (j < (↑dn : Int)) = false) →
         (((400 : Int) = (400 : Int)) ∧
         (((0 : Int) = (0 : Int)) ∧
         ((((0 : Nat) = (0 : Nat)) ∧
          (dn = dn)) ∧
         ((t = t) ∧
         ((j = j) ∧
         ((Prod.fst ds = Prod.fst (Prod.fst ds, Prod.snd ds)) ∧
         ((Prod.snd ds = Prod.snd (Prod.fst ds, Prod.snd ds)) ∧
         ((n = n) ∧
         ((t = t) ∧
         (((↑(ByteArray.size t) : Int) = (↑(ByteArray.size t) : Int)) ∧
         ((t = t) ∧
         ((n = n) ∧
         (((0 : Int) = (0 : Int)) ∧
         (((((1 : Int) ≤ n) ∧
           (n ≤ (64 : Int))) ∧
          ((((0 : Nat) < ByteArray.size t) ∧
           (ByteArray.size t ≤ (300 : Nat))) ∧
          (((400 : Int) ≤ (400 : Int)) ∧
          (((0 : Int) ≤ (0 : Int)) ∧
          (((0 : Int) ≤ (400 : Int)) ∧
          ((0 : Nat) ≤ ByteArray.size t)))))) ∧
         (((Prod.snd (run n t (Int.toNat ((400 : Int) - (0 : Int))) ((0 : Nat), false)) = true) →
           (((↑(ByteArray.size t) : Int) = (↑(ByteArray.size t) : Int)) ∧
           ((List.length (XM.bytesRow (ByteArray.extract t (0 : Nat) (ByteArray.size t))) = ByteArray.size t) ∧
           ((XM.bytesRow (ByteArray.extract t (0 : Nat) (ByteArray.size t)) = XM.bytesRow (rowStr (XM.bytesRow (ByteArray.extract t (0 : Nat) (ByteArray.size t))))) ∧
           (((↑(ByteArray.size t) : Int) ≤ (70368744177664 : Int)) ∧
           ((sameX (some (Ent.cells (nat_lit 111) (idz [(7 : Int)] ++ [AV.int true IntKind.i64 (↑(ByteArray.size t) : Int), AV.ptr (nat_lit 4) (nat_lit 33), AV.sl SK.n (nat_lit 26) (nat_lit 0) (ByteArray.size t), AV.bool false true])))) ∧
           ((((!strEq (rowStr (XM.bytesRow (ByteArray.extract t (0 : Nat) (ByteArray.size t)))) t) = true) →
             False) ∧
           (((!strEq (rowStr (XM.bytesRow (ByteArray.extract t (0 : Nat) (ByteArray.size t)))) t) = false) →
            (True ∧
            (True ∧
            True)))))))))) ∧
         (((Prod.snd (run n t (Int.toNat ((400 : Int) - (0 : Int))) ((0 : Nat), false)) = false ∧ Prod.fst (run n t (Int.toNat ((400 : Int) - (0 : Int))) ((0 : Nat), false)) = (0 : Nat)) →
           ((rng IntKind.i64 (j + (1 : Int))) ∧
           (((j < (20 : Int)) ∧
            (after n t ds j (0 : Nat) = (0 : Nat))) ∧
           ((((0 : Nat) = (0 : Nat)) ∧
            (dn = dn)) ∧
           ((t = t) ∧
           ((j + (1 : Int) = j + (1 : Int)) ∧
           ((Prod.fst (Prod.fst ds, Prod.snd ds) = Prod.fst ds) ∧
           ((Prod.snd (Prod.fst ds, Prod.snd ds) = Prod.snd ds) ∧
           ((n = n) ∧
           ((t = t) ∧
           (((↑(ByteArray.size t) : Int) = (↑(ByteArray.size t) : Int)) ∧
           True))))))))))) ∧
         (((Prod.snd (run n t (Int.toNat ((400 : Int) - (0 : Int))) ((0 : Nat), false)) = false ∧ (0 : Nat) < Prod.fst (run n t (Int.toNat ((400 : Int) - (0 : Int))) ((0 : Nat), false))) →
           ((rng IntKind.i64 (j + (1 : Int))) ∧
           (((j < (20 : Int)) ∧
            (((0 : Nat) < after n t ds j (0 : Nat)) ∧
            (after n t ds j (0 : Nat) ≤ ByteArray.size t))) ∧
           ((((0 : Nat) = (0 : Nat)) ∧
            (dn = dn)) ∧
           ((t = t) ∧
           ((j + (1 : Int) = j + (1 : Int)) ∧
           ((Prod.fst (Prod.fst ds, Prod.snd ds) = Prod.fst ds) ∧
           ((Prod.snd (Prod.fst ds, Prod.snd ds) = Prod.snd ds) ∧
           ((n = n) ∧
           ((t = t) ∧
           (((↑(ByteArray.size t) : Int) = (↑(ByteArray.size t) : Int)) ∧
           ((((0 : Nat) = (0 : Nat)) ∧
            (Prod.fst (run n t (Int.toNat ((400 : Int) - (0 : Int))) ((0 : Nat), false)) = after n t ds j (0 : Nat))) ∧
           ((XM.bytesRow (ByteArray.extract t (0 : Nat) (Prod.fst (run n t (Int.toNat ((400 : Int) - (0 : Int))) ((0 : Nat), false)))) = XM.bytesRow (ByteArray.extract t (0 : Nat) (after n t ds j (0 : Nat)))) ∧
           True))))))))))))) ∧
         True)))))))))))))))))))))))))))))))))))) ∧
((decide (j ≤ (20 : Int)) = false) →
 False))) := by kernel_rfl
set_option maxRecDepth 100000 in
theorem oB (n j : Int) (t : ByteArray) (ds : Nat × List (List AV)) (dn p : Nat) : (vCode Try.prog call6 (loops6 7) (loopN Try.prog 7) 1000 (loopAt Try.prog 7 60) (outR dn t j) (outB n t ds p) (postL [] (altsR n t ds dn j p))) = (
(((decide (j ≤ (20 : Int)) = true) →
  ((sameX (some (Ent.cells (nat_lit 86) ([AV.int true IntKind.i64 n, AV.sl SK.c (nat_lit 3) (nat_lit 0) (nat_lit 1), AV.int false IntKind.i64 (0 : Int)] ++ (idz [] ++ [AV.str false es, AV.nilp, AV.nils]))))) ∧
  ((sameX (some (Ent.row (nat_lit 83) false none (nat_lit 33) [idz [(7 : Int)] ++ [AV.str true t]]))) ∧
  ((sameX (some (Ent.row (nat_lit 83) false none (nat_lit 33) [idz [(7 : Int)] ++ [AV.str true t]]))) ∧
  (((((↑(ByteArray.size t) : Int) != (↑(ByteArray.size t) : Int)) = true) →
    False) ∧
  ((((↑(ByteArray.size t) : Int) != (↑(ByteArray.size t) : Int)) = false) →
   ((sameX (some (Ent.cells (nat_lit 45) ([AV.int false IntKind.i64 (3 : Int), AV.str false (ByteArray.mk #[])] ++ (idz [(7 : Int)] ++ [AV.int false IntKind.i64 (0 : Int), AV.int true IntKind.i64 (↑p : Int), AV.int false IntKind.i64 (0 : Int), AV.int false IntKind.i64 (0 : Int), AV.str false (ByteArray.mk #[])]))))) ∧
   (((decide ((↑p : Int) ≥ (0 : Int)) = true) →
     (((decide ((↑p : Int) ≤ (65536 : Int)) = true) →
       (True ∧
       ((sameX (some (Ent.cells (nat_lit 45) ([AV.int false IntKind.i64 (3 : Int), AV.str false (ByteArray.mk #[])] ++ (idz [(7 : Int)] ++ [AV.int false IntKind.i64 (0 : Int), AV.int true IntKind.i64 (↑p : Int), AV.int false IntKind.i64 (0 : Int), AV.int false IntKind.i64 (0 : Int), AV.str false (ByteArray.mk #[])]))))) ∧
       (((decide ((↑p : Int) > (↑(ByteArray.size t) : Int)) = true) →
         False) ∧
       ((decide ((↑p : Int) > (↑(ByteArray.size t) : Int)) = false) →
        (((decide ((↑(ByteArray.size t) : Int) > (65536 : Int)) = true) →
          False) ∧
        ((decide ((↑(ByteArray.size t) : Int) > (65536 : Int)) = false) →
         (((decide (n < (1 : Int)) = true) →
           False) ∧
         ((decide (n < (1 : Int)) = false) →
          (((decide (n > (4096 : Int)) = true) →
            False) ∧
          ((decide (n > (4096 : Int)) = false) →
           (((decide ((↑p : Int) < (0 : Int)) = true) →
             False) ∧
           ((decide ((↑p : Int) < (0 : Int)) = false) →
            (((decide ((↑p : Int) > (↑(ByteArray.size t) : Int)) = true) →
              False) ∧
            ((decide ((↑p : Int) > (↑(ByteArray.size t) : Int)) = false) →
             (((decide (j < (↑dn : Int)) = true) →
               (((decide (j < (20 : Int)) = true) →
                 ((((0 : Int) ≤ j) ∧
                  (j < (↑dn : Int))) ∧
                 ((Int.toNat j + (0 : Nat) < List.length (Prod.snd ds)) ∧
                 ((rng IntKind.i64 (intOf (nthA (nthE (Prod.snd ds) (Int.toNat j + (0 : Nat))) (0 : Nat)))) ∧
                 ((Int.tmod (intOf (nthA (nthE (Prod.snd ds) (Int.toNat j + (0 : Nat))) (0 : Nat))) (8 : Int) = Int.tmod (intOf (nthA (nthE (Prod.snd ds) (Int.toNat j + (0 : Nat))) (0 : Nat))) (8 : Int)) ∧
                 (((0 : Int) = (0 : Int)) ∧
                 ((((0 : Nat) = (0 : Nat)) ∧
                  (dn = dn)) ∧
                 ((t = t) ∧
                 ((j = j) ∧
                 ((Prod.fst ds = Prod.fst (Prod.fst ds, Prod.snd ds)) ∧
                 ((Prod.snd ds = Prod.snd (Prod.fst ds, Prod.snd ds)) ∧
                 ((n = n) ∧
                 ((t = t) ∧
                 (((↑(ByteArray.size t) : Int) = (↑(ByteArray.size t) : Int)) ∧
                 ((((0 : Nat) = (0 : Nat)) ∧
                  (p = p)) ∧
                 ((t = t) ∧
                 ((n = n) ∧
                 (((↑p : Int) = (↑p : Int)) ∧
                 ((XM.bytesRow (ByteArray.extract t (0 : Nat) p) = XM.bytesRow (ByteArray.extract t (0 : Nat) p)) ∧
                 ((((((1 : Int) ≤ n) ∧
                    (n ≤ (64 : Int))) ∧
                   ((((0 : Nat) < ByteArray.size t) ∧
                    (ByteArray.size t ≤ (300 : Nat))) ∧
                   ((Int.tmod (intOf (nthA (nthE (Prod.snd ds) (Int.toNat j + (0 : Nat))) (0 : Nat))) (8 : Int) ≤ (400 : Int)) ∧
                   (((0 : Int) ≤ (0 : Int)) ∧
                   (((0 : Int) ≤ (400 : Int)) ∧
                   (p ≤ ByteArray.size t)))))) ∧
                  ((0 : Nat) < p)) ∧
                 (((Prod.snd (run n t (Int.toNat (Int.tmod (intOf (nthA (nthE (Prod.snd ds) (Int.toNat j + (0 : Nat))) (0 : Nat))) (8 : Int) - (0 : Int))) (p, false)) = true) →
                   (((↑(ByteArray.size t) : Int) = (↑(ByteArray.size t) : Int)) ∧
                   ((List.length (XM.bytesRow (ByteArray.extract t (0 : Nat) (ByteArray.size t))) = ByteArray.size t) ∧
                   ((XM.bytesRow (ByteArray.extract t (0 : Nat) (ByteArray.size t)) = XM.bytesRow (rowStr (XM.bytesRow (ByteArray.extract t (0 : Nat) (ByteArray.size t))))) ∧
                   (((↑(ByteArray.size t) : Int) ≤ (70368744177664 : Int)) ∧
                   ((sameX (some (Ent.cells (nat_lit 111) (idz [(7 : Int)] ++ [AV.int true IntKind.i64 (↑(ByteArray.size t) : Int), AV.ptr (nat_lit 4) (nat_lit 33), AV.sl SK.n (nat_lit 27) (nat_lit 0) (ByteArray.size t), AV.bool false true])))) ∧
                   ((((!strEq (rowStr (XM.bytesRow (ByteArray.extract t (0 : Nat) (ByteArray.size t)))) t) = true) →
                     False) ∧
                   (((!strEq (rowStr (XM.bytesRow (ByteArray.extract t (0 : Nat) (ByteArray.size t)))) t) = false) →
                    (True ∧
                    (True ∧
                    True)))))))))) ∧
                 (((Prod.snd (run n t (Int.toNat (Int.tmod (intOf (nthA (nthE (Prod.snd ds) (Int.toNat j + (0 : Nat))) (0 : Nat))) (8 : Int) - (0 : Int))) (p, false)) = false ∧ Prod.fst (run n t (Int.toNat (Int.tmod (intOf (nthA (nthE (Prod.snd ds) (Int.toNat j + (0 : Nat))) (0 : Nat))) (8 : Int) - (0 : Int))) (p, false)) = (0 : Nat)) →
                   ((rng IntKind.i64 (j + (1 : Int))) ∧
                   (((j < (20 : Int)) ∧
                    (after n t ds j p = (0 : Nat))) ∧
                   ((((0 : Nat) = (0 : Nat)) ∧
                    (dn = dn)) ∧
                   ((t = t) ∧
                   ((j + (1 : Int) = j + (1 : Int)) ∧
                   ((Prod.fst (Prod.fst ds, Prod.snd ds) = Prod.fst ds) ∧
                   ((Prod.snd (Prod.fst ds, Prod.snd ds) = Prod.snd ds) ∧
                   ((n = n) ∧
                   ((t = t) ∧
                   (((↑(ByteArray.size t) : Int) = (↑(ByteArray.size t) : Int)) ∧
                   True))))))))))) ∧
                 (((Prod.snd (run n t (Int.toNat (Int.tmod (intOf (nthA (nthE (Prod.snd ds) (Int.toNat j + (0 : Nat))) (0 : Nat))) (8 : Int) - (0 : Int))) (p, false)) = false ∧ (0 : Nat) < Prod.fst (run n t (Int.toNat (Int.tmod (intOf (nthA (nthE (Prod.snd ds) (Int.toNat j + (0 : Nat))) (0 : Nat))) (8 : Int) - (0 : Int))) (p, false))) →
                   ((rng IntKind.i64 (j + (1 : Int))) ∧
                   (((j < (20 : Int)) ∧
                    (((0 : Nat) < after n t ds j p) ∧
                    (after n t ds j p ≤ ByteArray.size t))) ∧
                   ((((0 : Nat) = (0 : Nat)) ∧
                    (dn = dn)) ∧
                   ((t = t) ∧
                   ((j + (1 : Int) = j + (1 : Int)) ∧
                   ((Prod.fst (Prod.fst ds, Prod.snd ds) = Prod.fst ds) ∧
                   ((Prod.snd (Prod.fst ds, Prod.snd ds) = Prod.snd ds) ∧
                   ((n = n) ∧
                   ((t = t) ∧
                   (((↑(ByteArray.size t) : Int) = (↑(ByteArray.size t) : Int)) ∧
                   ((((0 : Nat) = (0 : Nat)) ∧
                    (Prod.fst (run n t (Int.toNat (Int.tmod (intOf (nthA (nthE (Prod.snd ds) (Int.toNat j + (0 : Nat))) (0 : Nat))) (8 : Int) - (0 : Int))) (p, false)) = after n t ds j p)) ∧
                   ((XM.bytesRow (ByteArray.extract t (0 : Nat) (Prod.fst (run n t (Int.toNat (Int.tmod (intOf (nthA (nthE (Prod.snd ds) (Int.toNat j + (0 : Nat))) (0 : Nat))) (8 : Int) - (0 : Int))) (p, false)))) = XM.bytesRow (ByteArray.extract t (0 : Nat) (after n t ds j p))) ∧
                   True))))))))))))) ∧
                 True))))))))))))))))))))))) ∧
               ((decide (j < (20 : Int)) = false) →
                (((400 : Int) = (400 : Int)) ∧
                (((0 : Int) = (0 : Int)) ∧
                ((((0 : Nat) = (0 : Nat)) ∧
                 (dn = dn)) ∧
                ((t = t) ∧
                ((j = j) ∧
                ((Prod.fst ds = Prod.fst (Prod.fst ds, Prod.snd ds)) ∧
                ((Prod.snd ds = Prod.snd (Prod.fst ds, Prod.snd ds)) ∧
                ((n = n) ∧
                ((t = t) ∧
                (((↑(ByteArray.size t) : Int) = (↑(ByteArray.size t) : Int)) ∧
                ((((0 : Nat) = (0 : Nat)) ∧
                 (p = p)) ∧
                ((t = t) ∧
                ((n = n) ∧
                (((↑p : Int) = (↑p : Int)) ∧
                ((XM.bytesRow (ByteArray.extract t (0 : Nat) p) = XM.bytesRow (ByteArray.extract t (0 : Nat) p)) ∧
                ((((((1 : Int) ≤ n) ∧
                   (n ≤ (64 : Int))) ∧
                  ((((0 : Nat) < ByteArray.size t) ∧
                   (ByteArray.size t ≤ (300 : Nat))) ∧
                  (((400 : Int) ≤ (400 : Int)) ∧
                  (((0 : Int) ≤ (0 : Int)) ∧
                  (((0 : Int) ≤ (400 : Int)) ∧
                  (p ≤ ByteArray.size t)))))) ∧
                 ((0 : Nat) < p)) ∧
                (((Prod.snd (run n t (Int.toNat ((400 : Int) - (0 : Int))) (p, false)) = true) →
                  (((↑(ByteArray.size t) : Int) = (↑(ByteArray.size t) : Int)) ∧
                  ((List.length (XM.bytesRow (ByteArray.extract t (0 : Nat) (ByteArray.size t))) = ByteArray.size t) ∧
                  ((XM.bytesRow (ByteArray.extract t (0 : Nat) (ByteArray.size t)) = XM.bytesRow (rowStr (XM.bytesRow (ByteArray.extract t (0 : Nat) (ByteArray.size t))))) ∧
                  (((↑(ByteArray.size t) : Int) ≤ (70368744177664 : Int)) ∧
                  ((sameX (some (Ent.cells (nat_lit 111) (idz [(7 : Int)] ++ [AV.int true IntKind.i64 (↑(ByteArray.size t) : Int), AV.ptr (nat_lit 4) (nat_lit 33), AV.sl SK.n (nat_lit 27) (nat_lit 0) (ByteArray.size t), AV.bool false true])))) ∧
                  ((((!strEq (rowStr (XM.bytesRow (ByteArray.extract t (0 : Nat) (ByteArray.size t)))) t) = true) →
                    False) ∧
                  (((!strEq (rowStr (XM.bytesRow (ByteArray.extract t (0 : Nat) (ByteArray.size t)))) t) = false) →
                   (True ∧
                   (True ∧
                   True)))))))))) ∧
                (((Prod.snd (run n t (Int.toNat ((400 : Int) - (0 : Int))) (p, false)) = false ∧ Prod.fst (run n t (Int.toNat ((400 : Int) - (0 : Int))) (p, false)) = (0 : Nat)) →
                  ((rng IntKind.i64 (j + (1 : Int))) ∧
                  (((j < (20 : Int)) ∧
                   (after n t ds j p = (0 : Nat))) ∧
                  ((((0 : Nat) = (0 : Nat)) ∧
                   (dn = dn)) ∧
                  ((t = t) ∧
                  ((j + (1 : Int) = j + (1 : Int)) ∧
                  ((Prod.fst (Prod.fst ds, Prod.snd ds) = Prod.fst ds) ∧
                  ((Prod.snd (Prod.fst ds, Prod.snd ds) = Prod.snd ds) ∧
                  ((n = n) ∧
                  ((t = t) ∧
                  (((↑(ByteArray.size t) : Int) = (↑(ByteArray.size t) : Int)) ∧
                  True))))))))))) ∧
                (((Prod.snd (run n t (Int.toNat ((400 : Int) - (0 : Int))) (p, false)) = false ∧ (0 : Nat) < Prod.fst (run n t (Int.toNat ((400 : Int) - (0 : Int))) (p, false))) →
                  ((rng IntKind.i64 (j + (1 : Int))) ∧
                  (((j < (20 : Int)) ∧
                   (((0 : Nat) < after n t ds j p) ∧
                   (after n t ds j p ≤ ByteArray.size t))) ∧
                  ((((0 : Nat) = (0 : Nat)) ∧
                   (dn = dn)) ∧
                  ((t = t) ∧
                  ((j + (1 : Int) = j + (1 : Int)) ∧
                  ((Prod.fst (Prod.fst ds, Prod.snd ds) = Prod.fst ds) ∧
                  ((Prod.snd (Prod.fst ds, Prod.snd ds) = Prod.snd ds) ∧
                  ((n = n) ∧
                  ((t = t) ∧
                  (((↑(ByteArray.size t) : Int) = (↑(ByteArray.size t) : Int)) ∧
                  ((((0 : Nat) = (0 : Nat)) ∧
                   (Prod.fst (run n t (Int.toNat ((400 : Int) - (0 : Int))) (p, false)) = after n t ds j p)) ∧
                  ((XM.bytesRow (ByteArray.extract t (0 : Nat) (Prod.fst (run n t (Int.toNat ((400 : Int) - (0 : Int))) (p, false)))) = XM.bytesRow (ByteArray.extract t (0 : Nat) (after n t ds j p))) ∧
                  True))))))))))))) ∧
                True)))))))))))))))))))))) ∧
             ((decide (j < (↑dn : Int)) = false) →
              (((400 : Int) = (400 : Int)) ∧
              (((0 : Int) = (0 : Int)) ∧
              ((((0 : Nat) = (0 : Nat)) ∧
               (dn = dn)) ∧
              ((t = t) ∧
              ((j = j) ∧
              ((Prod.fst ds = Prod.fst (Prod.fst ds, Prod.snd ds)) ∧
              ((Prod.snd ds = Prod.snd (Prod.fst ds, Prod.snd ds)) ∧
              ((n = n) ∧
              ((t = t) ∧
              (((↑(ByteArray.size t) : Int) = (↑(ByteArray.size t) : Int)) ∧
              ((((0 : Nat) = (0 : Nat)) ∧
               (p = p)) ∧
              ((t = t) ∧
              ((n = n) ∧
              (((↑p : Int) = (↑p : Int)) ∧
              ((XM.bytesRow (ByteArray.extract t (0 : Nat) p) = XM.bytesRow (ByteArray.extract t (0 : Nat) p)) ∧
              ((((((1 : Int) ≤ n) ∧
                 (n ≤ (64 : Int))) ∧
                ((((0 : Nat) < ByteArray.size t) ∧
                 (ByteArray.size t ≤ (300 : Nat))) ∧
                (((400 : Int) ≤ (400 : Int)) ∧
                (((0 : Int) ≤ (0 : Int)) ∧
                (((0 : Int) ≤ (400 : Int)) ∧
                (p ≤ ByteArray.size t)))))) ∧
               ((0 : Nat) < p)) ∧
              (((Prod.snd (run n t (Int.toNat ((400 : Int) - (0 : Int))) (p, false)) = true) →
                (((↑(ByteArray.size t) : Int) = (↑(ByteArray.size t) : Int)) ∧
                ((List.length (XM.bytesRow (ByteArray.extract t (0 : Nat) (ByteArray.size t))) = ByteArray.size t) ∧
                ((XM.bytesRow (ByteArray.extract t (0 : Nat) (ByteArray.size t)) = XM.bytesRow (rowStr (XM.bytesRow (ByteArray.extract t (0 : Nat) (ByteArray.size t))))) ∧
                (((↑(ByteArray.size t) : Int) ≤ (70368744177664 : Int)) ∧
                ((sameX (some (Ent.cells (nat_lit 111) (idz [(7 : Int)] ++ [AV.int true IntKind.i64 (↑(ByteArray.size t) : Int), AV.ptr (nat_lit 4) (nat_lit 33), AV.sl SK.n (nat_lit 27) (nat_lit 0) (ByteArray.size t), AV.bool false true])))) ∧
                ((((!strEq (rowStr (XM.bytesRow (ByteArray.extract t (0 : Nat) (ByteArray.size t)))) t) = true) →
                  False) ∧
                (((!strEq (rowStr (XM.bytesRow (ByteArray.extract t (0 : Nat) (ByteArray.size t)))) t) = false) →
                 (True ∧
                 (True ∧
                 True)))))))))) ∧
              (((Prod.snd (run n t (Int.toNat ((400 : Int) - (0 : Int))) (p, false)) = false ∧ Prod.fst (run n t (Int.toNat ((400 : Int) - (0 : Int))) (p, false)) = (0 : Nat)) →
                ((rng IntKind.i64 (j + (1 : Int))) ∧
                (((j < (20 : Int)) ∧
                 (after n t ds j p = (0 : Nat))) ∧
                ((((0 : Nat) = (0 : Nat)) ∧
                 (dn = dn)) ∧
                ((t = t) ∧
                ((j + (1 : Int) = j + (1 : Int)) ∧
                ((Prod.fst (Prod.fst ds, Prod.snd ds) = Prod.fst ds) ∧
                ((Prod.snd (Prod.fst ds, Prod.snd ds) = Prod.snd ds) ∧
                ((n = n) ∧
                ((t = t) ∧
                (((↑(ByteArray.size t) : Int) = (↑(ByteArray.size t) : Int)) ∧
                True))))))))))) ∧
              (((Prod.snd (run n t (Int.toNat ((400 : Int) - (0 : Int))) (p, false)) = false ∧ (0 : Nat) < Prod.fst (run n t (Int.toNat ((400 : Int) - (0 : Int))) (p, false))) →
                ((rng IntKind.i64 (j + (1 : Int))) ∧
                (((j < (20 : Int)) ∧
                 (((0 : Nat) < after n t ds j p) ∧
                 (after n t ds j p ≤ ByteArray.size t))) ∧
                ((((0 : Nat) = (0 : Nat)) ∧
                 (dn = dn)) ∧
                ((t = t) ∧
                ((j + (1 : Int) = j + (1 : Int)) ∧
                ((Prod.fst (Prod.fst ds, Prod.snd ds) = Prod.fst ds) ∧
                ((Prod.snd (Prod.fst ds, Prod.snd ds) = Prod.snd ds) ∧
                ((n = n) ∧
                ((t = t) ∧
                (((↑(ByteArray.size t) : Int) = (↑(ByteArray.size t) : Int)) ∧
                ((((0 : Nat) = (0 : Nat)) ∧
                 (Prod.fst (run n t (Int.toNat ((400 : Int) - (0 : Int))) (p, false)) = after n t ds j p)) ∧
                ((XM.bytesRow (ByteArray.extract t (0 : Nat) (Prod.fst (run n t (Int.toNat ((400 : Int) - (0 : Int))) (p, false)))) = XM.bytesRow (ByteArray.extract t (0 : Nat) (after n t ds j p))) ∧
                True))))))))))))) ∧
              True)))))))))))))))))))))))))))))))))))) ∧
     ((decide ((↑p : Int) ≤ (65536 : Int)) = false) →
      False))) ∧
   ((decide ((↑p : Int) ≥ (0 : Int)) = false) →
    False))))))))) ∧
((decide (j ≤ (20 : Int)) = false) →
 False))) := by kernel_rfl
end
end Go.Proofs.Ythhncnifpahgdaa

namespace Go.Proofs.Ythhncnifpahgdaa
open Go Go.XM
noncomputable section
theorem rowStr_bytesRow (b : ByteArray) : rowStr (XM.bytesRow b) = b := by
  obtain ⟨⟨l⟩⟩ := b
  unfold rowStr XM.bytesRow
  simp only [List.map_map]
  congr 2
  refine (List.map_congr_left fun c _ => ?_).trans (List.map_id _)
  show (Int.toNat (c.toNat : Int)).toUInt8 = c
  rw [Int.toNat_natCast]
  exact UInt8.ofNat_toNat
theorem extract_all (t : ByteArray) : t.extract 0 t.size = t := by simp
theorem strEq_self (t : ByteArray) : strEq t t = true := by simp [strEq]
theorem tmod8 {x : Int} (h : 0 ≤ x ∧ x ≤ 255) : Int.tmod x 8 ≤ 400 := by
  rw [Int.tmod_eq_emod_of_nonneg h.1]; omega
/-- the bytes of the drops. -/
def dropsOk (ds : Nat × List (List AV)) (dn : Nat) : Prop := dn ≤ ds.2.length ∧ ∀ i, i < ds.2.length → 0 ≤ intOf (nthA (nthE ds.2 i) 0) ∧ intOf (nthA (nthE ds.2 i) 0) ≤ 255
theorem oA_ok {n j : Int} {t : ByteArray} {ds : Nat × List (List AV)} {dn : Nat} (hn : 1 ≤ n ∧ n ≤ 64) (ht : 0 < t.size ∧ t.size ≤ 300) (hj : 0 ≤ j ∧ j ≤ 20) (hd : dropsOk ds dn) : Holds (vCode Try.prog call6 (loops6 7) (loopN Try.prog 7) 1000 (loopAt Try.prog 7 60) (outR dn t j) (outA n t ds) (postL [] (altsR n t ds dn j 0))) := by
  refine .of (oA n j t ds dn) ?_
  have f1 : decide (j ≤ (20 : Int)) = true := decide_eq_true hj.2
  have full := run_ends (n := n) (t := t) hn.1 (Int.toNat ((400 : Int) - 0)) (p := 0) (d := false) (by omega) (by omega)
  have lim := run_le (n := n) (t := t) hn.1 (Int.toNat (Int.tmod (dropAt ds j) 8 - 0)) (s := (0, false)) (by simp)
  have r1 : rng .i64 (j + 1) := rng64 (by omega) (by omega)
  have r3 : rng IntKind.i64 ((ByteArray.size t : Nat) : Int) := rng64 (by omega) (by omega)
  have g1 : decide ((0 : Int) > (↑(ByteArray.size t) : Int)) = false := decide_eq_false (by omega)
  have g2 : decide ((↑(ByteArray.size t) : Int) > (65536 : Int)) = false := decide_eq_false (by omega)
  have g3 : decide (n < (1 : Int)) = false := decide_eq_false (by omega)
  have g4 : decide (n > (4096 : Int)) = false := decide_eq_false (by omega)
  have g5 : (((ByteArray.size t : Nat) : Int) ≤ 70368744177664) := by omega
  rw [f1, g1, g2, g3, g4]
  simp only [full, extract_all, rowStr_bytesRow, bytesRow_len, strEq_self, sameX_true, r1, r3, g5, hn.1, hn.2, ht.1, ht.2, Nat.zero_le, bne_self_eq_false, Bool.not_true, true_and, and_true, true_implies, Bool.false_eq_true, Bool.true_eq_false, false_implies, false_and, Int.le_refl]
  refine ⟨fun a1 => ⟨fun a2 => ?_, fun _ => ?_⟩, fun _ => ?_⟩
  · have a1 := of_decide_eq_true a1
    have a2 := of_decide_eq_true a2
    have h1 : Int.toNat j + 0 < ds.2.length := by have := hd.1; omega
    have h2 := hd.2 _ h1
    exact ⟨⟨hj.1, a1⟩, h1, rng64 (by omega) (by omega), ⟨tmod8 h2, by decide⟩, fun _ => trivial, fun h => ⟨a2, h.2⟩, fun h => ⟨⟨a2, h.2, lim⟩, rfl, rfl⟩⟩
  · decide
  · decide
theorem oB_ok {n j : Int} {t : ByteArray} {ds : Nat × List (List AV)} {dn p : Nat} (hn : 1 ≤ n ∧ n ≤ 64) (ht : 0 < t.size ∧ t.size ≤ 300) (hj : 0 ≤ j ∧ j ≤ 20) (hd : dropsOk ds dn) (hp : 0 < p ∧ p ≤ t.size) : Holds (vCode Try.prog call6 (loops6 7) (loopN Try.prog 7) 1000 (loopAt Try.prog 7 60) (outR dn t j) (outB n t ds p) (postL [] (altsR n t ds dn j p))) := by
  refine .of (oB n j t ds dn p) ?_
  have f1 : decide (j ≤ (20 : Int)) = true := decide_eq_true hj.2
  have full := run_ends (n := n) (t := t) hn.1 (Int.toNat ((400 : Int) - 0)) (p := p) (d := false) hp.2 (by omega)
  have lim := run_le (n := n) (t := t) hn.1 (Int.toNat (Int.tmod (dropAt ds j) 8 - 0)) (s := (p, false)) hp.2
  have r1 : rng .i64 (j + 1) := rng64 (by omega) (by omega)
  have g1 : decide ((p : Int) > (↑(ByteArray.size t) : Int)) = false := decide_eq_false (by omega)
  have g2 : decide ((↑(ByteArray.size t) : Int) > (65536 : Int)) = false := decide_eq_false (by omega)
  have g3 : decide (n < (1 : Int)) = false := decide_eq_false (by omega)
  have g4 : decide (n > (4096 : Int)) = false := decide_eq_false (by omega)
  have g5 : (((ByteArray.size t : Nat) : Int) ≤ 70368744177664) := by omega
  have g6 : decide ((p : Int) ≥ (0 : Int)) = true := decide_eq_true (by omega)
  have g7 : decide ((p : Int) ≤ (65536 : Int)) = true := decide_eq_true (by omega)
  have g8 : decide ((p : Int) < (0 : Int)) = false := decide_eq_false (by omega)
  rw [f1, g1, g2, g3, g4, g6, g7, g8]
  simp only [full, extract_all, rowStr_bytesRow, bytesRow_len, strEq_self, sameX_true, r1, g5, hn.1, hn.2, ht.1, ht.2, hp.1, hp.2, Nat.zero_le, bne_self_eq_false, Bool.not_true, true_and, and_true, true_implies, Bool.false_eq_true, Bool.true_eq_false, false_implies, false_and, Int.le_refl]
  refine ⟨fun a1 => ⟨fun a2 => ?_, fun _ => ?_⟩, fun _ => ?_⟩
  · have a1 := of_decide_eq_true a1
    have a2 := of_decide_eq_true a2
    have h1 : Int.toNat j + 0 < ds.2.length := by have := hd.1; omega
    have h2 := hd.2 _ h1
    exact ⟨⟨hj.1, a1⟩, h1, rng64 (by omega) (by omega), ⟨tmod8 h2, by decide⟩, fun _ => trivial, fun h => ⟨a2, h.2⟩, fun h => ⟨⟨a2, h.2, lim⟩, rfl, rfl⟩⟩
  · decide
  · decide
theorem outer_sole : soleLoop Try.prog 7 60 = true := by kernel_rfl
def altsOut : LAlts := [(True, .ret, [(6, .bool false true)], [])]
def outL (n : Int) (t : ByteArray) (ds : Nat × List (List AV)) : Nat → Mem
  | 0 => outA n t ds
  | p + 1 => outB n t ds (p + 1)
theorem outL_pos {n : Int} {t : ByteArray} {ds : Nat × List (List AV)} {p : Nat} (h : 0 < p) : outL n t ds p = outB n t ds p := by
  cases p with
  | zero => omega
  | succ p => rfl
theorem outer_ok {n : Int} {t : ByteArray} {ds : Nat × List (List AV)} {dn : Nat} (hn : 1 ≤ n ∧ n ≤ 64) (ht : 0 < t.size ∧ t.size ≤ 300) (hd : dropsOk ds dn) :
    ∀ q : Int × Nat, (0 ≤ q.1 ∧ q.1 ≤ 20 ∧ q.2 ≤ t.size) → LoopX Try.prog [] (loopN Try.prog 7) (loopAt Try.prog 7 60) (outR dn t q.1) (outL n t ds q.2) altsOut := by
  refine loopX_rule (fun q : Int × Nat => outR dn t q.1) (fun q => outL n t ds q.2) (fun q => 0 ≤ q.1 ∧ q.1 ≤ 20 ∧ q.2 ≤ t.size) (fun q => (20 - q.1).toNat) (fun _ => altsOut) ?_
  rintro ⟨j, p⟩ ⟨hj, hj2, hp⟩
  simp only at hj hj2 hp ⊢
  have key : (∃ q e R L, (q, e, R, L) ∈ altsR n t ds dn j p ∧ q ∧ CodeR Try.prog [] (loopN Try.prog 7) (loopAt Try.prog 7 60) (outR dn t j) (outL n t ds p) e R L) := by
    cases p with
    | zero => exact round_alts (fs := []) call6_ok loops6_ok mix (Nat.zero_le _) outer_sole (oA_ok hn ht ⟨hj, hj2⟩ hd)
    | succ p => exact round_alts (fs := []) call6_ok loops6_ok mix (Nat.zero_le _) outer_sole (oB_ok hn ht ⟨hj, hj2⟩ hd ⟨by omega, hp⟩)
  obtain ⟨q, e, R, L, hmem, hq, hc⟩ := key
  unfold altsR at hmem
  simp only [List.mem_cons, List.not_mem_nil, or_false, Prod.mk.injEq] at hmem
  rcases hmem with ⟨rfl, rfl, rfl, rfl⟩ | ⟨rfl, rfl, rfl, rfl⟩ | ⟨rfl, rfl, rfl, rfl⟩
  · exact .inr ⟨True, _, _, _, by simp, hc, by unfold altsOut; simp, trivial⟩
  · exact .inl ⟨(j + 1, 0), ⟨by simp; omega, by simp; omega, by simp⟩, by simp only; omega, hc, fun q e r m hm hq => ⟨q, hm, hq⟩⟩
  · exact .inl ⟨(j + 1, after n t ds j p), ⟨by simp; omega, by simp; omega, hq.2.2⟩, by simp only; omega, by simp only [outL_pos hq.2.1]; exact hc, fun q e r m hm hq => ⟨q, hm, hq⟩⟩
end
end Go.Proofs.Ythhncnifpahgdaa

namespace Go.Proofs.Ythhncnifpahgdaa
open Go Go.XM
noncomputable section
/-! ### OfferDelivers -/
def preOut (n : Int) (t : ByteArray) (ds : Nat × List (List AV)) (dn : Nat) (j : Int) : Prop := (1 ≤ n ∧ n ≤ 64) ∧ (0 < t.size ∧ t.size ≤ 300) ∧ dropsOk ds dn ∧ (0 ≤ j ∧ j ≤ 20)
def sOuter : Loop1 := fun r m k => match get r 2, get r 1, get r 13, get r 8 with
  | some (.sl _ d0 _ dn), some (.str _ t), some (.int _ _ j), some (.ptr s _) => (match chunkOf m s, rowOf m d0 with
    | some n, some ds => useLoop [] (outR dn t j) (outA n t ds) (preOut n t ds dn j) altsOut r m k
    | _, _ => none)
  | _, _, _, _ => none
theorem outerA_ok {n j : Int} {t : ByteArray} {ds : Nat × List (List AV)} {dn : Nat} (h : preOut n t ds dn j) : LoopX Try.prog [] (loopN Try.prog 7) (loopAt Try.prog 7 60) (outR dn t j) (outA n t ds) altsOut :=
  outer_ok h.1 h.2.1 h.2.2.1 (j, 0) ⟨h.2.2.2.1, h.2.2.2.2, Nat.zero_le _⟩
theorem sOuter_ok : Loop1Ok Try.prog 7 60 sOuter := by
  intro r m k Q h hQ
  unfold sOuter at h
  split at h
  · split at h
    · exact useLoop_ok outerA_ok h hQ
    · simp at h
  · simp at h
def loops8 : LoopFn := addLoop 7 60 sOuter noLoops
theorem loops8_ok : LoopsOk Try.prog loops8 := addLoop_ok outer_sole sOuter_ok (noLoops_ok _)
abbrev call8 : CallV := vCall Try.prog specs3 loops8 20
theorem call8_ok : CallVOk Try.prog call8 := vCall_ok specs3_ok loops8_ok mix 20
set_option maxRecDepth 100000 in
theorem law_vc (c : Int) (t : ByteArray) (ds : Nat × List (List AV)) (dn : Nat) : (vBody Try.prog call8 loops8 7 [.int true .u8 c, .str true t, .sl .n 0 0 dn] [drE ds] isTrue) = (
(True ∧
(((True) →
  ((t = t) ∧
  (True ∧
  (((True) →
    ((c = c) ∧
    ((((0 : Int) ≤ c) ∧
     (c ≤ (255 : Int))) ∧
    (((True) →
      (((↑(ByteArray.size (cut300 t)) : Int) = (↑(ByteArray.size (cut300 t)) : Int)) ∧
      ((((0 : Int) ≤ (↑(ByteArray.size (cut300 t)) : Int)) ∧
       ((↑(ByteArray.size (cut300 t)) : Int) ≤ (65536 : Int))) ∧
      (((True) →
        ((cut300 t = cut300 t) ∧
        ((nOf c = nOf c) ∧
        ((ByteArray.size (cut300 t) ≤ (300 : Nat)) ∧
        (((strEq (cut300 t) (ByteArray.mk #[]) = true) →
          (((0 : Int) == (0 : Int)) = true)) ∧
        (((hasCR (cut300 t) = true) →
          (((0 : Int) == (0 : Int)) = true)) ∧
        (((hasCR (cut300 t) = false ∧ strEq (cut300 t) (ByteArray.mk #[]) = false) →
          ((((0 : Nat) = (0 : Nat)) ∧
           (dn = dn)) ∧
          ((cut300 t = cut300 t) ∧
          (((0 : Int) = (0 : Int)) ∧
          ((Prod.fst ds = Prod.fst (Prod.fst ds, Prod.snd ds)) ∧
          ((Prod.snd ds = Prod.snd (Prod.fst ds, Prod.snd ds)) ∧
          ((nOf c = nOf c) ∧
          ((cut300 t = cut300 t) ∧
          (((↑(ByteArray.size (cut300 t)) : Int) = (↑(ByteArray.size (cut300 t)) : Int)) ∧
          (((((1 : Int) ≤ nOf c) ∧
            (nOf c ≤ (64 : Int))) ∧
           ((((0 : Nat) < ByteArray.size (cut300 t)) ∧
            (ByteArray.size (cut300 t) ≤ (300 : Nat))) ∧
           (((dn ≤ List.length (Prod.snd (Prod.fst ds, Prod.snd ds))) ∧
            (∀ (i : Nat),
             ((i < List.length (Prod.snd (Prod.fst ds, Prod.snd ds))) →
             (((0 : Int) ≤ intOf (nthA (nthE (Prod.snd (Prod.fst ds, Prod.snd ds)) i) (0 : Nat))) ∧
             (intOf (nthA (nthE (Prod.snd (Prod.fst ds, Prod.snd ds)) i) (0 : Nat)) ≤ (255 : Int)))))) ∧
           (((0 : Int) ≤ (0 : Int)) ∧
           ((0 : Int) ≤ (20 : Int)))))) ∧
          (((True) →
            (true = true)) ∧
          True))))))))))) ∧
        True))))))) ∧
      True)))) ∧
    True)))) ∧
  True)))) ∧
True))) := by kernel_rfl
end
end Go.Proofs.Ythhncnifpahgdaa

