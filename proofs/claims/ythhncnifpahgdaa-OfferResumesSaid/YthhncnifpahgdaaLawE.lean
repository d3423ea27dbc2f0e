/-
  A part of the proofs of this seat's laws; the conditions stand in each statement.
-/
import Derived.Test.YthhncnifpahgdaaLawD
namespace Go.Proofs.Ythhncnifpahgdaa.resumes
open Go Go.XM

def nxt (n : Int) (u : ByteArray) (p : Int) : Int := bif decide (p + n < (u.size : Int)) then p + n else (u.size : Int)
def part (n : Int) (u : ByteArray) (p : Int) : ByteArray := u.extract p.toNat (nxt n u p).toNat

section
variable (n : Int) (u : ByteArray) (p a0 : Int) (g : ByteArray) (i : Nat)
noncomputable abbrev runR (st : List Ch) : Res COut := xcode Try.prog call2 (LoopA Try.prog) 149 50 (loopAt Try.prog 4 0) (lregs u a0 g i) (lmem n u p) st
def fI (b : Bool) : Prop := decide ((i : Int) < 400) = b
def fPart : Prop := 0 ≤ p ∧ p ≤ nxt n u p ∧ nxt n u p ≤ (u.size : Int)
def fGrow : Prop := ((g.size + (part n u p).size : Nat) : Int) ≤ 9223372036854775807

theorem r_full : (codeCut [1, 7, 8, 9, 10, 11, 12, 13] 25 (runR n u p a0 g i [.t, .f, .f, .f, .f]), leftsC (runR n u p a0 g i [.t, .f, .f, .f, .f])) =
    (some (.normal, lregs u a0 (g ++ part n u p) (i + 1), lmem n u (nxt n u p), true, [fI i true, (p == (u.size : Int)) = false, rng .i64 (p + n), fPart n u p, rng .i64 (a0 + (g.size : Int)), (p != a0 + (g.size : Int)) = false,
      decide (((part n u p).size : Int) > n) = false, decide (((part n u p).size : Int) < n) = false, fGrow n u p g, rng .i64 ((i : Int) + 1)]), rightsC (runR n u p a0 g i [.t, .f, .f, .f, .f])) := by kernel_rfl

theorem r_short : (codeCut [1, 7, 8, 9, 10, 11, 12, 13] 25 (runR n u p a0 g i [.t, .f, .f, .f, .t, .f]), leftsC (runR n u p a0 g i [.t, .f, .f, .f, .t, .f])) =
    (some (.normal, lregs u a0 (g ++ part n u p) (i + 1), lmem n u (nxt n u p), true, [fI i true, (p == (u.size : Int)) = false, rng .i64 (p + n), fPart n u p, rng .i64 (a0 + (g.size : Int)), (p != a0 + (g.size : Int)) = false,
      decide (((part n u p).size : Int) > n) = false, decide (((part n u p).size : Int) < n) = true, rng .i64 (p + ((part n u p).size : Int)), (p + ((part n u p).size : Int) != (u.size : Int)) = false, fGrow n u p g, rng .i64 ((i : Int) + 1)]), rightsC (runR n u p a0 g i [.t, .f, .f, .f, .t, .f])) := by kernel_rfl

def sndE3 (n : Int) (u : ByteArray) : Ent := .cells ([.int true .i64 n, .sl false 12 0 0, .int false .i64 3] ++ id7 ++ [.str true u, .ptr 24 0, .nils])
def trfD (n : Int) (u : ByteArray) (p : Int) : Ent := .cells (id7 ++ [.str true u, .int true .i64 n, .int true .i64 p, .bool false true])
noncomputable def lmemD (n : Int) (u : ByteArray) (p : Int) : Mem := [.cells id7, .dead, sndE3 n u, .dead, .dead, refE n] ++ rep .dead 18 ++ [trfD n u p]

theorem r_done : (codeCut [6] 25 (runR n u p a0 g i [.t, .t, .t, .t]), leftsC (runR n u p a0 g i [.t, .t, .t, .t])) =
    (some (.ret, [(6, .bool true true)], lmemD n u p, true, [fI i true, (p == (u.size : Int)) = true, ((0 : Int) == 0) = true, 0 ≤ a0 ∧ a0 ≤ (u.size : Int) ∧ (u.size : Int) ≤ (u.size : Int), strEq g (u.extract a0.toNat ((u.size : Int)).toNat) = true]), rightsC (runR n u p a0 g i [.t, .t, .t, .t])) := by kernel_rfl
theorem r_below : (belowR (lmem n u p).length (lregs u a0 g i) && belowM (lmem n u p).length (lmem n u p)) = true := by kernel_rfl
theorem r_len : (lmem n u p).length = 25 := by kernel_rfl
end
end Go.Proofs.Ythhncnifpahgdaa.resumes

