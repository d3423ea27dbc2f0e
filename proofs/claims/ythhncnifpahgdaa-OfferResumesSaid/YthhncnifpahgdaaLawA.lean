/-
  A part of the proofs of this seat's laws; the conditions stand in each statement.
-/
import Derived.Test.YthhncnifpahgdaaXmD
import Derived.Test.YthhncnifpahgdaaRows
import Derived.Lib.Strings
import Derived.Lib.Slices
import Derived.Lib.Walk
import Derived.Lib.Bytealg
namespace Go.Proofs.Ythhncnifpahgdaa
open Go Go.XM

set_option maxHeartbeats 1000000 in
set_option maxRecDepth 100000 in
theorem idxByte (s : ByteArray) (c : Int) (w : World) :
    Calls Try.prog 72 #[.string s, .int .u8 c] w fun e w' => e = .returned (.int .i64 (Lib.indexByte s.data.toList c.toNat.toUInt8)) ∧ w' = w := by
  go_enter Try.func72, Try.ntmps72
  go_wp2
  rw [run_callFunc_extern Try.func77 (by kernel_rfl) (by kernel_rfl) (by kernel_rfl) (e := Extern.BytealgIndexByte.indexByte) (by kernel_rfl), Lib.run_indexByteString]
  simp only [Result.andThen]
  rw [Oper.upon_value]
  go_wp2
  go_ret
  exact ⟨rfl, rfl⟩

def leaf0 : LeafFn := fun f args m st => match Nat.beq f 72 with
  | true => (match args with
    | [.str s b, .int s' .u8 c] => some (.int (s || s') .i64 (Lib.indexByte b.data.toList c.toNat.toUInt8), m, st, [])
    | _ => none)
  | false => none

theorem leaf0_ok : LeafOk Try.prog leaf0 := by
  intro f args m st v m' st' o h _
  unfold leaf0 at h
  split at h
  · rename_i hf
    have hf := Nat.eq_of_beq_eq_true hf
    subst hf
    split at h
    · rename_i s b s' c
      simp at h; obtain ⟨rfl, rfl, rfl, rfl⟩ := h
      refine ⟨Nat.le_refl _, fun H γ w Vs hH hm hV => ?_⟩
      obtain ⟨V1, _, rfl, h1, V2, _, rfl, h2, h3⟩ := hV
      cases h1; cases h2; cases h3
      refine Calls.mono (idxByte b c w) ?_
      rintro e w' ⟨rfl, rfl⟩
      exact ⟨_, γ, rfl, rfl, hm, SF.refl _ _ _⟩
    · simp at h
  · simp at h

theorem mix : Try.prog.follows .mixedOrders = true := by kernel_rfl

theorem known_run : (ansOf (xcall Try.prog leaf0 (CallsA Try.prog) (LoopA Try.prog) 20 10 [] [] []), leftsOf (xcall Try.prog leaf0 (CallsA Try.prog) (LoopA Try.prog) 20 10 [] [] [])) = (some (.bool false true, []), rightsOf (xcall Try.prog leaf0 (CallsA Try.prog) (LoopA Try.prog) 20 10 [] [] [])) := by kernel_rfl

theorem known_ok (m : Mem) : CallsA Try.prog 10 [] m (.bool false true) m := by
  obtain ⟨m', h⟩ := calls_ans leaf0_ok mix known_run trivial
  exact h.frame0 rfl rfl m

/-- 'known' stands, and the search for a byte. -/
def leaf1 : LeafFn := fun f args m st => match Nat.beq f 10 with
  | true => (match args with
    | [] => some (.bool false true, m, st, [])
    | _ => none)
  | false => leaf0 f args m st

theorem leaf1_ok : LeafOk Try.prog leaf1 := by
  intro f args m st v m' st' o h ho
  unfold leaf1 at h
  split at h
  · rename_i hf
    have hf := Nat.eq_of_beq_eq_true hf
    subst hf
    split at h
    · simp at h; obtain ⟨rfl, rfl, rfl, rfl⟩ := h
      exact known_ok m
    · simp at h
  · exact leaf0_ok f args m st v m' st' o h ho
end Go.Proofs.Ythhncnifpahgdaa

