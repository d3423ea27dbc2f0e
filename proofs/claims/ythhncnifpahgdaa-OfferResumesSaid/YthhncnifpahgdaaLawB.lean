/-
  A part of the proofs of this seat's laws; the conditions stand in each statement.
-/
import Derived.Test.YthhncnifpahgdaaLawA
import Derived.Test.YthhncnifpahgdaaXmD
namespace Go.Proofs.Ythhncnifpahgdaa
open Go Go.XM

def idc (x : Nat → Int) : List AV := (List.range 32).map fun i => .int true .u8 (x i)
noncomputable def zc (t : TypeId) : List AV := match zeroT Try.prog t with | some v => v.cells | none => []
/-- a fresh sender's cells, the reference's, the implementation's -/
noncomputable def refS (c : Int) : List AV := .int true .i64 c :: (zc 32).drop 1
noncomputable def impS (c : Int) : List AV := .int true .i64 c :: (zc 86).drop 1

noncomputable abbrev callT : CallFn := xcall Try.prog leaf1 (CallsA Try.prog) (LoopA Try.prog) 20
theorem callT_ok : CallOk Try.prog callT := xcall_spec leaf1_ok mix 20

noncomputable def mem0 (x : Nat → Int) (u : ByteArray) (c : Int) : Mem := [.cells (idc x), .cells (impS c), .cells (refS c), .cells (refS c), .cells (refS c), .cells (idc x ++ [.str true u]), .cells (zc 32)]
def inv0 (i : Nat) : Regs := [(6, .int true .i64 (i : Int)), (2, .ptr 4 0), (3, .ptr 5 0), (4, .ptr 6 0)]

noncomputable abbrev runL (x : Nat → Int) (u : ByteArray) (c : Int) (i : Nat) (st : List Ch) : Res COut := xcode Try.prog callT (LoopA Try.prog) 83 50 (loopAt Try.prog 11 0) (inv0 i) (mem0 x u c) st

theorem l0_step (x : Nat → Int) (u : ByteArray) (c : Int) (i : Nat) : (codeOf [6, 2, 3, 4] (runL x u c i [.t, .f]), leftsC (runL x u c i [.t, .f])) =
    (some (.normal, inv0 (i + 1), mem0 x u c, [decide ((i : Int) < (u.size : Int)) = true, 0 ≤ (i : Int) ∧ (i : Int) < (u.size : Int), (strAt u i == 13) = false, rng .i64 ((i : Int) + 1)]), rightsC (runL x u c i [.t, .f])) := by kernel_rfl
theorem l0_end (x : Nat → Int) (u : ByteArray) (c : Int) (i : Nat) : (codeOf [2, 3, 4] (runL x u c i [.f]), leftsC (runL x u c i [.f])) =
    (some (.exit 0, [(2, .ptr 4 0), (3, .ptr 5 0), (4, .ptr 6 0)], mem0 x u c, [decide ((i : Int) < (u.size : Int)) = false]), rightsC (runL x u c i [.f])) := by kernel_rfl
noncomputable def mem1 (x : Nat → Int) (u : ByteArray) (c : Int) : Mem := [.cells (idc x), .cells (impS c), .cells (refS c), .cells (refS c), .cells (refS c), .cells (idc x ++ [.str true u]), .cells (refS c)]
theorem l0_hit (x : Nat → Int) (u : ByteArray) (c : Int) (i : Nat) : (codeOf [4, 5] (runL x u c i [.t, .t]), leftsC (runL x u c i [.t, .t])) =
    (some (.ret, [(4, .ptr 6 0), (5, .int true .i64 6)], mem1 x u c, [decide ((i : Int) < (u.size : Int)) = true, 0 ≤ (i : Int) ∧ (i : Int) < (u.size : Int), (strAt u i == 13) = true]), rightsC (runL x u c i [.t, .t])) := by kernel_rfl

theorem strAt_nat (u : ByteArray) (i : Nat) : strAt u (i : Int) = ((u.data.toList.getD i 0).toNat : Int) := rfl

theorem u_size (u : ByteArray) : u.data.toList.length = u.size := rfl
theorem getD_lt {l : List UInt8} {i : Nat} (h : i < l.length) : l.getD i 0 = l[i] := by simp [List.getD, List.getElem?_eq_getElem h]
theorem lt_dec {i n : Nat} (h : i < n) : decide ((i : Int) < (n : Int)) = true := decide_eq_true (by omega)
theorem not_lt_dec (n : Nat) : decide ((n : Int) < (n : Int)) = false := decide_eq_false (by omega)
theorem rng_succ {i : Nat} (h : i < 70000) : rng .i64 ((i : Int) + 1) := by
  unfold rng
  simp only [IntKind.wrap, IntKind.signed, IntKind.bits]
  simp
  omega
theorem at_ne {u : ByteArray} {i : Nat} (h : u.data.toList.getD i 0 ≠ 13) : (strAt u i == 13) = false := by
  rw [beq_eq_false_iff_ne]
  intro e
  have e : ((u.data.toList.getD i 0).toNat : Int) = 13 := e
  exact h (UInt8.toNat_inj.1 (by have : (u.data.toList.getD i 0).toNat = 13 := by omega
                                 exact this))
theorem at_eq {u : ByteArray} {i : Nat} (h : u.data.toList.getD i 0 = 13) : (strAt u i == 13) = true := by
  have : strAt u i = 13 := by
    show ((u.data.toList.getD i 0).toNat : Int) = 13
    rw [h]; rfl
  rw [this]; rfl

theorem l0_not (x : Nat → Int) (u : ByteArray) (c : Int) (hs : u.size ≤ 70000) (h : (13 : UInt8) ∉ u.data.toList) :
    LoopA Try.prog 83 (loopAt Try.prog 11 0) (inv0 0) (mem0 x u c) (.exit 0) [(2, .ptr 4 0), (3, .ptr 5 0), (4, .ptr 6 0)] (mem0 x u c) := by
  refine LoopA.rounds u.size inv0 (fun _ => mem0 x u c) (LoopA.last (codeA_run callT_ok mix (l0_end x u c u.size) ⟨not_lt_dec _, trivial⟩) (by simp)) (fun i hi => codeA_run callT_ok mix (l0_step x u c i) ⟨lt_dec hi, ⟨by omega, by omega⟩, at_ne fun e => h ?_, rng_succ (by omega), trivial⟩)
  have hl : i < u.data.toList.length := hi
  rw [getD_lt hl] at e
  rw [← e]; exact List.getElem_mem hl

theorem first_hit {p : UInt8} : ∀ {l : List UInt8}, p ∈ l → ∃ n, n < l.length ∧ l.getD n 0 = p ∧ ∀ i, i < n → l.getD i 0 ≠ p
  | a :: l, h => by
    by_cases ha : a = p
    · exact ⟨0, by simp, by simpa using ha, fun i hi => by omega⟩
    · have hl : p ∈ l := (List.mem_cons.1 h).resolve_left fun e => ha e.symm
      obtain ⟨n, h1, h2, h3⟩ := first_hit hl
      refine ⟨n + 1, by simpa using h1, by simpa using h2, fun i hi => ?_⟩
      cases i with
      | zero => simpa using ha
      | succ i => simpa using h3 i (by omega)

theorem l0_has (x : Nat → Int) (u : ByteArray) (c : Int) (hs : u.size ≤ 70000) (h : (13 : UInt8) ∈ u.data.toList) :
    LoopA Try.prog 83 (loopAt Try.prog 11 0) (inv0 0) (mem0 x u c) .ret [(4, .ptr 6 0), (5, .int true .i64 6)] (mem1 x u c) := by
  obtain ⟨n, hn, h1, h2⟩ := first_hit h
  rw [u_size] at hn
  exact LoopA.rounds n inv0 (fun _ => mem0 x u c) (LoopA.last (codeA_run callT_ok mix (l0_hit x u c n) ⟨lt_dec hn, ⟨by omega, by omega⟩, at_eq h1, trivial⟩) (by simp)) (fun i hi => codeA_run callT_ok mix (l0_step x u c i) ⟨lt_dec (by omega), ⟨by omega, by omega⟩, at_ne (h2 i hi), rng_succ (by omega), trivial⟩)
end Go.Proofs.Ythhncnifpahgdaa

