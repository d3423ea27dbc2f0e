/-
  A part of the proofs of this seat's laws; the conditions stand in each statement.
-/
import Derived.Test.YthhncnifpahgdaaLawB
namespace Go.Proofs.Ythhncnifpahgdaa
open Go Go.XM

theorem index_mem (p : UInt8) : ∀ (l : List UInt8), 0 ≤ Lib.indexByte l p ↔ p ∈ l
  | [] => by simp [Lib.indexByte]
  | b :: l => by
    have ih := index_mem p l
    have ge := Lib.indexByte_ge l p
    unfold Lib.indexByte
    by_cases hb : b = p
    · subst hb; simp
    · have hb' : (b == p) = false := by simpa using hb
      rw [hb']
      simp only [Bool.false_eq_true, if_false, List.mem_cons]
      constructor
      · intro h
        split at h
        · omega
        · rename_i hne
          have : Lib.indexByte l p ≠ -1 := by simpa using hne
          exact .inr (ih.1 (by omega))
      · rintro (rfl | h)
        · exact absurd rfl hb
        · have := ih.2 h
          have hne : (Lib.indexByte l p == -1) = false := by rw [beq_eq_false_iff_ne]; omega
          rw [hne]; simp; omega

/-- the length to which a text is cut, and the text. -/
def cutN (s : ByteArray) : Int := bif decide ((66000 : Int) < (s.size : Int)) then (66000 : Int) else (s.size : Int)
def cutU (s : ByteArray) : ByteArray := s.extract (Int.toNat 0) (cutN s).toNat

theorem cutN_le (s : ByteArray) : 0 ≤ cutN s ∧ cutN s ≤ (s.size : Int) ∧ cutN s ≤ 66000 := by
  unfold cutN
  by_cases h : (66000 : Int) < (s.size : Int)
  · simp [h]; omega
  · simp [h]; omega

theorem cutU_size (s : ByteArray) : (cutU s).size ≤ 70000 := by
  have := cutN_le s
  unfold cutU
  rw [ByteArray.size_extract]
  simp
  omega

section
variable (x : Nat → Int) (s : ByteArray) (c : Int)
def fC1 (b : Bool) : Prop := decide (c < 1) = b
def fC2 (b : Bool) : Prop := decide (c > 4096) = b
def fU : Prop := 0 ≤ (0 : Int) ∧ 0 ≤ cutN s ∧ cutN s ≤ (s.size : Int)
def fI (b : Bool) : Prop := cellsEq (idc x) (rep (.int false .u8 0) 32) = b
def fE (b : Bool) : Prop := strEq (cutU s) ⟨#[]⟩ = b
def fL (b : Bool) : Prop := decide (((cutU s).size : Int) > 65536) = b
def fH (b : Bool) : Prop := decide (Lib.indexByte (cutU s).data.toList 13 ≥ 0) = b

noncomputable abbrev runN (st : List Ch) : Res Out := xcall Try.prog leaf1 (CallsA Try.prog) (LoopA Try.prog) 20 3 [.int true .i64 c, .agg (idc x), .str true s] [] st

theorem n1 : (ansOf (runN x s c [.t, .t]), leftsOf (runN x s c [.t, .t])) = (some (.bool false true, [fC1 c true, fC1 c true]), rightsOf (runN x s c [.t, .t])) := by kernel_rfl
theorem n2 : (ansOf (runN x s c [.f, .t, .f, .t]), leftsOf (runN x s c [.f, .t, .f, .t])) = (some (.bool false true, [fC1 c false, fC2 c true, fC1 c false, fC2 c true]), rightsOf (runN x s c [.f, .t, .f, .t])) := by kernel_rfl

abbrev st3 : List Ch := [.f, .f, .f, .f, .t, .t]
theorem n3 : (ansOf (runN x s c st3), leftsOf (runN x s c st3)) = (some (.bool false true, [fC1 c false, fC2 c false, fC1 c false, fC2 c false, fU s, fI x true, fI x true]), rightsOf (runN x s c st3)) := by kernel_rfl
abbrev st4 : List Ch := [.f, .f, .f, .f, .f, .t, .f, .t]
theorem n4 : (ansOf (runN x s c st4), leftsOf (runN x s c st4)) = (some (.bool false true, [fC1 c false, fC2 c false, fC1 c false, fC2 c false, fU s, fI x false, fE s true, fI x false, fE s true]), rightsOf (runN x s c st4)) := by kernel_rfl
abbrev st5 : List Ch := [.f, .f, .f, .f, .f, .f, .t, .f, .f, .t]
theorem n5 : (ansOf (runN x s c st5), leftsOf (runN x s c st5)) = (some (.bool false true, [fC1 c false, fC2 c false, fC1 c false, fC2 c false, fU s, fI x false, fE s false, fL s true, fI x false, fE s false, fL s true]), rightsOf (runN x s c st5)) := by kernel_rfl

/-- the slots where the reference's loop begins. -/
noncomputable def regsL : Regs := regsS (runN x s c [.f, .f, .f, .f, .f, .f, .f, .keep])
theorem regsL_pick : pickR [6, 2, 3, 4] (regsL x s c) = [(6, .int true .i64 0), (2, .ptr 4 0), (3, .ptr 5 0), (4, .ptr 6 0)] := by kernel_rfl

noncomputable abbrev st6 : List Ch := [.f, .f, .f, .f, .f, .f, .f, .loop .ret [(4, .ptr 6 0), (5, .int true .i64 6)] (mem1 x (cutU s) c), .f, .f, .f, .t, .t]
theorem n6 : (ansOf (runN x s c (st6 x s c)), leftsOf (runN x s c (st6 x s c))) = (some (.bool false true, [fC1 c false, fC2 c false, fC1 c false, fC2 c false, fU s, fI x false, fE s false, fL s false,
    LoopA Try.prog 83 (loopAt Try.prog 11 0) (regsL x s c) (mem0 x (cutU s) c) .ret [(4, .ptr 6 0), (5, .int true .i64 6)] (mem1 x (cutU s) c), fI x false, fE s false, fL s false, fH s true, ((6 : Int) == 6) = true]), rightsOf (runN x s c (st6 x s c))) := by kernel_rfl
noncomputable abbrev st7 : List Ch := [.f, .f, .f, .f, .f, .f, .f, .loop (.exit 0) [(2, .ptr 4 0), (3, .ptr 5 0), (4, .ptr 6 0)] (mem0 x (cutU s) c), .f, .f, .f, .f]
theorem n7 : (ansOf (runN x s c (st7 x s c)), leftsOf (runN x s c (st7 x s c))) = (some (.bool false true, [fC1 c false, fC2 c false, fC1 c false, fC2 c false, fU s, fI x false, fE s false, fL s false,
    LoopA Try.prog 83 (loopAt Try.prog 11 0) (regsL x s c) (mem0 x (cutU s) c) (.exit 0) [(2, .ptr 4 0), (3, .ptr 5 0), (4, .ptr 6 0)] (mem0 x (cutU s) c), fI x false, fE s false, fL s false, fH s false]), rightsOf (runN x s c (st7 x s c))) := by kernel_rfl
end

theorem offerNew_calls (x : Nat → Int) (s : ByteArray) (c : Int) : ∃ m', CallsA Try.prog 3 [.int true .i64 c, .agg (idc x), .str true s] [] (.bool false true) m' := by
  have hU : fU s := by
    have := cutN_le s
    exact ⟨by omega, by omega, by omega⟩
  by_cases h1 : c < 1
  · have f1 : fC1 c true := decide_eq_true h1
    exact calls_ans leaf1_ok mix (n1 x s c) ⟨f1, f1, trivial⟩
  have f1 : fC1 c false := decide_eq_false h1
  by_cases h2 : c > 4096
  · have f2 : fC2 c true := decide_eq_true h2
    exact calls_ans leaf1_ok mix (n2 x s c) ⟨f1, f2, f1, f2, trivial⟩
  have f2 : fC2 c false := decide_eq_false h2
  cases hI : cellsEq (idc x) (rep (.int false .u8 0) 32) with
  | true =>
    have f3 : fI x true := hI
    exact calls_ans leaf1_ok mix (n3 x s c) ⟨f1, f2, f1, f2, hU, f3, f3, trivial⟩
  | false =>
    have f3 : fI x false := hI
    cases hE : strEq (cutU s) ⟨#[]⟩ with
    | true =>
      have f4 : fE s true := hE
      exact calls_ans leaf1_ok mix (n4 x s c) ⟨f1, f2, f1, f2, hU, f3, f4, f3, f4, trivial⟩
    | false =>
      have f4 : fE s false := hE
      by_cases h5 : ((cutU s).size : Int) > 65536
      · have f5 : fL s true := decide_eq_true h5
        exact calls_ans leaf1_ok mix (n5 x s c) ⟨f1, f2, f1, f2, hU, f3, f4, f5, f3, f4, f5, trivial⟩
      have f5 : fL s false := decide_eq_false h5
      by_cases h6 : (13 : UInt8) ∈ (cutU s).data.toList
      · have f6 : fH s true := decide_eq_true ((index_mem 13 _).2 h6)
        refine calls_ans leaf1_ok mix (n6 x s c) ⟨f1, f2, f1, f2, hU, f3, f4, f5, ?_, f3, f4, f5, f6, rfl, trivial⟩
        refine LoopA.pick [6, 2, 3, 4] ?_
        rw [regsL_pick]
        exact l0_has x (cutU s) c (cutU_size s) h6
      · have f6 : fH s false := decide_eq_false fun h => h6 ((index_mem 13 _).1 h)
        refine calls_ans leaf1_ok mix (n7 x s c) ⟨f1, f2, f1, f2, hU, f3, f4, f5, ?_, f3, f4, f5, f6, trivial⟩
        refine LoopA.pick [6, 2, 3, 4] ?_
        rw [regsL_pick]
        exact l0_not x (cutU s) c (cutU_size s) h6
end Go.Proofs.Ythhncnifpahgdaa

