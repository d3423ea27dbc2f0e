/-
  A part of the proofs of this seat's laws; the conditions stand in each statement.
-/
import Derived.Test.YthhncnifpahgdaaLawE
import Derived.Test.YthhncnifpahgdaaLawC
namespace Go.Proofs.Ythhncnifpahgdaa.resumes
open Go Go.XM

theorem rng_of {e : Int} (h1 : -9223372036854775808 ≤ e) (h2 : e ≤ 9223372036854775807) : rng .i64 e := by
  unfold rng
  simp only [IntKind.wrap, IntKind.signed, IntKind.bits]
  simp
  omega

theorem ne_beq {a b : Int} (h : a ≠ b) : (a == b) = false := by rw [beq_eq_false_iff_ne]; exact h
theorem eq_bne {a b : Int} (h : a = b) : (a != b) = false := by subst h; simp

theorem strEq_refl (s : ByteArray) : strEq s s = true := by unfold strEq; simp

theorem loopR {n : Int} {u : ByteArray} {a0 : Int} (hn : 1 ≤ n ∧ n ≤ 64) (hu : u.size ≤ 300) (ha : 0 ≤ a0 ∧ a0 ≤ (u.size : Int)) : ∀ (d i : Nat) (p : Int), (u.size : Int) - p ≤ (d : Int) → a0 ≤ p → p ≤ (u.size : Int) → i + d ≤ 399 →
    LoopA Try.prog 149 (loopAt Try.prog 4 0) (lregs u a0 (u.extract a0.toNat p.toNat) i) (lmem n u p) .ret [(6, .bool true true)] (lmemD n u (u.size : Int)) := by
  intro d
  induction d with
  | zero =>
    intro i p h1 h2 h3 h4
    have hp : p = (u.size : Int) := by omega
    subst hp
    exact LoopA.last (codeA_cut call2_ok mix (r_done n u _ a0 _ i) ⟨decide_eq_true (by omega), by simp, rfl, ⟨ha.1, ha.2, by omega⟩, strEq_refl _, trivial⟩ (r_below n u _ a0 _ i) (by rw [r_len]; omega)) (by simp)
  | succ d ih =>
    intro i p h1 h2 h3 h4
    by_cases hp : p = (u.size : Int)
    · subst hp
      exact LoopA.last (codeA_cut call2_ok mix (r_done n u _ a0 _ i) ⟨decide_eq_true (by omega), by simp, rfl, ⟨ha.1, ha.2, by omega⟩, strEq_refl _, trivial⟩ (r_below n u _ a0 _ i) (by rw [r_len]; omega)) (by simp)
    · have hx : nxt n u p = if p + n < (u.size : Int) then p + n else (u.size : Int) := by
        unfold nxt
        by_cases h : p + n < (u.size : Int)
        · simp [h]
        · simp [h]
      have hlt : p < nxt n u p ∧ nxt n u p ≤ (u.size : Int) ∧ (nxt n u p = p + n ∨ (nxt n u p = (u.size : Int) ∧ (u.size : Int) ≤ p + n)) := by
        rw [hx]; split <;> omega
      have hgs : ((u.extract a0.toNat p.toNat).size : Int) = p - a0 := by rw [ByteArray.size_extract]; omega
      have hps : ((part n u p).size : Int) = nxt n u p - p := by unfold part; rw [ByteArray.size_extract]; omega
      have hg : u.extract a0.toNat p.toNat ++ part n u p = u.extract a0.toNat (nxt n u p).toNat := by
        unfold part
        rw [ByteArray.extract_append_extract, Nat.min_eq_left (by omega), Nat.max_eq_right (by omega)]
      have hrest := ih (i + 1) (nxt n u p) (by omega) (by omega) hlt.2.1 (by omega)
      rw [← hg] at hrest
      have f1 : fI i true := decide_eq_true (by omega)
      have f2 : (p == (u.size : Int)) = false := ne_beq hp
      have f3 : rng .i64 (p + n) := rng_of (by omega) (by omega)
      have f4 : fPart n u p := ⟨by omega, by omega, hlt.2.1⟩
      have f5 : rng .i64 (a0 + ((u.extract a0.toNat p.toNat).size : Int)) := rng_of (by omega) (by omega)
      have f6 : (p != a0 + ((u.extract a0.toNat p.toNat).size : Int)) = false := eq_bne (by omega)
      have f7 : decide (((part n u p).size : Int) > n) = false := decide_eq_false (by omega)
      have f9 : fGrow n u p (u.extract a0.toNat p.toNat) := by unfold fGrow; omega
      have f10 : rng .i64 ((i : Int) + 1) := rng_of (by omega) (by omega)
      by_cases hs : ((part n u p).size : Int) < n
      · have f8 : decide (((part n u p).size : Int) < n) = true := decide_eq_true hs
        have f11 : rng .i64 (p + ((part n u p).size : Int)) := rng_of (by omega) (by omega)
        have f12 : (p + ((part n u p).size : Int) != (u.size : Int)) = false := eq_bne (by omega)
        exact LoopA.more (codeA_cut call2_ok mix (r_short n u p a0 _ i) ⟨f1, f2, f3, f4, f5, f6, f7, f8, f11, f12, f9, f10, trivial⟩ (r_below n u p a0 _ i) (by rw [r_len]; omega)) hrest
      · have f8 : decide (((part n u p).size : Int) < n) = false := decide_eq_false hs
        exact LoopA.more (codeA_cut call2_ok mix (r_full n u p a0 _ i) ⟨f1, f2, f3, f4, f5, f6, f7, f8, f9, f10, trivial⟩ (r_below n u p a0 _ i) (by rw [r_len]; omega)) hrest

/-! ### The way to the loop -/
section
variable (c : Int) (s : ByteArray) (fr : Int)
noncomputable abbrev runP (st : List Ch) : Res Out := xcall Try.prog leaf2 (CallsA Try.prog) (LoopA Try.prog) 20 4 [.int true .u8 c, .str true s, .int true .u16 fr] [] st
def nOf : Int := 1 + c.tmod 64
def atOf : Int := fr.tmod (((cut300 s).size : Int) + 2)
def gHas (b : Bool) : Prop := decide (Lib.indexByte (cut300 s).data.toList 13 ≥ 0) = b
abbrev pre6 : List Prop := [rng .i64 c, rng .i64 (nOf c), decide (nOf c < 1) = false, decide (nOf c > 4096) = false, decide (nOf c < 1) = false, decide (nOf c > 4096) = false]
abbrev pre12 : List Prop := pre6 c ++ [strEq (cut300 s) ⟨#[]⟩ = false, decide (((cut300 s).size : Int) > 65536) = false, gHas s false, rng .i64 fr, rng .i64 (((cut300 s).size : Int) + 2), ((cut300 s).size : Int) + 2 ≠ 0, decide (atOf s fr ≥ 0) = true, decide (atOf s fr ≤ 65536) = true]

theorem p1 : (ansOf (runP c s fr [.f, .f, .f, .f, .t]), leftsOf (runP c s fr [.f, .f, .f, .f, .t])) = (some (.bool false true, pre6 c ++ [strEq (cut300 s) ⟨#[]⟩ = true]), rightsOf (runP c s fr [.f, .f, .f, .f, .t])) := by kernel_rfl
theorem p2 : (ansOf (runP c s fr [.f, .f, .f, .f, .f, .f, .t]), leftsOf (runP c s fr [.f, .f, .f, .f, .f, .f, .t])) = (some (.bool false true, pre6 c ++ [strEq (cut300 s) ⟨#[]⟩ = false, decide (((cut300 s).size : Int) > 65536) = false, gHas s true]), rightsOf (runP c s fr [.f, .f, .f, .f, .f, .f, .t])) := by kernel_rfl
abbrev stP3 : List Ch := [.f, .f, .f, .f, .f, .f, .f, .t, .t, .t, .t]
theorem p3 : (ansOf (runP c s fr stP3), leftsOf (runP c s fr stP3)) = (some (.bool false true, pre12 c s fr ++ [decide (atOf s fr > ((cut300 s).size : Int)) = true, decide (atOf s fr > ((cut300 s).size : Int)) = true]), rightsOf (runP c s fr stP3)) := by kernel_rfl
abbrev stK : List Ch := [.f, .f, .f, .f, .f, .f, .f, .t, .t, .f, .f, .f, .f, .f, .f, .f, .keep]
noncomputable def regsP : Regs := regsS (runP c s fr stK)
noncomputable def memP : Mem := memS (runP c s fr stK)
theorem regsP_pick : pickR [1, 7, 8, 9, 10, 11, 12, 13] (regsP c s fr) = lregs (cut300 s) (atOf s fr) ⟨#[]⟩ 0 := by kernel_rfl
theorem memP_keep : keepM [0, 2, 5, 24] 0 (memP c s fr) = lmem (nOf c) (cut300 s) (atOf s fr) := by kernel_rfl
noncomputable abbrev stP4 : List Ch := [.f, .f, .f, .f, .f, .f, .f, .t, .t, .f, .f, .f, .f, .f, .f, .f, .loop .ret [(6, .bool true true)] (lmemD (nOf c) (cut300 s) ((cut300 s).size : Int))]
theorem p4 : (ansOf (runP c s fr (stP4 c s)), leftsOf (runP c s fr (stP4 c s))) = (some (.bool true true, pre12 c s fr ++ [decide (atOf s fr > ((cut300 s).size : Int)) = false, decide (((cut300 s).size : Int) > 65536) = false, decide (nOf c < 1) = false, decide (nOf c > 4096) = false, decide (atOf s fr < 0) = false, decide (atOf s fr > ((cut300 s).size : Int)) = false, decide (atOf s fr > ((cut300 s).size : Int)) = false,
    LoopA Try.prog 149 (loopAt Try.prog 4 0) (regsP c s fr) (memP c s fr) .ret [(6, .bool true true)] (lmemD (nOf c) (cut300 s) ((cut300 s).size : Int))]), rightsOf (runP c s fr (stP4 c s))) := by kernel_rfl
end

theorem resumes_calls {c fr : Int} {s : ByteArray} (hc : 0 ≤ c ∧ c ≤ 255) (hf : 0 ≤ fr ∧ fr ≤ 65535) : ∃ m' b, CallsA Try.prog 4 [.int true .u8 c, .str true s, .int true .u16 fr] [] (.bool b true) m' := by
  have hn : 1 ≤ nOf c ∧ nOf c ≤ 64 := by
    unfold nOf
    rw [Int.tmod_eq_emod_of_nonneg hc.1]
    omega
  have hu := cut300_size s
  have ha : 0 ≤ atOf s fr ∧ atOf s fr < ((cut300 s).size : Int) + 2 := by
    unfold atOf
    rw [Int.tmod_eq_emod_of_nonneg hf.1]
    exact ⟨Int.emod_nonneg _ (by omega), Int.emod_lt_of_pos _ (by omega)⟩
  have g1 : rng .i64 c := rng_of (by omega) (by omega)
  have g2 : rng .i64 (nOf c) := rng_of (by omega) (by omega)
  have g3 : decide (nOf c < 1) = false := decide_eq_false (by omega)
  have g4 : decide (nOf c > 4096) = false := decide_eq_false (by omega)
  cases hE : strEq (cut300 s) ⟨#[]⟩ with
  | true =>
    obtain ⟨m', h⟩ := calls_ans leaf2_ok mix (p1 c s fr) ⟨g1, g2, g3, g4, g3, g4, hE, trivial⟩
    exact ⟨m', false, h⟩
  | false =>
    have g5 : decide (((cut300 s).size : Int) > 65536) = false := decide_eq_false (by omega)
    by_cases h6 : (13 : UInt8) ∈ (cut300 s).data.toList
    · have g6 : gHas s true := decide_eq_true ((index_mem 13 _).2 h6)
      obtain ⟨m', h⟩ := calls_ans leaf2_ok mix (p2 c s fr) ⟨g1, g2, g3, g4, g3, g4, hE, g5, g6, trivial⟩
      exact ⟨m', false, h⟩
    · have g6 : gHas s false := decide_eq_false fun h => h6 ((index_mem 13 _).1 h)
      have g7 : rng .i64 fr := rng_of (by omega) (by omega)
      have g8 : rng .i64 (((cut300 s).size : Int) + 2) := rng_of (by omega) (by omega)
      have g9 : ((cut300 s).size : Int) + 2 ≠ 0 := by omega
      have g10 : decide (atOf s fr ≥ 0) = true := decide_eq_true ha.1
      have g11 : decide (atOf s fr ≤ 65536) = true := decide_eq_true (by omega)
      by_cases h7 : atOf s fr > ((cut300 s).size : Int)
      · have g12 : decide (atOf s fr > ((cut300 s).size : Int)) = true := decide_eq_true h7
        obtain ⟨m', h⟩ := calls_ans leaf2_ok mix (p3 c s fr) ⟨g1, g2, g3, g4, g3, g4, hE, g5, g6, g7, g8, g9, g10, g11, g12, g12, trivial⟩
        exact ⟨m', false, h⟩
      · have g12 : decide (atOf s fr > ((cut300 s).size : Int)) = false := decide_eq_false h7
        have g13 : decide (atOf s fr < 0) = false := decide_eq_false (by omega)
        have hl := loopR hn hu (a0 := atOf s fr) ⟨ha.1, by omega⟩ 300 0 (atOf s fr) (by omega) (by omega) (by omega) (by omega)
        have he : (cut300 s).extract (atOf s fr).toNat (atOf s fr).toNat = ⟨#[]⟩ := by
          rw [ByteArray.extract_eq_empty_iff.2 (by omega)]; rfl
        rw [he, ← regsP_pick, ← memP_keep c s fr] at hl
        obtain ⟨m', h⟩ := calls_ans leaf2_ok mix (p4 c s fr) ⟨g1, g2, g3, g4, g3, g4, hE, g5, g6, g7, g8, g9, g10, g11, g12, g5, g3, g4, g13, g12, g12, LoopA.keep [0, 2, 5, 24] (LoopA.pick [1, 7, 8, 9, 10, 11, 12, 13] hl), trivial⟩
        exact ⟨m', true, h⟩
end Go.Proofs.Ythhncnifpahgdaa.resumes

