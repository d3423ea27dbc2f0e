/-
  A part of the proofs of this seat's laws; the conditions stand in each statement.
-/
import Derived.Test.YthhncnifpahgdaaLawA
import Derived.Test.YthhncnifpahgdaaXmD
namespace Go.Proofs.Ythhncnifpahgdaa
open Go Go.XM

/-- a text cut to k bytes. -/
def upTo (k : Int) (s : ByteArray) : Int := bif decide (k < (s.size : Int)) then k else (s.size : Int)
def upToOk (k : Int) (s : ByteArray) : Prop := 0 ≤ (0 : Int) ∧ 0 ≤ upTo k s ∧ upTo k s ≤ (s.size : Int)
theorem upTo_ok {k : Int} (hk : 0 ≤ k) (s : ByteArray) : upToOk k s := by
  unfold upToOk upTo
  by_cases h : k < (s.size : Int)
  · simp [h]; omega
  · simp [h]
def cut300 (s : ByteArray) : ByteArray := s.extract (Int.toNat 0) (upTo 300 s).toNat
theorem cut300_size (s : ByteArray) : (cut300 s).size ≤ 300 := by
  unfold cut300 upTo
  rw [ByteArray.size_extract]
  by_cases h : (300 : Int) < (s.size : Int)
  · simp [h]; omega
  · simp [h]; omega

theorem cut_run (s : ByteArray) : (ansOf (xcall Try.prog leaf1 (CallsA Try.prog) (LoopA Try.prog) 5 13 [.str true s] [] []), leftsOf (xcall Try.prog leaf1 (CallsA Try.prog) (LoopA Try.prog) 5 13 [.str true s] [] [])) = (some (.str true (cut300 s), [upToOk 300 s]), rightsOf (xcall Try.prog leaf1 (CallsA Try.prog) (LoopA Try.prog) 5 13 [.str true s] [] [])) := by kernel_rfl
theorem cut_ok (s : ByteArray) (b : Bool) (m : Mem) : CallsA Try.prog 13 [.str b s] m (.str true (cut300 s)) m := by
  obtain ⟨m', h⟩ := calls_ans leaf1_ok mix (cut_run s) ⟨upTo_ok (by omega) s, trivial⟩
  have := h.frame0 rfl rfl m
  exact ⟨this.1, fun H γ w Vs hH hm hV => this.2 H γ w Vs hH hm (by
    obtain ⟨v, t, e, h1, h2⟩ := hV
    exact ⟨v, t, e, h1, h2⟩)⟩

/-- 'known', the search for a byte, the cut to 300 bytes. -/
def leaf2 : LeafFn := fun f args m st => match Nat.beq f 13 with
  | true => (match args with
    | [.str _ s] => some (.str true (cut300 s), m, st, [])
    | _ => none)
  | false => leaf1 f args m st
theorem leaf2_ok : LeafOk Try.prog leaf2 := by
  intro f args m st v m' st' o h ho
  unfold leaf2 at h
  split at h
  · rename_i hf
    have hf := Nat.eq_of_beq_eq_true hf
    subst hf
    split at h
    · simp at h; obtain ⟨rfl, rfl, rfl, rfl⟩ := h
      exact cut_ok _ _ m
    · simp at h
  · exact leaf1_ok f args m st v m' st' o h ho

noncomputable abbrev call2 : CallFn := xcall Try.prog leaf2 (CallsA Try.prog) (LoopA Try.prog) 20
theorem call2_ok : CallOk Try.prog call2 := xcall_spec leaf2_ok mix 20

/-! ### The loop of OfferResumes -/
def id7 : List AV := .int false .u8 7 :: rep (.int false .u8 0) 31
noncomputable def zc2 (t : TypeId) : List AV := match zeroT Try.prog t with | some v => v.cells | none => []
/-- the sender, the reference's state, the transfer. -/
def sndE (n : Int) (u : ByteArray) : Ent := .cells ([.int true .i64 n, .sl false 12 0 0, .int false .i64 2] ++ id7 ++ [.str true u, .ptr 24 0, .nils])
def trfE (n : Int) (u : ByteArray) (p : Int) : Ent := .cells (id7 ++ [.str true u, .int true .i64 n, .int true .i64 p, .bool false false])
noncomputable def refE (n : Int) : Ent := .cells (.int true .i64 n :: (zc2 32).drop 1)
noncomputable def lmem (n : Int) (u : ByteArray) (p : Int) : Mem := [.cells id7, .dead, sndE n u, .dead, .dead, refE n] ++ rep .dead 18 ++ [trfE n u p]
def lregs (u : ByteArray) (at0 : Int) (got : ByteArray) (i : Nat) : Regs := [(1, .str true u), (7, .ptr 0 0), (8, .ptr 2 0), (9, .ptr 5 0), (10, .int true .i64 at0), (11, .int true .i64 0), (12, .str true got), (13, .int true .i64 (i : Int))]
end Go.Proofs.Ythhncnifpahgdaa

