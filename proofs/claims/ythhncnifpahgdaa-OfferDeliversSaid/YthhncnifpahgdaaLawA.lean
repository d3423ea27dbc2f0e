/-
  A part of the proofs of this seat's laws; the conditions stand in each statement.
-/
import Derived.Test.YthhncnifpahgdaaXmE
import Derived.Test.YthhncnifpahgdaaProg
import Derived.Lib.Strings
import Derived.Lib.Slices
import Derived.Lib.Walk
import Derived.Lib.Bytealg
import Derived.Lib.Builder
import Derived.WalkKit
namespace Go.Proofs.Ythhncnifpahgdaa
open Go Go.XM
noncomputable section

/-! ### The library's functions that are not run -/
set_option maxHeartbeats 1000000 in
set_option maxRecDepth 100000 in
theorem idxByte (s : ByteArray) (c : Int) (w : World) :
    Calls Try.prog 72 #[.string s, .int .u8 c] w fun e w' => e = .returned (.int .i64 (Lib.indexByte s.data.toList c.toNat.toUInt8)) ∧ w' = w := by
  go_enter Try.func72, Try.ntmps72
  go_wp2
  rw [run_callFunc_extern Try.func77 (by kernel_rfl) (by kernel_rfl) (by kernel_rfl) (e := Extern.BytealgIndexByte.indexByte) (by kernel_rfl), Lib.run_indexByteString]
  simp only [Result.andThen]
  rw [Oper.upon_value]
  go_wp2
  go_ret
  exact ⟨rfl, rfl⟩

def sIdx : Spec1 := pureSpec fun args => match args with
  | [.str s b, .int s' .u8 c] => some (.int (s || s') .i64 (Lib.indexByte b.data.toList c.toNat.toUInt8), True)
  | _ => none
theorem sIdx_ok : Spec1Ok Try.prog 72 sIdx := by
  refine pureSpec_ok (by kernel_rfl) ?_
  intro args v pre h _ m
  split at h
  · simp only [Option.some.injEq, Prod.mk.injEq] at h
    obtain ⟨rfl, rfl⟩ := h
    refine ⟨Nat.le_refl _, fun H γ w Vs hH hm hV => ?_⟩
    obtain ⟨V1, _, rfl, h1, V2, _, rfl, h2, h3⟩ := hV
    cases h1; cases h2; cases h3
    refine Calls.mono (idxByte _ _ w) ?_
    rintro e w' ⟨rfl, rfl⟩
    exact ⟨_, γ, rfl, rfl, hm, SF.refl _ _ _⟩
  · simp at h

/-- internal/abi.NoEscape: its argument. -/
def sEsc : Spec1 := fun args m k => match args with
  | [x] => some (k x m)
  | _ => none
theorem sEsc_ok : Spec1Ok Try.prog 79 sEsc := by
  intro args m k Q h hQ
  unfold sEsc at h
  split at h
  · rename_i x
    simp only [Option.some.injEq] at h; subst h
    refine ⟨x, m, .inr ⟨by kernel_rfl, Nat.le_refl _, fun H γ w Vs _ hm hV => ?_⟩, hQ⟩
    obtain ⟨V, _, rfl, h1, h2⟩ := hV
    cases h2
    exact ⟨V, γ, w, by rw [run_callFunc_extern Try.func79 (by kernel_rfl) (by kernel_rfl) (by kernel_rfl) (e := Extern.AbiNoEscape.same) (by kernel_rfl), Lib.run_noEscape]; rfl, h1, hm, SF.refl _ _ _⟩
  · simp at h

theorem mix : Try.prog.follows .mixedOrders = true := by kernel_rfl
def specs0 : SpecFn := addSpec 72 sIdx (addSpec 79 sEsc noSpecs)
theorem specs0_ok : SpecsOk Try.prog specs0 := addSpec_ok sIdx_ok (addSpec_ok sEsc_ok noSpecs_ok)
abbrev call0 : CallV := vCall Try.prog specs0 noLoops 20
theorem call0_ok : CallVOk Try.prog call0 := vCall_ok specs0_ok (noLoops_ok _) mix 20
end
end Go.Proofs.Ythhncnifpahgdaa

namespace Go.Proofs.Ythhncnifpahgdaa
open Go Go.XM
noncomputable section
/-! ### known, the cut, begin -/
set_option maxRecDepth 100000 in
theorem known_vc : (vBody Try.prog call0 noLoops 10 [] [] (postX [] [(True, .bool false true, [])])) = (
(True ∧
(True ∧
(True ∧
(True ∧
(True ∧
True)))))) := by kernel_rfl
theorem known_ok : CallX Try.prog [] 10 [] [] [(True, .bool false true, [])] :=
  callX_of call0_ok (noLoops_ok _) mix (Nat.le_refl _) (.of known_vc ⟨trivial, trivial, trivial, trivial, trivial, trivial⟩)
def sKnown : Spec1 := useCall [] [] [] True [(True, .bool false true, [])]
theorem sKnown_ok : Spec1Ok Try.prog 10 sKnown := fun args m k Q h hQ => useCall_ok (by kernel_rfl) (fun _ => known_ok) h hQ

/-- a text cut to 300 bytes. -/
def upTo (k : Int) (s : ByteArray) : Int := bif decide (k < (s.size : Int)) then k else (s.size : Int)
theorem upTo_eq (k : Int) (s : ByteArray) : upTo k s = min k (s.size : Int) := by
  unfold upTo
  by_cases h : k < (s.size : Int)
  · simp [h]; omega
  · simp [h]; omega
def cut300 (s : ByteArray) : ByteArray := s.extract 0 (upTo 300 s).toNat
theorem cut300_size (s : ByteArray) : (cut300 s).size ≤ 300 := by
  unfold cut300
  rw [ByteArray.size_extract, upTo_eq]; omega
set_option maxRecDepth 100000 in
theorem cut_vc (s : ByteArray) : (vBody Try.prog call0 noLoops 13 [.str true s] [] (postX [] [(True, .str true (cut300 s), [])])) = (
((((0 : Int) ≤ (0 : Int)) ∧
 (((0 : Int) ≤ bif decide ((300 : Int) < (↑(ByteArray.size s) : Int)) then (300 : Int) else (↑(ByteArray.size s) : Int)) ∧
 ((bif decide ((300 : Int) < (↑(ByteArray.size s) : Int)) then (300 : Int) else (↑(ByteArray.size s) : Int)) ≤ (↑(ByteArray.size s) : Int)))) ∧
(True ∧
((ByteArray.extract s (Int.toNat (0 : Int)) (Int.toNat (bif decide ((300 : Int) < (↑(ByteArray.size s) : Int)) then (300 : Int) else (↑(ByteArray.size s) : Int))) = cut300 s) ∧
True)))) := by kernel_rfl
theorem cut_ok (s : ByteArray) : CallX Try.prog [] 13 [.str true s] [] [(True, .str true (cut300 s), [])] := by
  refine callX_of call0_ok (noLoops_ok _) mix (Nat.le_refl _) (.of (cut_vc s) ?_)
  have h := upTo_eq 300 s
  refine ⟨⟨by omega, ?_, ?_⟩, trivial, rfl, trivial⟩
  · show 0 ≤ upTo 300 s; omega
  · show upTo 300 s ≤ _; omega
def sCut : Spec1 := fun args m k => match args with
  | [.str b s] => useCall [] [.str true s] [] True [(True, .str true (cut300 s), [])] [.str b s] m k
  | _ => none
theorem sCut_ok : Spec1Ok Try.prog 13 sCut := fun args m k Q h hQ => by
  unfold sCut at h
  split at h
  · exact useCall_ok (by kernel_rfl) (fun _ => cut_ok _) h hQ
  · simp at h
def specs1 : SpecFn := addSpec 10 sKnown (addSpec 13 sCut specs0)
theorem specs1_ok : SpecsOk Try.prog specs1 := addSpec_ok sKnown_ok (addSpec_ok sCut_ok specs0_ok)
abbrev call1 : CallV := vCall Try.prog specs1 noLoops 20
theorem call1_ok : CallVOk Try.prog call1 := vCall_ok specs1_ok (noLoops_ok _) mix 20
end
end Go.Proofs.Ythhncnifpahgdaa

namespace Go.Proofs.Ythhncnifpahgdaa
open Go Go.XM
noncomputable section
/-! ### begin, NewReceiver, Add -/
def nOf (c : Int) : Int := 1 + c.tmod 64
theorem nOf_le {c : Int} (hc : 0 ≤ c) : 1 ≤ nOf c ∧ nOf c ≤ 64 := by
  unfold nOf
  rw [Int.tmod_eq_emod_of_nonneg hc]
  omega
theorem rng_of {e : Int} (h1 : -9223372036854775808 ≤ e) (h2 : e ≤ 9223372036854775807) : rng .i64 e := by
  unfold rng
  simp only [IntKind.wrap, IntKind.signed, IntKind.bits]
  simp
  omega
def es : ByteArray := ⟨#[]⟩
/-- a sender's cells: the chunk, the queue, the state, the article under way, its transfer, the outcomes. -/
def sndC (n : Int) (q : AV) (st : Int) (id : List AV) (tx : AV) (t o : AV) : Ent := .cells 86 ([.int true .i64 n, q, .int false .i64 st] ++ id ++ [tx, t, o])
/-- a reference's state. -/
def refC (n : Int) : List AV := [.int true .i64 n, .int false .i64 0, .int false .i64 0] ++ idz [] ++ [.str false es, .nils, .nils]
def alts14 (c : Int) : Alts := [(True, .tup [.ptr 0 0, .agg (refC (nOf c))], [sndC (nOf c) .nils 0 (idz []) (.str false es) .nilp .nils])]
set_option maxRecDepth 100000 in
theorem begin_vc (c : Int) : (vBody Try.prog call1 noLoops 14 [.int true .u8 c] [] (postX [] (alts14 c))) = (
((rng IntKind.i64 c) ∧
((rng IntKind.i64 ((1 : Int) + Int.tmod c (64 : Int))) ∧
(((decide ((1 : Int) + Int.tmod c (64 : Int) < (1 : Int)) = true) →
  (((decide ((1 : Int) + Int.tmod c (64 : Int) < (1 : Int)) = true) →
    False) ∧
  ((decide ((1 : Int) + Int.tmod c (64 : Int) < (1 : Int)) = false) →
   (((decide ((1 : Int) + Int.tmod c (64 : Int) > (4096 : Int)) = true) →
     False) ∧
   ((decide ((1 : Int) + Int.tmod c (64 : Int) > (4096 : Int)) = false) →
    False))))) ∧
((decide ((1 : Int) + Int.tmod c (64 : Int) < (1 : Int)) = false) →
 (((decide ((1 : Int) + Int.tmod c (64 : Int) > (4096 : Int)) = true) →
   (((decide ((1 : Int) + Int.tmod c (64 : Int) < (1 : Int)) = true) →
     False) ∧
   ((decide ((1 : Int) + Int.tmod c (64 : Int) < (1 : Int)) = false) →
    (((decide ((1 : Int) + Int.tmod c (64 : Int) > (4096 : Int)) = true) →
      False) ∧
    ((decide ((1 : Int) + Int.tmod c (64 : Int) > (4096 : Int)) = false) →
     False))))) ∧
 ((decide ((1 : Int) + Int.tmod c (64 : Int) > (4096 : Int)) = false) →
  (((decide ((1 : Int) + Int.tmod c (64 : Int) < (1 : Int)) = true) →
    (True ∧
    (((0 : Int) = nOf c) ∧
    (((1 : Int) + Int.tmod c (64 : Int) = nOf c) ∧
    True)))) ∧
  ((decide ((1 : Int) + Int.tmod c (64 : Int) < (1 : Int)) = false) →
   (((decide ((1 : Int) + Int.tmod c (64 : Int) > (4096 : Int)) = true) →
     (True ∧
     (((0 : Int) = nOf c) ∧
     (((1 : Int) + Int.tmod c (64 : Int) = nOf c) ∧
     True)))) ∧
   ((decide ((1 : Int) + Int.tmod c (64 : Int) > (4096 : Int)) = false) →
    (True ∧
    (((1 : Int) + Int.tmod c (64 : Int) = nOf c) ∧
    (((1 : Int) + Int.tmod c (64 : Int) = nOf c) ∧
    True)))))))))))))) := by kernel_rfl
theorem begin_ok {c : Int} (hc : 0 ≤ c ∧ c ≤ 255) : CallX Try.prog [] 14 [.int true .u8 c] [] (alts14 c) := by
  refine callX_of call1_ok (noLoops_ok _) mix (Nat.le_refl _) (.of (begin_vc c) ?_)
  have h := nOf_le hc.1
  have h1 : decide ((1 : Int) + Int.tmod c (64 : Int) < (1 : Int)) = false := decide_eq_false (by unfold nOf at h; omega)
  have h2 : decide ((1 : Int) + Int.tmod c (64 : Int) > (4096 : Int)) = false := decide_eq_false (by unfold nOf at h; omega)
  have g1 : rng .i64 c := rng_of (by omega) (by omega)
  have g2 : rng .i64 ((1 : Int) + Int.tmod c (64 : Int)) := rng_of (by unfold nOf at h; omega) (by unfold nOf at h; omega)
  rw [h1, h2]
  simp [g1, g2, nOf]
def sBegin : Spec1 := fun args m k => match args with
  | [.int b .u8 c] => useCall [] [.int true .u8 c] [] (0 ≤ c ∧ c ≤ 255) (alts14 c) [.int b .u8 c] m k
  | _ => none
theorem sBegin_ok : Spec1Ok Try.prog 14 sBegin := fun args m k Q h hQ => by
  unfold sBegin at h
  split at h
  · exact useCall_ok (by kernel_rfl) begin_ok h hQ
  · simp at h
def rcvC (x : List AV) (n : Int) (a b : AV) (d : Bool) : Ent := .cells 111 (x ++ [.int true .i64 n, a, b, .bool false d])
def alts28 (n : Int) : Alts := [(True, .tup [.ptr 0 0, .int false .i64 0], [rcvC (idz [7]) n .nilp .nils false])]
set_option maxRecDepth 100000 in
theorem newr_vc (n : Int) : (vBody Try.prog call1 noLoops 28 [.agg (idz [7]), .int true .i64 n] [] (postX [] (alts28 n))) = (
(((decide (n < (0 : Int)) = true) →
  False) ∧
((decide (n < (0 : Int)) = false) →
 (((decide (n > (65536 : Int)) = true) →
   False) ∧
 ((decide (n > (65536 : Int)) = false) →
  (True ∧
  ((n = n) ∧
  True))))))) := by kernel_rfl
theorem newr_ok {n : Int} (hn : 0 ≤ n ∧ n ≤ 65536) : CallX Try.prog [] 28 [.agg (idz [7]), .int true .i64 n] [] (alts28 n) := by
  refine callX_of call1_ok (noLoops_ok _) mix (Nat.le_refl _) (.of (newr_vc n) ?_)
  have h1 : decide (n < (0 : Int)) = false := decide_eq_false (by omega)
  have h2 : decide (n > (65536 : Int)) = false := decide_eq_false (by omega)
  rw [h1, h2]
  simp
def sNewr : Spec1 := fun args m k => match args with
  | [.agg l, .int b .i64 n] => useCall [] [.agg (idz [7]), .int true .i64 n] [] (0 ≤ n ∧ n ≤ 65536) (alts28 n) [.agg l, .int b .i64 n] m k
  | _ => none
theorem sNewr_ok : Spec1Ok Try.prog 28 sNewr := fun args m k Q h hQ => by
  unfold sNewr at h
  split at h
  · exact useCall_ok (by kernel_rfl) newr_ok h hQ
  · simp at h
end
end Go.Proofs.Ythhncnifpahgdaa

namespace Go.Proofs.Ythhncnifpahgdaa
open Go Go.XM
noncomputable section
/-! ### OfferDelivers: the start -/
def hasCR (t : ByteArray) : Bool := decide (Lib.indexByte t.data.toList (Nat.toUInt8 (Int.toNat (IntKind.wrap IntKind.u8 (13 : Int)))) ≥ (0 : Int))
def snd0 (n : Int) : Ent := sndC n .nils 0 (idz []) (.str false es) .nilp .nils
def rowQ (t : ByteArray) : Ent := .row 83 false none 33 [idz [7] ++ [.str true t]]
def alts12 (n : Int) (t : ByteArray) : Alts := [(strEq t (ByteArray.mk #[]) = true, .int false .i64 1, [snd0 n]), (hasCR t = true, .int false .i64 6, [snd0 n]), (hasCR t = false ∧ strEq t (ByteArray.mk #[]) = false, .int false .i64 0, [sndC n (.sl .c 1 0 1) 0 (idz []) (.str false es) .nilp .nils, rowQ t])]
set_option maxRecDepth 100000 in
theorem add_vc (n : Int) (t : ByteArray) : (vBody Try.prog call1 noLoops 12 [.ptr 0 0, .agg (idz [7]), .str true t] [snd0 n] (postX [true] (alts12 n t))) = (
(((strEq t (ByteArray.mk #[]) = true) →
  ((strEq t (ByteArray.mk #[]) = true) ∧
  ((n = n) ∧
  True))) ∧
((strEq t (ByteArray.mk #[]) = false) →
 (((decide ((↑(ByteArray.size t) : Int) > (65536 : Int)) = true) →
   False) ∧
 ((decide ((↑(ByteArray.size t) : Int) > (65536 : Int)) = false) →
  (True ∧
  (((decide (Lib.indexByte (Array.toList (ByteArray.data t)) (Nat.toUInt8 (Int.toNat (IntKind.wrap IntKind.u8 (13 : Int)))) ≥ (0 : Int)) = true) →
    ((hasCR t = true) ∧
    ((n = n) ∧
    True))) ∧
  ((decide (Lib.indexByte (Array.toList (ByteArray.data t)) (Nat.toUInt8 (Int.toNat (IntKind.wrap IntKind.u8 (13 : Int)))) ≥ (0 : Int)) = false) →
   (((hasCR t = false) ∧
    (strEq t (ByteArray.mk #[]) = false)) ∧
   ((n = n) ∧
   ((t = t) ∧
   True))))))))))) := by kernel_rfl
theorem add_ok {n : Int} {t : ByteArray} (ht : t.size ≤ 300) : CallX Try.prog [true] 12 [.ptr 0 0, .agg (idz [7]), .str true t] [snd0 n] (alts12 n t) := by
  refine callX_of call1_ok (noLoops_ok _) mix (Nat.le_refl _) (.of (add_vc n t) ?_)
  have h2 : decide ((↑(ByteArray.size t) : Int) > (65536 : Int)) = false := decide_eq_false (by omega)
  rw [h2]
  simp [hasCR]
  intro a b
  exact ⟨b, a⟩
/-- the first cell of an entry, where it is a number that may be any. -/
def chunkOf (m : Mem) (i : Nat) : Option Int := match nth m i with
  | some (.cells _ (.int _ .i64 n :: _)) => some n
  | _ => none
def sAdd : Spec1 := fun args m k => match args with
  | [.ptr i 0, l, .str b t] => (match chunkOf m i with
    | some n => useCall [true] [.ptr 0 0, .agg (idz [7]), .str true t] [snd0 n] (t.size ≤ 300) (alts12 n t) [.ptr i 0, l, .str b t] m k
    | none => none)
  | _ => none
theorem sAdd_ok : Spec1Ok Try.prog 12 sAdd := fun args m k Q h hQ => by
  unfold sAdd at h
  split at h
  · split at h
    · exact useCall_ok (by kernel_rfl) add_ok h hQ
    · simp at h
  · simp at h
def specs3 : SpecFn := addSpec 14 sBegin (addSpec 28 sNewr (addSpec 12 sAdd specs1))
theorem specs3_ok : SpecsOk Try.prog specs3 := addSpec_ok sBegin_ok (addSpec_ok sNewr_ok (addSpec_ok sAdd_ok specs1_ok))
abbrev call3 : CallV := vCall Try.prog specs3 noLoops 20
theorem call3_ok : CallVOk Try.prog call3 := vCall_ok specs3_ok (noLoops_ok _) mix 20
end
end Go.Proofs.Ythhncnifpahgdaa

