/-
  OfferNil of law 33 returns true for every input, and its argument reads as before; there are no conditions.
-/
import Derived.Test.YthhncnifpahgdaaLawA
import Derived.Test.YthhncnifpahgdaaXmD
import Derived.WalkKit
import Derived.ProofKit
namespace Go.Proofs.Ythhncnifpahgdaa
open Go Go.XM Go.RowKit
open Go.ChangeShapes Go.WideShapes Go.ChangeAt

def ksId : List CK := rep (.i .u8) 32
/-- an operation's cells: its kind, the article, the command. -/
def ksOp : List CK := [.i .u8] ++ ksId ++ [.s] ++ [.i .i64, .i .i64, .i .i64, .i .i64] ++ ksId ++ [.s]
theorem flat57 : flatC Try.prog 10 57 = some ksOp := by kernel_rfl

/-- a text cut to k bytes. -/
def upTo (k : Int) (s : ByteArray) : Int := bif decide (k < (s.size : Int)) then k else (s.size : Int)
def upToOk (k : Int) (s : ByteArray) : Prop := 0 ≤ (0 : Int) ∧ 0 ≤ upTo k s ∧ upTo k s ≤ (s.size : Int)
theorem upTo_ok {k : Int} (hk : 0 ≤ k) (s : ByteArray) : upToOk k s := by
  unfold upToOk upTo
  by_cases h : k < (s.size : Int)
  · simp [h]; omega
  · simp [h]

theorem own : ownKnob Try.prog.godebug = none := by kernel_rfl

namespace offerNil
noncomputable abbrev run (E : Env) : Res Out := xcall Try.prog leaf1 (CallsA Try.prog) (LoopA Try.prog) 20 6 [.agg (kavs E 0 ksOp)] [] []
theorem ran (E : Env) : (ansOf (run E), leftsOf (run E)) = (some (.bool false true, [upToOk 300 (E.xs 33), upToOk 50 (E.xs 70)]), rightsOf (run E)) := by kernel_rfl

set_option maxRecDepth 100000 in
theorem core (W : World) (base : Nat) (args : Array Value) {H : Type} {enc : TypeId × Value → H} (ds : List (DataW H)) (ps : List MemPlace) (hval : ∀ (j : Nat) t v, Try.f6.params[j]? = some t → args[j]? = some v → Value.okWide Try.prog W .any base t v)
    (hA : DataW.TrodAll enc Try.prog W 0 (fun _ => true) true Try.f6.params.toList args.toList ds ps) : Calls Try.prog 6 args W fun e W' => e = .returned (.bool true) ∧ Below W.heap.size W W' := by
  rw [Try.params6] at hA hval
  obtain ⟨v0, vs0, d0, ds0, p0, q0, hargs, rfl, rfl, h0, r0⟩ := trodAll_cons hA
  obtain ⟨rfl, rfl, rfl⟩ := trodAll_nil r0
  obtain rfl : args = #[v0] := by cases args; simp_all
  have hv := hval 0 57 v0 rfl rfl
  unfold Value.okWide at hv
  rw [Try.underlying57] at hv
  obtain ⟨cs, rfl, _, _⟩ := hv
  obtain ⟨fuel, hf⟩ := h0
  have hf' : DataW.trod enc Try.prog W 0 (fun _ => true) true fuel 57 cs.toList = some (d0, p0) := hf
  obtain ⟨E, hE, _⟩ := (flat_open 10 flat57 hf').env
  obtain ⟨m', hc⟩ := calls_ans leaf1_ok mix (ran E) ⟨upTo_ok (by omega) _, upTo_ok (by omega) _, trivial⟩
  have hV : LR noG [.agg (kavs E 0 ksOp)] [.agg cs] :=
    ⟨_, _, rfl, ⟨cs.toList, by simp, by rw [hE]; exact kav_spec E ksOp 0⟩, rfl⟩
  refine (hc.below (by simp) (memOk_nil _ W) hV).mono ?_
  rintro e w' ⟨V, γ', rfl, hvV, hb⟩
  cases hvV
  exact ⟨rfl, hb⟩

set_option maxRecDepth 100000 in
theorem lifted (os : Os) (started : os.Started) (H : Type) (enc : TypeId × Value → H) :
    ReturnsInHanded {} Try.checked os 6 .any (Rows.offerNilSpec.pre6 enc Try.prog Try.f6 Rows.offerNilRow.domain false) (Rows.offerNilSpec.post enc Try.prog Try.f6 false true false false) :=
  law_lifted (C := Try.checked) os started H enc own (by kernel_rfl) Try.func6 rfl
    (fun ds hds => by
      match ds, hds with
      | [d1], _ => rfl)
    (tb := 4) (by kernel_rfl) Try.underlying4 (by kernel_rfl) (by decide +kernel)
    (ChangeSpec.witness6 (enc := enc) (C := Try.checked) false ⟨#[], #[.agg (kvals ⟨fun _ => 0, fun _ => false, fun _ => ⟨#[]⟩⟩ 0 ksOp).toArray], []⟩ 8 (by kernel_rfl) (by kernel_rfl) (by kernel_rfl) (by kernel_rfl))
    (fun W base args ds ps hval hA _ _ => core W base args ds ps hval hA)

theorem over : Rows.offerNilRow.holds Try.pinned (OpenSpec.ofChange Rows.offerNilSpec) :=
  OpenClaim.holds_of_wide 6 Try.f6 rfl rfl rfl rfl rfl rfl rfl ⟨rfl, rfl, rfl, rfl, rfl⟩ rfl rfl rfl rfl rfl (by kernel_rfl) Try.func6 (by kernel_rfl)
    (of_decide_eq_true (by kernel_rfl)) (by unfold Func.isWrapper; first | (rw [if_pos (by decide +kernel)]; kernel_rfl) | (rw [if_neg (by decide +kernel)]; exact ⟨rfl, rfl⟩))
    (fun os started H enc _ => lifted os started H enc)

/-- THE STATEMENT. -/
theorem proved : Rows.OfferNilSaid := over
end offerNil
#print axioms offerNil.proved
end Go.Proofs.Ythhncnifpahgdaa

