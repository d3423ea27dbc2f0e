/-
  OfferNew of law 33 returns true for every input, and its arguments read as before; there are no conditions.
-/
import Derived.Test.YthhncnifpahgdaaLawC
import Derived.WalkKit
import Derived.ProofKit
import Derived.OpenShut
namespace Go.Proofs.Ythhncnifpahgdaa
open Go Go.XM Go.RowKit
open Go.ChangeShapes Go.WideShapes Go.ChangeAt
open Go.ChangeMaps (open_string)

theorem lr_bytes {γ : Gm} (x : Nat → Int) : ∀ (l : List Nat), LR γ (l.map fun i => AV.int true .u8 (x i)) (l.map fun i => Value.int .u8 (x i))
  | [] => rfl
  | _ :: l => ⟨_, _, rfl, rfl, lr_bytes x l⟩

theorem lr_idc {γ : Gm} {x : Nat → Int} {l : List Value} (h : l = (List.range 32).map fun i => Value.int .u8 (x i)) : LR γ (idc x) l := by
  subst h; exact lr_bytes x (List.range 32)

theorem drop_take1 {α : Type} (l : List α) (i : Nat) : (l.drop i).take 1 = (match l[i]? with | some a => [a] | none => []) := by
  cases h : l[i]? with
  | none => rw [List.getElem?_eq_none_iff] at h; simp [List.drop_eq_nil_of_le h]
  | some a =>
    obtain ⟨hlt, rfl⟩ := List.getElem?_eq_some_iff.1 h
    rw [List.drop_eq_getElem_cons hlt]; rfl

/-- an array of bytes, opened. -/
theorem open_bytes {H : Type} {enc : TypeId × Value → H} {P : Program} {w : World} {base : Nat} {sp : Nat → Bool} {held : Bool} {fuel n : Nat} {t e : TypeId} {cs : List Value} {y : DataW H × List MemPlace}
    (ht : P.underlying t = some (.array n e)) (he : P.underlying e = some (.int .u8)) (hc : P.cellsOf e = 1) (hn : P.cellsOf t = n) (h : DataW.trod enc P w base sp held fuel t cs = some y) :
    ∃ x : Nat → Int, cs = (List.range n).map (fun i => Value.int .u8 (x i)) := by
  obtain ⟨xs, m, rfl, hx, hlen, hxl, hall⟩ := DataW.trod_array ht h
  have hel : ∀ i, i < n → ∃ k, cs[i]? = some (.int .u8 k) := by
    intro i hi
    have := hall i hi
    rw [hc, Nat.mul_one, drop_take1] at this
    have hci : i < cs.length := by omega
    rw [List.getElem?_eq_getElem hci] at this
    have hxi : i < xs.length := by omega
    rw [List.getElem?_eq_getElem hxi] at this
    obtain ⟨k, hk, _⟩ := DataW.trod_int he this
    refine ⟨k, ?_⟩
    rw [List.getElem?_eq_getElem hci]
    simpa using hk
  refine ⟨fun i => match cs[i]? with | some (.int _ k) => k | _ => 0, ?_⟩
  apply List.ext_getElem?
  intro i
  rcases Nat.lt_or_ge i n with hi | hi
  · obtain ⟨k, hk⟩ := hel i hi
    simp [List.getElem?_range hi, hk]
  · rw [List.getElem?_eq_none (by omega), List.getElem?_eq_none (by simp; omega)]

theorem cells5 : Try.prog.cellsOf 5 = 1 := by kernel_rfl
theorem cells22 : Try.prog.cellsOf 22 = 32 := by kernel_rfl
theorem own : ownKnob Try.prog.godebug = none := by kernel_rfl

namespace offerNew
set_option maxRecDepth 100000 in
theorem core (W : World) (base : Nat) (args : Array Value) {H : Type} {enc : TypeId × Value → H} (ds : List (DataW H)) (ps : List MemPlace) (hval : ∀ (j : Nat) t v, Try.f3.params[j]? = some t → args[j]? = some v → Value.okWide Try.prog W .any base t v)
    (hA : DataW.TrodAll enc Try.prog W 0 (fun _ => true) true Try.f3.params.toList args.toList ds ps) : Calls Try.prog 3 args W fun e W' => e = .returned (.bool true) ∧ Below W.heap.size W W' := by
  rw [Try.params3] at hA hval
  obtain ⟨v0, vs0, d0, ds0, p0, q0, hargs, rfl, rfl, h0, r0⟩ := trodAll_cons hA
  obtain ⟨v1, vs1, d1, ds1, p1, q1, rfl, rfl, rfl, h1, r1⟩ := trodAll_cons r0
  obtain ⟨v2, vs2, d2, ds2, p2, q2, rfl, rfl, rfl, h2, r2⟩ := trodAll_cons r1
  obtain ⟨rfl, rfl, rfl⟩ := trodAll_nil r2
  obtain rfl : args = #[v0, v1, v2] := by cases args; simp_all
  obtain ⟨c, rfl, rfl, rfl, w0⟩ := open_int Try.underlying3 (hval 0 3 v0 rfl rfl) h0
  obtain ⟨s, rfl, rfl, rfl, ws⟩ := open_string Try.underlying9 (hval 2 9 v2 rfl rfl) h2
  have hv1 := hval 1 22 v1 rfl rfl
  unfold Value.okWide at hv1
  rw [Try.underlying22] at hv1
  obtain ⟨cs, rfl, _, _⟩ := hv1
  obtain ⟨fuel, hf⟩ := h1
  have hf' : DataW.trod enc Try.prog W 0 (fun _ => true) true fuel 22 cs.toList = some (d1, p1) := hf
  obtain ⟨x, hx⟩ := open_bytes Try.underlying22 Try.underlying5 cells5 cells22 hf'
  obtain ⟨m', hc⟩ := offerNew_calls x s c
  have hV : LR noG [.int true .i64 c, .agg (idc x), .str true s] [.int .i64 c, .agg cs, .string s] :=
    ⟨_, _, rfl, rfl, _, _, rfl, ⟨cs.toList, by simp, lr_idc hx⟩, _, _, rfl, rfl, rfl⟩
  refine (hc.below (by simp) (memOk_nil _ W) hV).mono ?_
  rintro e w' ⟨V, γ', rfl, hvV, hb⟩
  cases hvV
  exact ⟨rfl, hb⟩

set_option maxRecDepth 100000 in
theorem lifted (os : Os) (started : os.Started) (H : Type) (enc : TypeId × Value → H) :
    ReturnsInHanded {} Try.checked os 3 .any (Rows.offerNewSpec.pre6 enc Try.prog Try.f3 Rows.offerNewRow.domain false) (Rows.offerNewSpec.post enc Try.prog Try.f3 false true false false) :=
  law_lifted (C := Try.checked) os started H enc own (by kernel_rfl) Try.func3 rfl
    (fun ds hds => by
      match ds, hds with
      | [d1, d2, d3], _ => rfl)
    (tb := 4) (by kernel_rfl) Try.underlying4 (by kernel_rfl) (by decide +kernel)
    (ChangeSpec.witness6 (enc := enc) (C := Try.checked) false ⟨#[], #[.int .i64 0, .agg (Array.replicate 32 (.int .u8 0)), .string ⟨#[]⟩], []⟩ 8 (by kernel_rfl) (by kernel_rfl) (by kernel_rfl) (by kernel_rfl))
    (fun W base args ds ps hval hA _ _ => core W base args ds ps hval hA)

theorem over : Rows.offerNewRow.holds Try.pinned (OpenSpec.ofChange Rows.offerNewSpec) :=
  OpenClaim.holds_of_wide 3 Try.f3 rfl rfl rfl rfl rfl rfl rfl ⟨rfl, rfl, rfl, rfl, rfl⟩ rfl rfl rfl rfl rfl (by kernel_rfl) Try.func3 (by kernel_rfl)
    (of_decide_eq_true (by kernel_rfl)) (by unfold Func.isWrapper; first | (rw [if_pos (by decide +kernel)]; kernel_rfl) | (rw [if_neg (by decide +kernel)]; exact ⟨rfl, rfl⟩))
    (fun os started H enc _ => lifted os started H enc)

/-- THE STATEMENT. -/
theorem proved : Rows.OfferNewSaid := over
end offerNew
#print axioms offerNew.proved
end Go.Proofs.Ythhncnifpahgdaa

