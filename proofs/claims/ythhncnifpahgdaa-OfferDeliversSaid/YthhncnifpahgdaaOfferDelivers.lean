/-
  OfferDelivers of law 33 returns true for every input, and its arguments read as before; there are no conditions.
-/
import Derived.Test.YthhncnifpahgdaaLawC
import Derived.Test.YthhncnifpahgdaaXmE
import Derived.Test.YthhncnifpahgdaaRows
import Derived.OpenShut
namespace Go.Proofs.Ythhncnifpahgdaa
open Go Go.XM Go.RowKit
open Go.ChangeShapes Go.WideShapes Go.ChangeAt
open Go.ChangeMaps (open_string)
theorem own : ownKnob Try.prog.godebug = none := by kernel_rfl
namespace offerDelivers
theorem dropsOk_of {W : World} {v : Value} {len : Nat} {g : Option G} {T : TypeId} {xs : List (List AV)} (h : SliceArg W [.i .u8] v len g T xs) : dropsOk (T, xs) len := by
  refine ⟨h.len, fun i hi => ?_⟩
  obtain ⟨E, h1, h2⟩ := h.els i hi
  rw [h1]
  exact bounds_u8 (h2 0 _ rfl)
theorem law_holds {c : Int} {t : ByteArray} {ds : Nat × List (List AV)} {dn : Nat} (hc : 0 ≤ c ∧ c ≤ 255) (hd : dropsOk ds dn) : Holds (vBody Try.prog call8 loops8 7 [.int true .u8 c, .str true t, .sl .n 0 0 dn] [drE ds] isTrue) := by
  refine .of (law_vc c t ds dn) ?_
  have h1 := cut300_size t
  have h2 := nOf_le hc.1
  obtain ⟨h3, h4⟩ := hd
  have h5 : strEq (cut300 t) (ByteArray.mk #[]) = false → 0 < (cut300 t).size := by
    intro h
    rcases Nat.eq_zero_or_pos (cut300 t).size with hz | hz
    · have e : cut300 t = ByteArray.mk #[] := by
        apply ByteArray.ext; exact Array.eq_empty_of_size_eq_zero hz
      rw [e] at h; simp [strEq] at h
    · exact hz
  simp [hc, h1, h2, h3]
  refine ⟨by omega, ?_⟩
  intro _ h
  exact ⟨h5 h, h4⟩
set_option maxRecDepth 100000 in
theorem core (W : World) (base : Nat) (args : Array Value) {H : Type} {enc : TypeId × Value → H} (ds : List (DataW H)) (ps : List MemPlace) (hval : ∀ (j : Nat) t v, Try.f7.params[j]? = some t → args[j]? = some v → Value.okWide Try.prog W .any base t v)
    (hA : DataW.TrodAll enc Try.prog W 0 (fun _ => true) true Try.f7.params.toList args.toList ds ps) : Calls Try.prog 7 args W fun e W' => e = .returned (.bool true) ∧ Below W.heap.size W W' := by
  rw [Try.params7] at hA hval
  obtain ⟨v0, vs0, d0, ds0, p0, q0, hargs, rfl, rfl, h0, r0⟩ := trodAll_cons hA
  obtain ⟨v1, vs1, d1, ds1, p1, q1, rfl, rfl, rfl, h1, r1⟩ := trodAll_cons r0
  obtain ⟨v2, vs2, d2, ds2, p2, q2, rfl, rfl, rfl, h2, r2⟩ := trodAll_cons r1
  obtain ⟨rfl, rfl, rfl⟩ := trodAll_nil r2
  obtain rfl : args = #[v0, v1, v2] := by cases args; simp_all
  obtain ⟨c, rfl, rfl, rfl, w0⟩ := open_int Try.underlying5 (hval 0 5 v0 rfl rfl) h0
  obtain ⟨s, rfl, rfl, rfl, ws⟩ := open_string Try.underlying9 (hval 1 9 v1 rfl rfl) h1
  obtain ⟨a2, l2, c2, rfl⟩ := okWide_slice Try.underlying72 (hval 2 72 v2 rfl rfl)
  obtain ⟨len, g, T, xs, hs⟩ := open_flat_slice (ks := [.i .u8]) Try.underlying72 (by kernel_rfl) (by kernel_rfl) (by decide) (hval 2 72 _ rfl rfl) h2
  have hV : LR (gOne g) [.int true .u8 c, .str true s, .sl .n 0 0 len] [.int .u8 c, .string s, .slice a2 l2 c2] := ⟨_, _, rfl, rfl, _, _, rfl, rfl, _, _, rfl, hs.val _ 0 rfl, rfl⟩
  exact law_of call8_ok loops8_ok mix (law_holds (bounds_u8 w0) (dropsOk_of hs)) (fun e he => by simp at he; subst he; rfl) (fun H _ => memOk_one hs) hV

set_option maxRecDepth 100000 in
theorem lifted (os : Os) (started : os.Started) (H : Type) (enc : TypeId × Value → H) :
    ReturnsInHanded {} Try.checked os 7 .any (Rows.offerDeliversSpec.pre6 enc Try.prog Try.f7 Rows.offerDeliversRow.domain false) (Rows.offerDeliversSpec.post enc Try.prog Try.f7 false true false false) :=
  law_lifted (C := Try.checked) os started H enc own (by kernel_rfl) Try.func7 rfl
    (fun ds hds => by
      match ds, hds with
      | [d1, d2, d3], _ => rfl)
    (tb := 4) (by kernel_rfl) Try.underlying4 (by kernel_rfl) (by decide +kernel)
    (ChangeSpec.witness6 (enc := enc) (C := Try.checked) false ⟨#[], #[.int .u8 0, .string ⟨#[]⟩, .slice none 0 0], []⟩ 8 (by kernel_rfl) (by kernel_rfl) (by kernel_rfl) (by kernel_rfl))
    (fun W base args ds ps hval hA _ _ => core W base args ds ps hval hA)

theorem over : Rows.offerDeliversRow.holds Try.pinned (OpenSpec.ofChange Rows.offerDeliversSpec) :=
  OpenClaim.holds_of_wide 7 Try.f7 rfl rfl rfl rfl rfl rfl rfl ⟨rfl, rfl, rfl, rfl, rfl⟩ rfl rfl rfl rfl rfl (by kernel_rfl) Try.func7 (by kernel_rfl)
    (of_decide_eq_true (by kernel_rfl)) (by unfold Func.isWrapper; first | (rw [if_pos (by decide +kernel)]; kernel_rfl) | (rw [if_neg (by decide +kernel)]; exact ⟨rfl, rfl⟩))
    (fun os started H enc _ => lifted os started H enc)

/-- THE STATEMENT. -/
theorem proved : Rows.OfferDeliversSaid := over
#print axioms proved
end offerDelivers
end Go.Proofs.Ythhncnifpahgdaa

