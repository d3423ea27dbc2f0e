/-
  No cell of these rows narrows 'for every input' (looked for: loops, veiled, ifaces, maps, wideKeys, modest, calm, conditions, laid).
  DERIVED. THE GIVEN ROWS OF THIS SEAT. 5 by the template 'for every input the law returns true; each argument reads behind the call as it read before'; 0 by the template 'total and deterministic' (their statements: YthhncnifpahgdaaTotals.lean).
  GIVEN WITH THE SEED: the statements are not yours to turn. If you find one false, say at which input.
  Laid BY PROGRAM, IN A SANDBOX (cutbox-rows.mjs): the forced cells as the released guide's own fill.sh prints them over the translation 39881d12d9372d90… (all of the seat's roots in one cut). By AI agents, Wed Nov 11 2026. No macro, syntax, notation, axiom, sorry.
-/
import Derived.Test.YthhncnifpahgdaaChecked
import GoSem.Claim
import GoSem.ClaimJoined
import GoSem.ClaimMapViews
import Derived.JoinedTies
import Derived.KernelRfl
namespace Go.Proofs.Ythhncnifpahgdaa
/- THE CELL 'sum', in the pinned program and in every row, IS THE sha256 OF THE DUMP (.gsa) THAT YthhncnifpahgdaaProg.lean LOADS. Nothing in Lean hashes anything: it is a label: what it is worth is what the hold of that sum in a sandbox is worth. -/
noncomputable def Try.pinned : Pinned := { name := "ythhncnifpahgdaa", sum := "39881d12d9372d90fe657abb69fcaa8e23ab38b38aa28e813647471683bfd863", checked := Try.checked }
namespace Rows
def none {H : Type} : Left H := { results := [], args := [] }

/-- 'bulletinlaw33.OfferNew': WHATEVER THE INPUT: true; the input reads as it did. -/
def offerNewSpec : ChangeSpec := { name := "offerNew", fn := fun _ => fun
  | [d1, d2, d3] => { results := [.lit (.bool true)], args := [d1, d2, d3] }
  | _ => none }
def offerNewRow : OpenClaim := { program := "ythhncnifpahgdaa", sum := "39881d12d9372d90fe657abb69fcaa8e23ab38b38aa28e813647471683bfd863", func := "bulletin/bulletinlaw33.OfferNew", spec := "offerNew", inPlace := ["internal/bytealg.IndexByteString", "internal/bytealg.IndexString"], unfollowed := true, recurses := true, named := ["internal/bytealg.MaxLen"], apart := false }
def OfferNewSaid : Prop := offerNewRow.holds Try.pinned (OpenSpec.ofChange offerNewSpec)

/-- ITS FALSE NEIGHBOUR: 'it returns false'. Refute it at one input. -/
def offerNewWrong : ChangeSpec := { name := "offerNew", fn := fun _ => fun
  | [d1, d2, d3] => { results := [.lit (.bool false)], args := [d1, d2, d3] }
  | _ => none }
def OfferNewWrongFalsely : Prop := offerNewRow.holds Try.pinned (OpenSpec.ofChange offerNewWrong)

/-- 'bulletinlaw33.OfferResumes': WHATEVER THE INPUT: true; the input reads as it did. -/
def offerResumesSpec : ChangeSpec := { name := "offerResumes", fn := fun _ => fun
  | [d1, d2, d3] => { results := [.lit (.bool true)], args := [d1, d2, d3] }
  | _ => none }
def offerResumesRow : OpenClaim := { program := "ythhncnifpahgdaa", sum := "39881d12d9372d90fe657abb69fcaa8e23ab38b38aa28e813647471683bfd863", func := "bulletin/bulletinlaw33.OfferResumes", spec := "offerResumes", inPlace := ["internal/bytealg.IndexByteString", "internal/bytealg.IndexString"], unfollowed := true, recurses := true, named := ["internal/bytealg.MaxLen"], apart := false }
def OfferResumesSaid : Prop := offerResumesRow.holds Try.pinned (OpenSpec.ofChange offerResumesSpec)

/-- ITS FALSE NEIGHBOUR: 'it returns false'. Refute it at one input. -/
def offerResumesWrong : ChangeSpec := { name := "offerResumes", fn := fun _ => fun
  | [d1, d2, d3] => { results := [.lit (.bool false)], args := [d1, d2, d3] }
  | _ => none }
def OfferResumesWrongFalsely : Prop := offerResumesRow.holds Try.pinned (OpenSpec.ofChange offerResumesWrong)

/-- 'bulletinlaw33.OfferClones': WHATEVER THE INPUT: true; the input reads as it did. -/
def offerClonesSpec : ChangeSpec := { name := "offerClones", fn := fun _ => fun
  | [d1, d2, d3] => { results := [.lit (.bool true)], args := [d1, d2, d3] }
  | _ => none }
def offerClonesRow : OpenClaim := { program := "ythhncnifpahgdaa", sum := "39881d12d9372d90fe657abb69fcaa8e23ab38b38aa28e813647471683bfd863", func := "bulletin/bulletinlaw33.OfferClones", spec := "offerClones", inPlace := ["internal/bytealg.IndexByteString", "internal/bytealg.IndexString"], unfollowed := true, recurses := true, named := ["internal/bytealg.MaxLen"], apart := false }
def OfferClonesSaid : Prop := offerClonesRow.holds Try.pinned (OpenSpec.ofChange offerClonesSpec)

/-- ITS FALSE NEIGHBOUR: 'it returns false'. Refute it at one input. -/
def offerClonesWrong : ChangeSpec := { name := "offerClones", fn := fun _ => fun
  | [d1, d2, d3] => { results := [.lit (.bool false)], args := [d1, d2, d3] }
  | _ => none }
def OfferClonesWrongFalsely : Prop := offerClonesRow.holds Try.pinned (OpenSpec.ofChange offerClonesWrong)

/-- 'bulletinlaw33.OfferNil': WHATEVER THE INPUT: true; the input reads as it did. -/
def offerNilSpec : ChangeSpec := { name := "offerNil", fn := fun _ => fun
  | [d] => { results := [.lit (.bool true)], args := [d] }
  | _ => none }
def offerNilRow : OpenClaim := { program := "ythhncnifpahgdaa", sum := "39881d12d9372d90fe657abb69fcaa8e23ab38b38aa28e813647471683bfd863", func := "bulletin/bulletinlaw33.OfferNil", spec := "offerNil", inPlace := ["internal/bytealg.IndexByteString", "internal/bytealg.IndexString"], unfollowed := true, recurses := true, named := ["internal/bytealg.MaxLen"], apart := false }
def OfferNilSaid : Prop := offerNilRow.holds Try.pinned (OpenSpec.ofChange offerNilSpec)

/-- ITS FALSE NEIGHBOUR: 'it returns false'. Refute it at one input. -/
def offerNilWrong : ChangeSpec := { name := "offerNil", fn := fun _ => fun
  | [d] => { results := [.lit (.bool false)], args := [d] }
  | _ => none }
def OfferNilWrongFalsely : Prop := offerNilRow.holds Try.pinned (OpenSpec.ofChange offerNilWrong)

/-- 'bulletinlaw33.OfferDelivers': WHATEVER THE INPUT: true; the input reads as it did. -/
def offerDeliversSpec : ChangeSpec := { name := "offerDelivers", fn := fun _ => fun
  | [d1, d2, d3] => { results := [.lit (.bool true)], args := [d1, d2, d3] }
  | _ => none }
def offerDeliversRow : OpenClaim := { program := "ythhncnifpahgdaa", sum := "39881d12d9372d90fe657abb69fcaa8e23ab38b38aa28e813647471683bfd863", func := "bulletin/bulletinlaw33.OfferDelivers", spec := "offerDelivers", inPlace := ["internal/bytealg.IndexByteString", "internal/bytealg.IndexString", "internal/abi.NoEscape"], unfollowed := true, recurses := true, named := ["internal/bytealg.MaxLen"], apart := false }
def OfferDeliversSaid : Prop := offerDeliversRow.holds Try.pinned (OpenSpec.ofChange offerDeliversSpec)

/-- ITS FALSE NEIGHBOUR: 'it returns false'. Refute it at one input. -/
def offerDeliversWrong : ChangeSpec := { name := "offerDelivers", fn := fun _ => fun
  | [d1, d2, d3] => { results := [.lit (.bool false)], args := [d1, d2, d3] }
  | _ => none }
def OfferDeliversWrongFalsely : Prop := offerDeliversRow.holds Try.pinned (OpenSpec.ofChange offerDeliversWrong)

/- THE SECOND FORM. 'bulk': how many values and letters a reading holds, each counted each time it is reached (what is shared counts as often as it is met; a slice's spare places count too). A statement '..UptoSaid' is the law's where the arguments, and the package variables that the reading takes, are together of bulk at most 1048576: NARROWER than '..Said'. Prove '..Said' where nothing that the law and all that it calls make is longer than what came in: it says more and counts as full. Else prove '..UptoSaid'. A law counts once. -/
mutual
def uptoBulk {H : Type} : DataW H → Nat
  | .lit (.string bytes) => bytes.length + 1
  | .lit _ => 1
  | .nil => 1
  | .ptr d => uptoBulk d + 1
  | .slice elems spare => uptoBulkAll elems + uptoBulkAll spare + 1
  | .agg parts => uptoBulkAll parts + 1
  | .iface _ d => uptoBulk d + 1
  | .map entries => uptoBulkEntries entries + 1
  | .held _ => 1
def uptoBulkAll {H : Type} : List (DataW H) → Nat
  | [] => 0
  | d :: r => uptoBulk d + uptoBulkAll r
def uptoBulkEntries {H : Type} : List (Lit × DataW H) → Nat
  | [] => 0
  | x :: r => uptoBulkEntry x + uptoBulkEntries r
def uptoBulkEntry {H : Type} : Lit × DataW H → Nat
  | (.string bytes, d) => bytes.length + uptoBulk d + 1
  | (_, d) => uptoBulk d + 1
 end
def uptoSmall : (H : Type) → List (DataW H) → Bool := fun _ ds => decide (uptoBulkAll ds ≤ 1048576)
def OpenSpec.upto (s : _root_.Go.ChangeSpec) : _root_.Go.OpenSpec := { _root_.Go.OpenSpec.ofChange s with cond := some uptoSmall }

/-- 'bulletinlaw33.OfferNew', WHERE WHAT IT READS IS OF BULK AT MOST 1048576: true; the input reads as it did. -/
def offerNewUptoRow : OpenClaim := { program := "ythhncnifpahgdaa", sum := "39881d12d9372d90fe657abb69fcaa8e23ab38b38aa28e813647471683bfd863", func := "bulletin/bulletinlaw33.OfferNew", spec := "offerNew", inPlace := ["internal/bytealg.IndexByteString", "internal/bytealg.IndexString"], unfollowed := true, recurses := true, named := ["internal/bytealg.MaxLen"], apart := false, narrowed := true }
def OfferNewUptoSaid : Prop := offerNewUptoRow.holds Try.pinned (OpenSpec.upto offerNewSpec)

/-- 'bulletinlaw33.OfferResumes', WHERE WHAT IT READS IS OF BULK AT MOST 1048576: true; the input reads as it did. -/
def offerResumesUptoRow : OpenClaim := { program := "ythhncnifpahgdaa", sum := "39881d12d9372d90fe657abb69fcaa8e23ab38b38aa28e813647471683bfd863", func := "bulletin/bulletinlaw33.OfferResumes", spec := "offerResumes", inPlace := ["internal/bytealg.IndexByteString", "internal/bytealg.IndexString"], unfollowed := true, recurses := true, named := ["internal/bytealg.MaxLen"], apart := false, narrowed := true }
def OfferResumesUptoSaid : Prop := offerResumesUptoRow.holds Try.pinned (OpenSpec.upto offerResumesSpec)

/-- 'bulletinlaw33.OfferClones', WHERE WHAT IT READS IS OF BULK AT MOST 1048576: true; the input reads as it did. -/
def offerClonesUptoRow : OpenClaim := { program := "ythhncnifpahgdaa", sum := "39881d12d9372d90fe657abb69fcaa8e23ab38b38aa28e813647471683bfd863", func := "bulletin/bulletinlaw33.OfferClones", spec := "offerClones", inPlace := ["internal/bytealg.IndexByteString", "internal/bytealg.IndexString"], unfollowed := true, recurses := true, named := ["internal/bytealg.MaxLen"], apart := false, narrowed := true }
def OfferClonesUptoSaid : Prop := offerClonesUptoRow.holds Try.pinned (OpenSpec.upto offerClonesSpec)

/-- 'bulletinlaw33.OfferNil', WHERE WHAT IT READS IS OF BULK AT MOST 1048576: true; the input reads as it did. -/
def offerNilUptoRow : OpenClaim := { program := "ythhncnifpahgdaa", sum := "39881d12d9372d90fe657abb69fcaa8e23ab38b38aa28e813647471683bfd863", func := "bulletin/bulletinlaw33.OfferNil", spec := "offerNil", inPlace := ["internal/bytealg.IndexByteString", "internal/bytealg.IndexString"], unfollowed := true, recurses := true, named := ["internal/bytealg.MaxLen"], apart := false, narrowed := true }
def OfferNilUptoSaid : Prop := offerNilUptoRow.holds Try.pinned (OpenSpec.upto offerNilSpec)

/-- 'bulletinlaw33.OfferDelivers', WHERE WHAT IT READS IS OF BULK AT MOST 1048576: true; the input reads as it did. -/
def offerDeliversUptoRow : OpenClaim := { program := "ythhncnifpahgdaa", sum := "39881d12d9372d90fe657abb69fcaa8e23ab38b38aa28e813647471683bfd863", func := "bulletin/bulletinlaw33.OfferDelivers", spec := "offerDelivers", inPlace := ["internal/bytealg.IndexByteString", "internal/bytealg.IndexString", "internal/abi.NoEscape"], unfollowed := true, recurses := true, named := ["internal/bytealg.MaxLen"], apart := false, narrowed := true }
def OfferDeliversUptoSaid : Prop := offerDeliversUptoRow.holds Try.pinned (OpenSpec.upto offerDeliversSpec)

end Rows
end Go.Proofs.Ythhncnifpahgdaa
