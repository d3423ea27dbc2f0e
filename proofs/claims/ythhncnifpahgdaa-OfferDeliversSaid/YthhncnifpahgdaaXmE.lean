/-
  From conditions to the row of a law; tables of contracts; loops by layouts; arguments opened. For whatever program; the conditions stand in each statement.
-/
import Derived.Test.YthhncnifpahgdaaXmD
import Derived.ProofKit
import Derived.Below
import Derived.Carry
import Derived.OpenShut
import Derived.Deep.Slices
namespace Go.XM
open Go Go.RowKit
noncomputable section
variable {P : Program}

def noG : Gm := fun _ => none

theorem memOk_nil (H : Nat) (w : World) : MemOk H noG [] w :=
  ⟨fun id e h => by simp at h, fun id g h => by simp [noG] at h, fun i j ei ej gi gj _ h => by simp at h⟩

theorem foot_none {γ : Gm} {m : Mem} (h : ∀ e ∈ m, e.rw = false) (b : Nat) : ¬ Foot γ m b := by
  rintro ⟨id, e, g, h1, h2, _⟩
  rw [h e (List.mem_of_getElem? h1)] at h2
  simp at h2

/-- A call that may write nothing that stood before. -/
theorem CallR.below {f : FuncId} {args : List AV} {m m' : Mem} {v : AV} (h : CallR P [] f args m v m') (hro : ∀ e ∈ m, e.rw = false) {γ : Gm} {w : World} {Vs : List Value} (hm : ∀ H, m.length ≤ H → MemOk H γ m w) (hV : LR γ args Vs) :
    Calls P f Vs.toArray w fun e w' => ∃ V γ', e = .returned V ∧ VR γ' v V ∧ Below w.heap.size w w' := by
  obtain ⟨_, B, h⟩ := h
  refine Calls.mono (h (max B m.length) γ w Vs (by omega) (hm _ (by omega)) hV) ?_
  rintro e w' ⟨V, γ', rfl, hvV, hm', hs⟩
  exact ⟨V, γ', rfl, hvV, ⟨hs.os, hs.tape, hs.output, hs.size, fun k hk => hs.keep k hk (foot_none hro k)⟩⟩

/-- what a law is to return. -/
def isTrue (v : AV) (m : Mem) : Prop :=
  match v with
  | .bool _ b => b = true
  | v => Stuck (.res [(0, v)] m)

theorem law_calls {call : CallV} (hcall : CallVOk P call) {loops : LoopFn} (hlp : LoopsOk P loops) (hmix : P.follows .mixedOrders = true) {f : FuncId} {args : List AV} {m : Mem} (h : vBody P call loops f args m isTrue) (hro : ∀ e ∈ m, e.rw = false) {γ : Gm} {w : World} {Vs : List Value} (hm : ∀ H, m.length ≤ H → MemOk H γ m w) (hV : LR γ args Vs) :
    Calls P f Vs.toArray w fun e w' => e = .returned (.bool true) ∧ Below w.heap.size w w' := by
  obtain ⟨v, m', h1, h2⟩ := vBody_ok hcall hlp hmix h
  refine Calls.mono ((h1.toR (fs := []) (by simp)).below hro hm hV) ?_
  rintro e w' ⟨V, γ', rfl, hvV, hb⟩
  unfold isTrue at h2
  split at h2
  · subst h2; cases hvV; exact ⟨rfl, hb⟩
  · cases h2

/-! ### The row of a law -/
open Go.ChangeShapes Go.WideShapes Go.ChangeAt

theorem trodAll_stays {H : Type} {enc : TypeId × Value → H} (hl : laidOutB P = true) {W W' : World} {sp : Nat → Bool} : ∀ {ts : List TypeId} {vs : List Value} {ds : List (DataW H)} {ps : List MemPlace},
    (∀ t ∈ ts, P.readableRec t = true ∧ t < P.types.size) → DataW.TrodAll enc P W 0 (fun _ => true) true ts vs ds ps → (∀ p ∈ ps, W.sameAt W' p) → (∀ p ∈ ps, sp p.block = true) → DataW.TrodAll enc P W' 0 sp true ts vs ds ps
  | [], [], [], _, _, h, _, _ => h
  | t :: ts, v :: vs, d :: ds, ps, ht, ⟨p, q, h1, h2, e⟩, hs, hp => by
    subst e
    exact ⟨p, q, WideElems.Trod_stays hl (ht t (by simp)).1 (ht t (by simp)).2 h1 (fun x hx => hs x (by simp [hx])) (fun x hx => hp x (by simp [hx])),
      trodAll_stays hl (fun t h => ht t (by simp [h])) h2 (fun x hx => hs x (by simp [hx])) (fun x hx => hp x (by simp [hx])), rfl⟩
  | [], _ :: _, _, _, _, h, _, _ => h.elim
  | [], [], _ :: _, _, _, h, _, _ => h.elim
  | _ :: _, [], _, _, _, h, _, _ => h.elim
  | _ :: _, _ :: _, [], _, _, h, _, _ => h.elim

theorem law_lifted {C : Checked} {f : FuncId} {fn : Func} {spec : ChangeSpec} {tb : TypeId} {apart fresh : Bool} (os : Os) (started : os.Started) (H : Type) (enc : TypeId × Value → H) (own : ownKnob C.prog.godebug = none) (noInit : C.prog.inits.idxOf? f = none) (hfn : C.prog.funcs[f]? = some fn)
    (hvars : spec.vars = []) (hspec : ∀ ds : List (DataW H), ds.length = fn.params.size → spec.fn H ds = { results := [.lit (.bool true)], args := ds })
    (hres : fn.resultTypes = #[tb]) (hb : C.prog.underlying tb = some .bool) (hl : laidOutB C.prog = true) (hread : ∀ t ∈ fn.params.toList, C.prog.readableRec t = true ∧ t < C.prog.types.size)
    (witness : ∃ (w : World) (tape : Tape) (i : Input), w.os = os ∧ (w.forCall tape i).Shaped C.prog ∧ i.vars = [] ∧ Input.okWide C.prog (w.forCall tape i) .any w.heap.size f i ∧
      spec.pre6 enc C.prog fn [] apart (w.forCall tape i).memory i.args ∧ ({} : Assume).holds C.prog (lone (Frame.enter C.prog f i.args .normal) [] (w.forCall tape i)))
    (core : ∀ (W : World) (base : Nat) (args : Array Value) (ds : List (DataW H)) (ps : List MemPlace), (∀ (j : Nat) t v, fn.params[j]? = some t → args[j]? = some v → Value.okWide C.prog W .any base t v) →
      DataW.TrodAll enc C.prog W 0 (fun _ => true) true fn.params.toList args.toList ds ps → W.noneFrozen ps → (∀ p ∈ ps, p.block < W.heap.size) →
      Calls C.prog f args W fun e W' => e = .returned (.bool true) ∧ Below W.heap.size W W') :
    ReturnsInHanded {} C os f .any (spec.pre6 enc C.prog fn [] apart) (spec.post enc C.prog fn apart fresh false false) := by
  refine returnsInHanded_of_change (C := C) own started noInit hfn witness ?_
  intro W base args ds gs before hval hW _ _
  have hW' := hW
  have hlt := fun p hp => hW.lt p hp
  obtain ⟨p, q, hA, hV, rfl, hfz, hnd⟩ := hW
  rw [hvars] at hV
  obtain ⟨rfl, rfl⟩ := trodVars_none hV
  simp only [List.append_nil] at hW' hlt hfz
  refine (core W base args ds p hval hA hfz hlt).mono fun e W' ⟨he, hg⟩ => ?_
  subst he
  have hlen : ds.length = fn.params.size := by
    have : ∀ (ts : List TypeId) (vs : List Value) (ds : List (DataW H)) (ps : List MemPlace), DataW.TrodAll enc C.prog W 0 (fun _ => true) true ts vs ds ps → ds.length = ts.length := by
      intro ts
      induction ts with
      | nil => intro vs ds ps h; cases vs <;> cases ds <;> first | rfl | exact h.elim
      | cons t ts ih =>
        intro vs ds ps h
        cases vs <;> cases ds <;> first | exact h.elim | skip
        obtain ⟨_, _, _, h2, _⟩ := h
        simp [ih _ _ _ h2]
    simpa using this _ _ _ _ hA
  have hs := hspec (ds ++ []) (by simpa using hlen)
  refine ⟨_, rfl, ds, [], p, [], p, [], hW', ?_, ?_, ?_, hg.frame _, fun h => by cases h⟩
  · rw [hs, hres]
    exact trodAll_mk1 (shut_bool hb true)
  · rw [hs]
    simp only [List.append_nil]
    exact trodAll_stays hl hread hA (fun p hp => hg.same (hlt p hp)) (fun p hp => by simpa using hlt p hp)
  · rw [hs, hvars]; rfl
end
end Go.XM

namespace Go.XM
open Go
noncomputable section
variable {P : Program}

/-! ### Arguments whose cells are numbers, bools and strings -/
def flatCF (P : Program) (g : TypeId → Option (List CK)) : List Field → Nat → Option (List CK)
  | [], _ => some []
  | f :: r, off => bif Nat.beq f.offset off then (match g f.type with
    | some ks => bif Nat.beq (len' ks) (P.cellsOf f.type) then (match flatCF P g r (off + len' ks) with | some l => some (ks ++ l) | none => none) else none
    | none => none) else none

def flatC (P : Program) : Nat → TypeId → Option (List CK)
  | 0, _ => none
  | d + 1, t => match P.underlying t with
    | some (.int k) => some [.i k]
    | some .bool => some [.b]
    | some .string => some [.s]
    | some (.struct fs) => (match flatCF P (flatC P d) fs.toList 0 with
      | some l => bif Nat.beq (len' l) (P.cellsOf t) then some l else none
      | none => none)
    | some (.array n e) => (match flatC P d e with
      | some ks => bif Nat.beq (len' ks) (P.cellsOf e) && Nat.beq (len' (repL ks n)) (P.cellsOf t) then some (repL ks n) else none
      | none => none)
    | _ => none

def KVal : CK → Value → Prop
  | .i k, v => ∃ n, v = .int k n ∧ (Lit.int k n).wf = true
  | .b, v => ∃ b, v = .bool b
  | .s, v => ∃ s : ByteArray, v = .string s ∧ s.size ≤ maxLen

def KL : List CK → List Value → Prop
  | [], l => l = []
  | k :: ks, l => ∃ v t, l = v :: t ∧ KVal k v ∧ KL ks t

theorem KL.append : ∀ {a b : List CK} {x y : List Value}, KL a x → KL b y → KL (a ++ b) (x ++ y)
  | [], _, _, _, h, h' => by cases h; exact h'
  | _ :: _, _, _, _, ⟨v, t, e, h1, h2⟩, h' => by subst e; exact ⟨v, _, rfl, h1, KL.append h2 h'⟩

theorem KL.length : ∀ {a : List CK} {x : List Value}, KL a x → x.length = a.length
  | [], _, h => by cases h; rfl
  | _ :: _, _, ⟨v, t, e, _, h2⟩ => by subst e; simp [KL.length h2]

theorem repL_add {α : Type} (a : List α) (n : Nat) : repL a (n + 1) = a ++ repL a n := rfl

theorem flat_open {H : Type} {enc : TypeId × Value → H} {w : World} {base : Nat} {sp : Nat → Bool} {held : Bool} : ∀ (d : Nat) {t : TypeId} {ks : List CK} {fuel : Nat} {cs : List Value} {y : DataW H × List MemPlace},
    flatC P d t = some ks → DataW.trod enc P w base sp held fuel t cs = some y → KL ks cs
  | 0, t, ks, fuel, cs, y, h, _ => by simp [flatC] at h
  | d + 1, t, ks, fuel, cs, y, h, hy => by
    unfold flatC at h
    cases hu : P.underlying t with
    | none => rw [hu] at h; simp at h
    | some u =>
      rw [hu] at h
      cases u with
      | int k =>
        simp at h; subst h
        obtain ⟨n, rfl, _, hw⟩ := DataW.trod_int hu hy
        exact ⟨_, _, rfl, ⟨n, rfl, hw⟩, rfl⟩
      | bool =>
        simp at h; subst h
        obtain ⟨b, rfl, _⟩ := DataW.trod_bool hu hy
        exact ⟨_, _, rfl, ⟨b, rfl⟩, rfl⟩
      | string =>
        simp at h; subst h
        obtain ⟨s, rfl, _, hs⟩ := DataW.trod_string hu hy
        exact ⟨_, _, rfl, ⟨s, rfl, hs⟩, rfl⟩
      | struct fs =>
        simp only at h
        obtain ⟨xs, n, rfl, _, hlen, hxl, hall⟩ := DataW.trod_struct hu hy
        cases hf : flatCF P (flatC P d) fs.toList 0 with
        | none => rw [hf] at h; simp at h
        | some l =>
          rw [hf] at h
          simp only at h
          obtain ⟨hb, h⟩ := bif_some h
          simp at h; subst h
          have hb := Nat.eq_of_beq_eq_true hb
          rw [len_eq] at hb
          have key : ∀ (fl : List Field) (off : Nat) (l : List CK), flatCF P (flatC P d) fl off = some l → (∀ f ∈ fl, ∃ z, DataW.trod enc P w base sp held n f.type ((cs.drop f.offset).take (P.cellsOf f.type)) = some z) → cs.length = off + l.length → KL l (cs.drop off) := by
            intro fl
            induction fl with
            | nil =>
              intro off l h _ hl
              simp [flatCF] at h; subst h
              show cs.drop off = []
              exact List.drop_eq_nil_of_le (by simp at hl; omega)
            | cons f fl ih =>
              intro off l h hz hl
              simp only [flatCF] at h
              obtain ⟨hb, h⟩ := bif_some h
              have hb := Nat.eq_of_beq_eq_true hb
              cases hg : flatC P d f.type with
              | none => rw [hg] at h; simp at h
              | some ks =>
                rw [hg] at h
                simp only at h
                obtain ⟨hb2, h⟩ := bif_some h
                have hb2 := Nat.eq_of_beq_eq_true hb2
                rw [len_eq] at hb2 h
                cases hr : flatCF P (flatC P d) fl (off + ks.length) with
                | none => rw [hr] at h; simp at h
                | some l' =>
                  rw [hr] at h
                  simp at h; subst h
                  obtain ⟨z, hz1⟩ := hz f (by simp)
                  rw [hb, ← hb2] at hz1
                  have h1 := flat_open d hg hz1
                  have h2 := ih (off + ks.length) l' hr (fun g hg => hz g (by simp [hg])) (by simp at hl; omega)
                  have := h1.append h2
                  rwa [← List.drop_drop, List.take_append_drop] at this
          have := key fs.toList 0 l hf (fun f hf => by
            obtain ⟨i, hi, hfi⟩ := List.getElem_of_mem hf
            have hfi' : fs[i]? = some f := by rw [← hfi]; simp
            have := hall i f hfi'
            have hix : i < xs.length := by rw [hxl]; simpa using hi
            exact ⟨xs[i], by rw [this, List.getElem?_eq_getElem hix]⟩) (by omega)
          simpa using this
      | array n e =>
        simp only at h
        obtain ⟨xs, m, rfl, _, hlen, hxl, hall⟩ := DataW.trod_array hu hy
        cases hg : flatC P d e with
        | none => rw [hg] at h; simp at h
        | some ks =>
          rw [hg] at h
          simp only at h
          obtain ⟨hb, h⟩ := bif_some h
          simp only [Bool.and_eq_true] at hb
          have hb1 := Nat.eq_of_beq_eq_true hb.1
          have hb2 := Nat.eq_of_beq_eq_true hb.2
          rw [len_eq] at hb1 hb2
          simp at h; subst h
          have hrl : ∀ k, (repL ks k).length = k * ks.length := by
            intro k
            induction k with
            | zero => simp [repL]
            | succ k ih => rw [repL_add, List.length_append, ih, Nat.add_mul]; omega
          have key : ∀ k, k ≤ n → KL (repL ks k) (cs.drop ((n - k) * ks.length)) := by
            intro k
            induction k with
            | zero =>
              intro _
              show cs.drop _ = []
              refine List.drop_eq_nil_of_le ?_
              rw [hlen, ← hb2, hrl]; simp
            | succ k ih =>
              intro hk
              have h1 := hall (n - (k + 1)) (by omega)
              have hix : n - (k + 1) < xs.length := by omega
              rw [List.getElem?_eq_getElem hix, ← hb1] at h1
              have h2 := flat_open d hg h1
              have h3 := ih (by omega)
              have := h2.append h3
              rw [show (n - k) * ks.length = (n - (k + 1)) * ks.length + ks.length by rw [← Nat.succ_mul]; congr 1; omega] at this
              rwa [← List.drop_drop, List.take_append_drop] at this
          have := key n (Nat.le_refl _)
          simpa using this
      | _ => simp at h

/-- what stands in the cells, by their places. -/
structure Env where
  xi : Nat → Int
  xb : Nat → Bool
  xs : Nat → ByteArray

def kval (E : Env) (i : Nat) : CK → Value
  | .i k => .int k (E.xi i)
  | .b => .bool (E.xb i)
  | .s => .string (E.xs i)
def kav (E : Env) (i : Nat) : CK → AV
  | .i k => .int true k (E.xi i)
  | .b => .bool true (E.xb i)
  | .s => .str true (E.xs i)
def kvals (E : Env) : Nat → List CK → List Value
  | _, [] => []
  | i, k :: ks => kval E i k :: kvals E (i + 1) ks
def kavs (E : Env) : Nat → List CK → List AV
  | _, [] => []
  | i, k :: ks => kav E i k :: kavs E (i + 1) ks

/-- each fits its kind. -/
def kfits (E : Env) (i : Nat) : CK → Prop
  | .i k => (Lit.int k (E.xi i)).wf = true
  | .b => True
  | .s => (E.xs i).size ≤ maxLen
def Env.fits (E : Env) (ks : List CK) : Prop := ∀ (i : Nat) (k : CK), ks[i]? = some k → kfits E i k

theorem kav_spec {γ : Gm} (E : Env) : ∀ (ks : List CK) (i : Nat), LR γ (kavs E i ks) (kvals E i ks)
  | [], _ => rfl
  | .i _ :: ks, i => ⟨_, _, rfl, rfl, kav_spec E ks (i + 1)⟩
  | .b :: ks, i => ⟨_, _, rfl, rfl, kav_spec E ks (i + 1)⟩
  | .s :: ks, i => ⟨_, _, rfl, rfl, kav_spec E ks (i + 1)⟩

theorem KL.env {ks : List CK} {cs : List Value} (h : KL ks cs) : ∃ E : Env, cs = kvals E 0 ks ∧ E.fits ks := by
  let E : Env := ⟨fun i => match cs[i]? with | some (.int _ n) => n | _ => 0, fun i => match cs[i]? with | some (.bool b) => b | _ => false, fun i => match cs[i]? with | some (.string s) => s | _ => ⟨#[]⟩⟩
  have key : ∀ (ks : List CK) (l : List Value) (i : Nat), KL ks l → (∀ j, l[j]? = cs[i + j]?) → l = kvals E i ks ∧ ∀ (j : Nat) (k : CK), ks[j]? = some k → kfits E (i + j) k := by
    intro ks
    induction ks with
    | nil => intro l i h _; cases h; exact ⟨rfl, fun j k h => by simp at h⟩
    | cons k ks ih =>
      intro l i ⟨v, t, e, hv, ht⟩ hl
      subst e
      have h0 : cs[i]? = some v := by have := hl 0; simpa using this.symm
      obtain ⟨h1, h2⟩ := ih t (i + 1) ht (fun j => by have := hl (j + 1); simp only [List.getElem?_cons_succ] at this; rw [this]; congr 1; omega)
      constructor
      · rw [kvals, ← h1]
        congr 1
        cases k with
        | i k => obtain ⟨n, rfl, _⟩ := hv; simp [kval, E, h0]
        | b => obtain ⟨n, rfl⟩ := hv; simp [kval, E, h0]
        | s => obtain ⟨n, rfl, _⟩ := hv; simp [kval, E, h0]
      · intro j k' hj
        cases j with
        | zero =>
          simp at hj; subst hj
          cases k with
          | i k => obtain ⟨n, rfl, hw⟩ := hv; simpa [kfits, E, h0] using hw
          | b => trivial
          | s => obtain ⟨n, rfl, hw⟩ := hv; simpa [kfits, E, h0] using hw
        | succ j =>
          have := h2 j k' (by simpa using hj)
          rw [show i + (j + 1) = i + 1 + j by omega]
          exact this
  obtain ⟨h1, h2⟩ := key ks cs 0 h (fun j => by simp)
  exact ⟨E, h1, fun i k hk => by have := h2 i k hk; simpa using this⟩
end
end Go.XM

namespace Go.XM
open Go Go.RowKit
noncomputable section
variable {P : Program}
/-! ### Tables of contracts -/
abbrev Spec1 := List AV → Mem → KV → Option Prop
def noSpecs : SpecFn := fun _ _ _ _ => none
def addSpec (f0 : FuncId) (s : Spec1) (rest : SpecFn) : SpecFn := fun f args m k => match Nat.beq f f0 with
  | true => (match s args m k with
    | some Q => some Q
    | none => rest f args m k)
  | false => rest f args m k
def Spec1Ok (P : Program) (f : FuncId) (s : Spec1) : Prop := ∀ args m k Q, s args m k = some Q → Q → ∃ v m', CallA P f args m v m' ∧ k v m'
theorem noSpecs_ok : SpecsOk P noSpecs := fun _ _ _ _ _ h => by simp [noSpecs] at h
theorem addSpec_ok {f0 : FuncId} {s : Spec1} {rest : SpecFn} (hs : Spec1Ok P f0 s) (hr : SpecsOk P rest) : SpecsOk P (addSpec f0 s rest) := by
  intro f args m k Q h hQ
  unfold addSpec at h
  split at h
  · rename_i hf
    have := Nat.eq_of_beq_eq_true hf
    subst this
    split at h
    · rename_i Q' hq
      simp only [Option.some.injEq] at h; subst h
      exact hs args m k _ hq hQ
    · exact hr f args m k Q h hQ
  · exact hr f args m k Q h hQ

/-- a function of plain values that leaves memory alone, its result by its arguments. -/
def pureSpec (g : List AV → Option (AV × Prop)) : Spec1 := fun args m k => match g args with
  | some (v, pre) => some (pre ∧ k v m)
  | none => none
theorem pureSpec_ok {f : FuncId} (he : enters P f = true) {g : List AV → Option (AV × Prop)} (h : ∀ args v pre, g args = some (v, pre) → pre → ∀ m, CallsA P f args m v m) : Spec1Ok P f (pureSpec g) := by
  intro args m k Q hg hQ
  unfold pureSpec at hg
  split at hg
  · rename_i v pre hv
    simp only [Option.some.injEq] at hg; subst hg
    exact ⟨v, m, .inl ⟨he, h args v pre hv hQ.1 m⟩, hQ.2⟩
  · simp at hg

/-! ### From conditions to contracts -/
/-- a condition that holds; so nobody unfolds it. -/
structure Holds (p : Prop) : Prop where
  out : p
theorem Holds.of {p q : Prop} (e : p = q) (h : q) : Holds p := ⟨e.mpr h⟩

def orL (e : Prop) : List Prop → Prop
  | [] => e
  | p :: l => (match l with
    | [] => p
    | _ :: _ => p ∨ orL e l)
theorem orL_spec {e : Prop} (he : ¬ e) : ∀ {l : List Prop}, orL e l → ∃ p ∈ l, p
  | [], h => (he h).elim
  | [p], h => ⟨p, by simp, h⟩
  | p :: q :: l, h => by
    rcases (show p ∨ orL e (q :: l) from h) with h | h
    · exact ⟨p, by simp, h⟩
    · obtain ⟨x, hx, h⟩ := orL_spec he h
      exact ⟨x, by simp [hx], h⟩

def fitsX (fs : List Bool) (v : AV) (m : Mem) : Alts → List Prop
  | [] => []
  | (c, V, L) :: l => (match shapeV fs v m V L with
    | some o => (c ∧ allF o True) :: fitsX fs v m l
    | none => fitsX fs v m l)
/-- a result, read as one of the ends of a contract. -/
def postX (fs : List Bool) (l : Alts) : KV := fun v m => orL False (fitsX fs v m l)

theorem fitsX_mem {fs : List Bool} {v : AV} {m : Mem} {p : Prop} : ∀ {l : Alts}, p ∈ fitsX fs v m l → p → ∃ c V L, (c, V, L) ∈ l ∧ c ∧ ReshV fs v m V L
  | [], h, _ => by simp [fitsX] at h
  | (c, V, L) :: l, h, hp => by
    simp only [fitsX] at h
    split at h
    · rename_i o ho
      rcases List.mem_cons.1 h with rfl | h
      · exact ⟨c, V, L, by simp, hp.1, by unfold ReshV; rw [ho]; exact hp.2⟩
      · obtain ⟨c', V', L', h1, h2⟩ := fitsX_mem h hp
        exact ⟨c', V', L', by simp [h1], h2⟩
    · obtain ⟨c', V', L', h1, h2⟩ := fitsX_mem h hp
      exact ⟨c', V', L', by simp [h1], h2⟩

theorem callX_of {call : CallV} (hcall : CallVOk P call) {loops : LoopFn} (hlp : LoopsOk P loops) (hmix : P.follows .mixedOrders = true) {fs : List Bool} {f : FuncId} {args : List AV} {m : Mem} {l : Alts} (hf : fs.length ≤ m.length)
    (h : Holds (vBody P call loops f args m (postX fs l))) : CallX P fs f args m l := by
  obtain ⟨v, m', h1, h2⟩ := vBody_ok hcall hlp hmix h.out
  obtain ⟨p, hp, hpp⟩ := orL_spec (fun h => h) h2
  obtain ⟨c, V, L, h3, h4, h5⟩ := fitsX_mem hp hpp
  exact ⟨c, V, L, h3, h4, h5.call (h1.toR hf)⟩

/-- a contract by its layouts. -/
theorem spec_of {f : FuncId} (he : enters P f = true) {s : Spec1} (h : ∀ args m k Q, s args m k = some Q → ∃ fs A L pre alts, useCall fs A L pre alts args m k = some Q ∧ (pre → CallX P fs f A L alts)) : Spec1Ok P f s := by
  intro args m k Q hs hQ
  obtain ⟨fs, A, L, pre, alts, h1, h2⟩ := h args m k Q hs
  exact useCall_ok he h2 h1 hQ

/-- a round's end: at the next layout, or as the whole is to end. -/
theorem codeR_of {call : CallV} (hcall : CallVOk P call) {N : Nat} {D : List Code} {lp : Nat → Code → Regs → Mem → KC → Option Prop} (hlp : LpOk P N D lp) (hmix : P.follows .mixedOrders = true) {fs : List Bool} {n : Nat} {c : Code} {r : Regs} {m : Mem} {k : KC} (hD : ∀ x ∈ loopsIn c, x ∈ D) (hf : fs.length ≤ m.length)
    (h : Holds (vCode P call lp N n c r m k)) : ∃ e r' m', CodeR P fs N c r m e r' m' ∧ k e r' m' := by
  obtain ⟨e, r', m', h1, h2⟩ := vCode_ok hcall hlp hmix n hD h.out
  exact ⟨e, r', m', h1.toR hf, h2⟩

theorem law_of {call : CallV} (hcall : CallVOk P call) {loops : LoopFn} (hlp : LoopsOk P loops) (hmix : P.follows .mixedOrders = true) {f : FuncId} {args : List AV} {m : Mem} (h : Holds (vBody P call loops f args m isTrue)) (hro : ∀ e ∈ m, e.rw = false) {γ : Gm} {w : World} {Vs : List Value} (hm : ∀ H, m.length ≤ H → MemOk H γ m w) (hV : LR γ args Vs) :
    Calls P f Vs.toArray w fun e w' => e = .returned (.bool true) ∧ Below w.heap.size w w' := law_calls hcall hlp hmix h.out hro hm hV

abbrev Loop1 := Regs → Mem → KC → Option Prop
/-- a loop's name within its function: the first slot that its text writes. -/
def firstDst : Code → Option Nat
  | .region _ ops _ => firstOp ops.toList
  | .seq a b => (match firstDst a with | some t => some t | none => firstDst b)
  | .cond _ a b => (match firstDst a with | some t => some t | none => firstDst b)
  | .block _ c => firstDst c
  | .loop c => firstDst c
  | _ => none
where firstOp : List Oper → Option Nat
  | [] => none
  | o :: l => (match o.dst with | some t => some t | none => firstOp l)

def noLoops : LoopFn := fun _ _ _ _ _ _ => none

/-! ### Tables of loops -/
def addLoop (f0 t0 : Nat) (s : Loop1) (rest : LoopFn) : LoopFn := fun f N c r m k => match Nat.beq f f0 with
  | true => (match firstDst c with
    | some t => (match Nat.beq t t0 with
      | true => (match s r m k with
        | some Q => some Q
        | none => rest f N c r m k)
      | false => rest f N c r m k)
    | none => rest f N c r m k)
  | false => rest f N c r m k
/-- the loops of a function whose name is t. -/
def named (t : Nat) : List Code → List Code
  | [] => []
  | c :: l => (match firstDst c with
    | some u => (match Nat.beq u t with
      | true => c :: named t l
      | false => named t l)
    | none => named t l)
def bodyOf (P : Program) (f : Nat) : Code := match P.funcs[f]? with
  | some fn => (match fn.body with | some c => c | none => .skip)
  | none => .skip
def loopN (P : Program) (f : Nat) : Nat := match P.funcs[f]? with
  | some fn => fn.ntmps
  | none => 0
def loopAt (P : Program) (f t : Nat) : Code := match named t (loopsIn (bodyOf P f)) with
  | c :: _ => c
  | [] => .skip
def soleLoop (P : Program) (f t : Nat) : Bool := match named t (loopsIn (bodyOf P f)) with
  | [_] => true
  | _ => false
theorem named_mem {t : Nat} {c : Code} (ht : firstDst c = some t) : ∀ {l : List Code}, c ∈ l → c ∈ named t l
  | [], h => by simp at h
  | x :: l, h => by
    simp only [named]
    rcases List.mem_cons.1 h with rfl | h
    · rw [ht]; simp
    · split
      · split
        · exact List.mem_cons_of_mem _ (named_mem ht h)
        · exact named_mem ht h
      · exact named_mem ht h
theorem named_sub {t : Nat} {c : Code} : ∀ {l : List Code}, c ∈ named t l → c ∈ l
  | [], h => by simp [named] at h
  | x :: l, h => by
    simp only [named] at h
    split at h
    · split at h
      · rcases List.mem_cons.1 h with rfl | h
        · simp
        · exact List.mem_cons_of_mem _ (named_sub h)
      · exact List.mem_cons_of_mem _ (named_sub h)
    · exact List.mem_cons_of_mem _ (named_sub h)
def Loop1Ok (P : Program) (f t : Nat) (s : Loop1) : Prop := ∀ r m k Q, s r m k = some Q → Q → ∃ e r' m', CodeA P (loopN P f) (.loop (loopAt P f t)) r m e r' m' ∧ k e r' m'
theorem noLoops_ok (P : Program) : LoopsOk P noLoops := fun _ _ _ _ _ _ _ _ _ _ _ h => by simp [noLoops] at h
theorem addLoop_ok {f0 t0 : Nat} {s : Loop1} {rest : LoopFn} (hsole : soleLoop P f0 t0 = true) (hs : Loop1Ok P f0 t0 s) (hr : LoopsOk P rest) : LoopsOk P (addLoop f0 t0 s rest) := by
  intro f fn body hf hb c hc r m k Q h hQ
  have other := fun h => hr f fn body hf hb c hc r m k Q h hQ
  unfold addLoop at h
  split at h
  · rename_i hff
    have := Nat.eq_of_beq_eq_true hff; subst this
    split at h
    · rename_i t ht
      split at h
      · rename_i htt
        have := Nat.eq_of_beq_eq_true htt; subst this
        split at h
        · rename_i Q' hq
          simp only [Option.some.injEq] at h; subst h
          have hB : bodyOf P f = body := by unfold bodyOf; rw [hf]; simp only [hb]
          have hN : loopN P f = fn.ntmps := by unfold loopN; rw [hf]
          have hc' : loopAt P f t = c := by
            have hm := named_mem ht hc
            unfold soleLoop at hsole
            unfold loopAt
            rw [hB] at hsole ⊢
            split at hsole
            · rename_i x hx
              rw [hx] at hm ⊢
              simp at hm; exact hm.symm
            · cases hsole
          have := hs r m k _ hq hQ
          rw [hc', hN] at this
          exact this
        · exact other h
      · exact other h
    · exact other h
  · exact other h

/-- a round of a loop: at the next layout (one of those named), or as the whole is to end. -/
theorem round_of {call : CallV} (hcall : CallVOk P call) {loops : LoopFn} (hlp : LoopsOk P loops) (hmix : P.follows .mixedOrders = true) {fs : List Bool} {f t : Nat} {r : Regs} {m : Mem} {k : KC} (hf : fs.length ≤ m.length) (hsole : soleLoop P f t = true)
    (h : Holds (vCode P call (loops f) (loopN P f) 1000 (loopAt P f t) r m k)) : ∃ e r' m', CodeR P fs (loopN P f) (loopAt P f t) r m e r' m' ∧ k e r' m' := by
  have sole : ∃ fn body, P.funcs[f]? = some fn ∧ fn.body = some body := by
    unfold soleLoop bodyOf at hsole
    cases hfn : P.funcs[f]? with
    | none => rw [hfn] at hsole; simp [loopsIn, named] at hsole
    | some fn =>
      rw [hfn] at hsole
      cases hb : fn.body with
      | none => simp only [hb] at hsole; simp [loopsIn, named] at hsole
      | some body => exact ⟨fn, body, rfl, hb⟩
  obtain ⟨fn, body, hfn, hb⟩ := sole
  have hB : bodyOf P f = body := by unfold bodyOf; rw [hfn]; simp only [hb]
  have hN : loopN P f = fn.ntmps := by unfold loopN; rw [hfn]
  have hl := hlp f fn body hfn hb
  rw [← hN] at hl
  refine codeR_of hcall hl hmix ?_ hf h
  have hin : loopAt P f t ∈ loopsIn body := by
    unfold soleLoop at hsole
    rw [hB] at hsole
    unfold loopAt
    rw [hB]
    split at hsole
    · rename_i x hx
      rw [hx]
      exact named_sub (t := t) (by rw [hx]; simp)
    · cases hsole
  exact fun x hx => loopsIn_sub hx hin
end
end Go.XM

namespace Go.XM
open Go
noncomputable section
variable {P : Program}
/-! ### Loops by layouts -/
def exEq : Ex → Ex → Bool
  | .normal, .normal => true
  | .ret, .ret => true
  | .exit i, .exit j => Nat.beq i j
  | _, _ => false
theorem exEq_eq {a b : Ex} (h : exEq a b = true) : a = b := by
  cases a <;> cases b <;> simp [exEq] at h <;> simp_all
def fitsL (fs : List Bool) (e : Ex) (r : Regs) (m : Mem) : LAlts → List Prop
  | [] => []
  | (q, e', R, L) :: l => (match exEq e e' with
    | true => (match shapeR fs r m R L with
      | some o => (q ∧ allF o True) :: fitsL fs e r m l
      | none => fitsL fs e r m l)
    | false => fitsL fs e r m l)
/-- a round's end, read as one of those named. -/
def postL (fs : List Bool) (l : LAlts) : KC := fun e r m => orL False (fitsL fs e r m l)
theorem fitsL_mem {fs : List Bool} {e : Ex} {r : Regs} {m : Mem} {p : Prop} : ∀ {l : LAlts}, p ∈ fitsL fs e r m l → p → ∃ q R L, (q, e, R, L) ∈ l ∧ q ∧ ReshR fs r m R L
  | [], h, _ => by simp [fitsL] at h
  | (q, e', R, L) :: l, h, hp => by
    have rest : p ∈ fitsL fs e r m l → ∃ q' R' L', (q', e, R', L') ∈ (q, e', R, L) :: l ∧ q' ∧ ReshR fs r m R' L' := fun h => by
      obtain ⟨q', R', L', h1, h2⟩ := fitsL_mem h hp
      exact ⟨q', R', L', by simp [h1], h2⟩
    simp only [fitsL] at h
    split at h
    · rename_i he
      have := exEq_eq he; subst this
      split at h
      · rename_i o ho
        rcases List.mem_cons.1 h with rfl | h
        · exact ⟨q, R, L, by simp, hp.1, by unfold ReshR; rw [ho]; exact hp.2⟩
        · exact rest h
      · exact rest h
    · exact rest h

/-- a round, to one of the ends named. -/
theorem round_alts {call : CallV} (hcall : CallVOk P call) {loops : LoopFn} (hlp : LoopsOk P loops) (hmix : P.follows .mixedOrders = true) {fs : List Bool} {f t : Nat} {r : Regs} {m : Mem} {l : LAlts} (hf : fs.length ≤ m.length) (hsole : soleLoop P f t = true)
    (h : Holds (vCode P call (loops f) (loopN P f) 1000 (loopAt P f t) r m (postL fs l))) : ∃ q e R L, (q, e, R, L) ∈ l ∧ q ∧ CodeR P fs (loopN P f) (loopAt P f t) r m e R L := by
  obtain ⟨e, r', m', h1, h2⟩ := round_of hcall hlp hmix hf hsole h
  obtain ⟨p, hp, hpp⟩ := orL_spec (fun h => h) h2
  obtain ⟨q, R, L, h3, h4, h5⟩ := fitsL_mem hp hpp
  exact ⟨q, e, R, L, h3, h4, h5.code h1⟩

theorem loopX_rule {α : Type} {fs : List Bool} {N : Nat} {c : Code} (R : α → Regs) (L : α → Mem) (Inv : α → Prop) (μ : α → Nat) (alts : α → LAlts)
    (step : ∀ p, Inv p → (∃ p', Inv p' ∧ μ p' < μ p ∧ CodeR P fs N c (R p) (L p) .normal (R p') (L p') ∧ ∀ q e r m, (q, e, r, m) ∈ alts p' → q → ∃ q', (q', e, r, m) ∈ alts p ∧ q') ∨ (∃ q e r m, e ≠ .normal ∧ CodeR P fs N c (R p) (L p) e r m ∧ (q, e, r, m) ∈ alts p ∧ q)) :
    ∀ p, Inv p → LoopX P fs N c (R p) (L p) (alts p) := by
  have key : ∀ n p, μ p ≤ n → Inv p → LoopX P fs N c (R p) (L p) (alts p) := by
    have last : ∀ p, (∃ q e r m, e ≠ .normal ∧ CodeR P fs N c (R p) (L p) e r m ∧ (q, e, r, m) ∈ alts p ∧ q) → LoopX P fs N c (R p) (L p) (alts p) := by
      rintro p ⟨q, e, r, m, hne, ⟨hf, B, h⟩, hmem, hq⟩
      refine ⟨q, e, r, m, hmem, hq, hf, B, fun H γ a w Q hH hr hm hq => LoopW.step (fun _ _ => False) (fun _ _ h => h.elim) (wp_of_wpN (h H γ a w _ hH hr hm fun γ' a' w' hr' hm' hs' => ?_))⟩
      have := hq γ' a' w' hr' hm' hs'
      cases e with
      | normal => exact absurd rfl hne
      | ret => exact this
      | exit id => exact this
    intro n
    induction n with
    | zero =>
      intro p hn hp
      rcases step p hp with ⟨p', _, hlt, _⟩ | h
      · omega
      · exact last p h
    | succ n ih =>
      intro p hn hp
      rcases step p hp with ⟨p', hp', hlt, ⟨_, B, h⟩, hmono⟩ | h
      · obtain ⟨q, e2, r2, m2, hmem, hq, hf2, B2, h2⟩ := ih p' (by omega) hp'
        obtain ⟨q', hmem', hq'⟩ := hmono _ _ _ _ hmem hq
        refine ⟨q', e2, r2, m2, hmem', hq', hf2, max B B2, fun H γ a w Q hH hr hm hq => LoopW.step (LoopW P c Q) (fun _ _ h => h) (wp_of_wpN (h H γ a w _ (by omega) hr hm fun γ' a' w' hr' hm' hs' => ?_))⟩
        exact h2 H γ' a' w' Q (by omega) hr' hm' fun γ2 a2 w2 hr2 hm2 hs2 => hq γ2 a2 w2 hr2 hm2 (hs'.trans hs2)
      · exact last p h
  exact fun p hp => key (μ p) p (Nat.le_refl _) hp

theorem loop1_of {f t : Nat} {s : Loop1} (h : ∀ r m k Q, s r m k = some Q → ∃ fs R L pre alts, useLoop fs R L pre alts r m k = some Q ∧ (pre → LoopX P fs (loopN P f) (loopAt P f t) R L alts)) : Loop1Ok P f t s := by
  intro r m k Q hs hQ
  obtain ⟨fs, R, L, pre, alts, h1, h2⟩ := h r m k Q hs
  exact useLoop_ok h2 h1 hQ
end
end Go.XM

namespace Go.XM
open Go Go.RowKit
open Go.ChangeShapes Go.WideShapes Go.ChangeAt
noncomputable section
variable {P : Program}
/-! ### A slice of plain elements, as an argument -/

theorem rowAt_off {fits : TypeId → Bool} : ∀ {d : Nat} {e : TypeId} {count off n : Nat}, rowAt P fits d e count off n = true → off ≤ count * P.cellsOf e
  | 0, _, _, _, _, h => by simp [rowAt] at h
  | d + 1, e, count, off, n, h => by
    simp only [rowAt] at h
    split at h
    · simp at h
    · rename_i hs
      have hs : 0 < P.cellsOf e := by omega
      have hdiv := Nat.div_add_mod off (P.cellsOf e)
      simp only [Bool.or_eq_true, Bool.and_eq_true, decide_eq_true_eq, beq_iff_eq] at h
      rcases h with ⟨⟨h1, h2⟩, _⟩ | ⟨h1, _⟩
      · have : off / P.cellsOf e * P.cellsOf e ≤ count * P.cellsOf e := Nat.mul_le_mul_right _ (by omega)
        rw [Nat.mul_comm] at this
        omega
      · have : (off / P.cellsOf e + 1) * P.cellsOf e ≤ count * P.cellsOf e := Nat.mul_le_mul_right _ (by omega)
        rw [Nat.add_mul, Nat.one_mul, Nat.mul_comm (off / P.cellsOf e)] at this
        have := Nat.mod_lt off hs
        omega
theorem liesAt_le : ∀ {d : Nat} {e : TypeId} {count off : Nat} {u : TypeId} {n : Nat}, liesAt P d e count off u n = true → off ≤ count * P.cellsOf e
  | 0, _, _, _, _, _, h => by simp [liesAt] at h
  | d + 1, e, count, off, u, n, h => by
    simp only [liesAt, Bool.or_eq_true] at h
    rcases h with h | h
    · exact rowAt_off h
    · split at h
      · exact liesAt_le h
      · simp at h

theorem kcells_kavs (E : Env) : ∀ (ks : List CK) (pre : List AV) (i : Nat), kcells (pre ++ kavs E i ks) pre.length ks = kavs E i ks
  | [], _, _ => rfl
  | k :: ks, pre, i => by
    have h := kcells_kavs E ks (pre ++ [kav E i k]) (i + 1)
    simp only [List.length_append, List.length_singleton, List.append_assoc, List.singleton_append] at h
    simp only [kcells, kavs]
    rw [h]
    congr 1
    rw [nthA_eq]
    simp only [List.getD_eq_getElem?_getD]
    rw [List.getElem?_append_right (Nat.le_refl _), Nat.sub_self]
    cases k <;> rfl
theorem kavs_len (E : Env) : ∀ (ks : List CK) (i : Nat), (kavs E i ks).length = ks.length
  | [], _ => rfl
  | _ :: ks, i => by simp [kavs, kavs_len E ks]
theorem kvals_len (E : Env) : ∀ (ks : List CK) (i : Nat), (kvals E i ks).length = ks.length
  | [], _ => rfl
  | _ :: ks, i => by simp [kvals, kvals_len E ks]
theorem kvals_one (E : Env) : ∀ (ks : List CK) (i : Nat), ∀ u ∈ kvals E i ks, u.oneCell' = true
  | [], _, _, h => by simp [kvals] at h
  | k :: ks, i, u, h => by
    simp only [kvals, List.mem_cons] at h
    rcases h with rfl | h
    · cases k <;> rfl
    · exact kvals_one E ks _ u h

/-- the cells of n elements. -/
theorem chunks {α : Type} (sz : Nat) (f : Nat → List α) : ∀ (n : Nat) (l : List α), (∀ i, i < n → f i = (l.drop (i * sz)).take sz) → (List.range n).flatMap f = l.take (n * sz)
  | 0, l, _ => by simp
  | n + 1, l, h => by
    rw [List.range_succ, List.flatMap_append, chunks sz f n l (fun i hi => h i (by omega))]
    simp only [List.flatMap_cons, List.flatMap_nil, List.append_nil]
    rw [h n (by omega), Nat.add_mul, Nat.one_mul, List.take_add]

/-- what an argument that is a slice of plain elements comes to. -/
structure SliceArg (W : World) (ks : List CK) (v : Value) (len : Nat) (g : Option G) (T : TypeId) (xs : List (List AV)) : Prop where
  ent : ∀ (γ : Gm) id, γ id = g → EntOk γ W id (.row T true (some ks) ks.length xs)
  val : ∀ (γ : Gm) id, γ id = g → VR γ (.sl .n id 0 len) v
  dom : ∀ g', g = some g' → g'.b < W.heap.size
  len : len ≤ xs.length
  els : ∀ i, i < xs.length → ∃ E : Env, nthE xs i = kavs E 0 ks ∧ E.fits ks

theorem lr_flat {γ : Gm} (ks : List CK) (E : Nat → Env) : ∀ l : List Nat, LR γ (l.map fun i => kavs (E i) 0 ks).flatten (l.flatMap fun i => kvals (E i) 0 ks)
  | [] => rfl
  | i :: l => by
    simp only [List.map_cons, List.flatten_cons, List.flatMap_cons]
    exact (kav_spec (E i) ks 0).append (lr_flat ks E l)

theorem sum_same (s : Nat) : ∀ l : List Nat, (l.map fun _ => s).sum = l.length * s
  | [] => by simp
  | _ :: l => by simp only [List.map_cons, List.sum_cons, sum_same s l, List.length_cons, Nat.add_mul]; omega
theorem nthE_map {f : Nat → List AV} {n i : Nat} (h : i < n) : nthE ((List.range n).map f) i = f i := by
  have key : ∀ (l : List (List AV)) (i : Nat) (x : List AV), l[i]? = some x → nthE l i = x := by
    intro l
    induction l with
    | nil => intro i x h; simp at h
    | cons a l ih =>
      intro i x h
      cases i with
      | zero => simp at h; subst h; rfl
      | succ i => exact ih i x (by simpa using h)
  exact key _ i _ (by simp [h])

theorem open_flat_slice {H : Type} {enc : TypeId × Value → H} {W : World} {base : Nat} {r : Reach} {t e : TypeId} {ks : List CK} {v : Value} {d : DataW H} {ps : List MemPlace} (ht : P.underlying t = some (.slice e)) (hf : flatC P 10 e = some ks) (hk : P.cellsOf e = ks.length) (hpos : 0 < ks.length) (hv : Value.okWide P W r base t v)
    (h : ∃ fuel, DataW.trod enc P W 0 (fun _ => true) true fuel t [v] = some (d, ps)) : ∃ len g T xs, SliceArg W ks v len g T xs := by
  have hv' := hv
  simp only [Value.okWide, ht, Cell.okWide] at hv'
  obtain ⟨a0, len, cap, rfl⟩ := okWide_slice ht hv
  obtain ⟨fuel, h⟩ := h
  rcases Go.Deep.open_slice ht h with ⟨h1, _⟩ | ⟨a, len', cap', m, n, D, Pl, hcs, _, hl, hm, hmm, _, hel⟩
  · simp only [List.cons.injEq, and_true] at h1
    cases h1
    refine ⟨0, none, 0, [], ⟨fun γ id hg => ⟨hpos, fun ks' e => ?_, .inl ⟨rfl, rfl, hg⟩⟩, fun γ id _ => .inr ⟨rfl, rfl, rfl, none, rfl, fun _ => rfl⟩, fun _ h => by simp at h, Nat.le_refl _, fun i hi => by simp at hi⟩⟩
    simp only [Option.some.injEq] at e; subst e
    exact ⟨rfl, fun x hx => by simp at hx⟩
  · simp only [List.cons.injEq, and_true, Value.slice.injEq] at hcs
    obtain ⟨rfl, rfl, rfl⟩ := hcs
    simp only [if_true] at hmm
    subst hmm
    simp only [Cell.ok, ht] at hv'
    obtain ⟨_, _, _, hspot, row, cells, hsh, hlies⟩ := hv'
    obtain ⟨b, off, spot⟩ := a
    simp only at hspot hsh hlies
    subst hspot
    -- the block
    have hblock : ∃ (arr : Array Value) (fr : Nat × Nat), W.heap[b]? = some (.cells arr row fr) ∧ arr.size = cells := by
      unfold World.shape? at hsh
      split at hsh
      · rename_i c el fr hc
        simp only [Option.some.injEq, Prod.mk.injEq] at hsh
        obtain ⟨rfl, rfl⟩ := hsh
        exact ⟨_, _, hc, rfl⟩
      · simp at hsh
    obtain ⟨arr, fr, hw, hsz⟩ := hblock
    have hoff : off ≤ arr.size := by
      have := liesAt_le hlies
      have := Nat.div_mul_le_self cells (P.cellsOf row)
      omega
    -- the elements
    have hcell : ∀ i, W.cell? ((⟨b, off, none⟩ : Addr).add i) = arr.toList[off + i]? := by
      intro i
      unfold Addr.add
      by_cases hi : i = 0
      · subst hi; simp [World.cell?, hw]
      · simp [World.cell?, hw, hi]
    have hE : ∀ i, i < m → ∃ E : Env, kvals E 0 ks = (((arr.toList.drop off).drop (i * ks.length)).take ks.length) ∧ E.fits ks := by
      intro i hi
      obtain ⟨cs', h1, h2⟩ := hel i hi
      obtain ⟨E, hE, hfit⟩ := (flat_open 10 hf h2).env
      refine ⟨E, ?_, hfit⟩
      rw [← hE]
      obtain ⟨_, h3, h4⟩ := World.cells?_some h1
      rw [hk] at h3 h4
      apply List.ext_getElem?
      intro j
      rcases Nat.lt_or_ge j ks.length with hj | hj
      · have := h4 j hj
        rw [Go.Deep.add_add, hcell] at this
        rw [← this, List.getElem?_take_of_lt hj, List.getElem?_drop, List.getElem?_drop]
      · rw [List.getElem?_eq_none (by omega), List.getElem?_eq_none (by rw [List.length_take]; omega)]
    haveI : Inhabited Env := ⟨⟨fun _ => 0, fun _ => false, fun _ => ⟨#[]⟩⟩⟩
    obtain ⟨E, hE⟩ := Go.Deep.choose_lt hE
    have hvs : (List.range m).flatMap (fun i => kvals (E i) 0 ks) = (arr.toList.drop off).take (m * ks.length) := chunks ks.length _ m _ fun i hi => (hE i hi).1
    have hlen : ((List.range m).flatMap (fun i => kvals (E i) 0 ks)).length = m * ks.length := by
      rw [List.length_flatMap]
      simp only [kvals_len, sum_same, List.length_range]
    refine ⟨len, some ⟨b, off, m, ks.length⟩, row, (List.range m).map fun i => kavs (E i) 0 ks, ⟨fun γ id hg => ⟨hpos, fun ks' e => ?_, .inr ⟨_, arr.toList.take off, (List.range m).flatMap (fun i => kvals (E i) 0 ks), (arr.toList.drop off).drop (m * ks.length), fr, hg, rfl, hpos, ?_, lr_flat ks E _, ?_, ?_, ?_, fun h => by simp at h, ?_⟩⟩, fun γ id hg => .inl ⟨_, off, hg, rfl, by show 0 + len ≤ m; omega, fun _ => by simp, fun _ => rfl⟩, fun g' e => ?_, by simp; omega, fun i hi => ?_⟩⟩
    · simp only [Option.some.injEq] at e; subst e
      refine ⟨rfl, fun x hx => ?_⟩
      obtain ⟨i, _, rfl⟩ := List.mem_map.1 hx
      exact (kcells_kavs (E i) ks [] 0).symm
    · simp; omega
    · intro x hx
      obtain ⟨i, _, rfl⟩ := List.mem_map.1 hx
      exact kavs_len _ _ _
    · intro u hu
      obtain ⟨i, _, h⟩ := List.mem_flatMap.1 hu
      exact kvals_one _ _ _ u h
    · rw [hvs, hw, List.append_assoc, List.take_append_drop, List.take_append_drop]
    · simp only [hlen]; omega
    · cases e
      exact (Array.getElem?_eq_some_iff.1 hw).1
    · simp only [List.length_map, List.length_range] at hi
      exact ⟨E i, nthE_map hi, (hE i hi).2⟩
/-- memory that is only read. -/
theorem memOk_ro {H : Nat} {γ : Gm} {m : Mem} {W : World} (he : ∀ id e, m[id]? = some e → EntOk γ W id e) (hd : ∀ id g, γ id = some g → id < m.length ∧ g.b < W.heap.size) (hro : ∀ e ∈ m, e.rw = false) : MemOk H γ m W :=
  ⟨he, fun id g hg => ⟨.inl (hd id g hg).1, (hd id g hg).2⟩, fun i j ei ej gi gj _ hi _ h => by
    rw [hro ei (List.mem_of_getElem? hi)] at h
    cases h⟩
def gOne (g : Option G) : Gm := fun id => match id with
  | 0 => g
  | _ => none
def gTwo (g h : Option G) : Gm := fun id => match id with
  | 0 => g
  | 1 => h
  | _ => none
theorem memOk_one {H : Nat} {W : World} {ks : List CK} {v : Value} {len : Nat} {g : Option G} {T : TypeId} {xs : List (List AV)} (h : SliceArg W ks v len g T xs) : MemOk H (gOne g) [.row T true (some ks) ks.length xs] W :=
  memOk_ro (fun id e hi => by
      cases id with
      | zero => simp at hi; subst hi; exact h.ent _ 0 rfl
      | succ id => simp at hi)
    (fun id g' hg => by
      cases id with
      | zero => exact ⟨by simp, h.dom g' hg⟩
      | succ id => cases hg)
    (fun e hi => by simp at hi; subst hi; rfl)
theorem memOk_two {H : Nat} {W : World} {ks ks2 : List CK} {v v2 : Value} {len len2 : Nat} {g g2 : Option G} {T T2 : TypeId} {xs xs2 : List (List AV)} (h : SliceArg W ks v len g T xs) (h2 : SliceArg W ks2 v2 len2 g2 T2 xs2) : MemOk H (gTwo g g2) [.row T true (some ks) ks.length xs, .row T2 true (some ks2) ks2.length xs2] W :=
  memOk_ro (fun id e hi => by
      match id, hi with
      | 0, hi => simp at hi; subst hi; exact h.ent _ 0 rfl
      | 1, hi => simp at hi; subst hi; exact h2.ent _ 1 rfl
      | id + 2, hi => simp at hi)
    (fun id g' hg => by
      match id, hg with
      | 0, hg => exact ⟨by simp, h.dom g' hg⟩
      | 1, hg => exact ⟨by simp, h2.dom g' hg⟩
      | id + 2, hg => cases hg)
    (fun e hi => by simp at hi; rcases hi with rfl | rfl <;> rfl)
end
end Go.XM

