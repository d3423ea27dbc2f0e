/-
  From a symbolic run to the row of a law; loops by their rounds. For whatever program; the conditions stand in each statement.
-/
import Derived.Test.YthhncnifpahgdaaXmC
import Derived.ProofKit
import Derived.Below
import Derived.Carry
import Derived.OpenShut
namespace Go.XM
open Go Go.RowKit
section
variable {P : Program}

mutual
/-- no entry of memory is named. -/
def pureV : AV → Bool
  | .ptr _ _ => false
  | .eptr _ _ _ => false
  | .sl _ _ _ _ => false
  | .e0 _ => false
  | .agg cs => pureL cs
  | .tup vs => pureL vs
  | .fn _ a b => pureL a && pureL b
  | .iface _ v => pureV v
  | .int _ _ _ => true
  | .bool _ _ => true
  | .str _ _ => true
  | .nilp => true
  | .nils => true
  | .nilfn => true
  | .nilif => true
  | .raw _ => true
def pureL : List AV → Bool
  | [] => true
  | a :: l => pureV a && pureL l
end

mutual
theorem VR.pure {γ γ' : Gm} : ∀ {v : AV} {V : Value}, pureV v = true → VR γ v V → VR γ' v V
  | .int .., _, _, r => r
  | .bool .., _, _, r => r
  | .str .., _, _, r => r
  | .nilp, _, _, r => r
  | .nils, _, _, r => r
  | .nilfn, _, _, r => r
  | .nilif, _, _, r => r
  | .ptr .., _, h, _ => by simp [pureV] at h
  | .eptr .., _, h, _ => by simp [pureV] at h
  | .sl .., _, h, _ => by simp [pureV] at h
  | .e0 .., _, h, _ => by simp [pureV] at h
  | .agg _, _, h, ⟨l, e, r⟩ => ⟨l, e, LR.pure (by simpa [pureV] using h) r⟩
  | .tup _, _, h, ⟨l, e, r⟩ => ⟨l, e, LR.pure (by simpa [pureV] using h) r⟩
  | .fn _ _ _, _, h, ⟨a, b, e, r, r'⟩ => by
    simp only [pureV, Bool.and_eq_true] at h
    exact ⟨a, b, e, LR.pure h.1 r, LR.pure h.2 r'⟩
  | .iface _ _, _, h, ⟨x, e, r⟩ => ⟨x, e, VR.pure (by simpa [pureV] using h) r⟩
  | .raw _, _, _, r => r
theorem LR.pure {γ γ' : Gm} : ∀ {v : List AV} {V : List Value}, pureL v = true → LR γ v V → LR γ' v V
  | [], _, _, r => r
  | _ :: _, _, h, ⟨v, t, e, r, r'⟩ => by
    simp only [pureL, Bool.and_eq_true] at h
    exact ⟨v, t, e, VR.pure h.1 r, LR.pure h.2 r'⟩
end

def noG : Gm := fun _ => none

theorem memOk_nil (H : Nat) (w : World) : MemOk H noG [] w :=
  ⟨fun id e h => by simp at h, fun id g h => by simp [noG] at h, fun i j ei ej gi gj _ h => by simp at h⟩

theorem foot_none {γ : Gm} {m : Mem} (h : ∀ e ∈ m, e.rw = false) (b : Nat) : ¬ Foot γ m b := by
  rintro ⟨id, e, g, h1, h2, _⟩
  rw [h e (List.mem_of_getElem? h1)] at h2
  simp at h2

/-- A call of plain values with a plain answer leaves memory as it was. -/
theorem CallsA.frame0 {f : FuncId} {args : List AV} {v : AV} {m' : Mem} (h : CallsA P f args [] v m') (ha : pureL args = true) (hv : pureV v = true) (m : Mem) : CallsA P f args m v m := by
  refine ⟨Nat.le_refl _, fun H γ w Vs hH hm hV => ?_⟩
  refine Calls.mono (h.2 m'.length noG w Vs (Nat.le_refl _) (memOk_nil _ w) (hV.pure ha)) ?_
  rintro e w' ⟨V, γ', rfl, hvV, hm', hsf⟩
  have hkeep : ∀ k, k < w.heap.size → w'.heap[k]? = w.heap[k]? := fun k hk => hsf.keep k hk (foot_none (by simp) k)
  refine ⟨V, γ, rfl, hvV.pure hv, ⟨fun id e he => (hm.ent id e he).of_heap fun g hg => hkeep _ (hm.dom id g hg).2, fun id g hg => ⟨(hm.dom id g hg).1, Nat.lt_of_lt_of_le (hm.dom id g hg).2 hsf.size⟩, hm.sep⟩, ⟨Gm.le_refl _, hsf.os, hsf.tape, hsf.output, hsf.size, fun k hk _ => hkeep k hk, fun _ h => .inl h, fun _ h => .inl h, Nat.le_refl _, fun _ _ => rfl⟩⟩

/-- A call that may write nothing that stood before. -/
theorem CallsA.below {f : FuncId} {args : List AV} {m m' : Mem} {v : AV} (h : CallsA P f args m v m') (hro : ∀ e ∈ m, e.rw = false) {γ : Gm} {w : World} {Vs : List Value} (hm : MemOk m'.length γ m w) (hV : LR γ args Vs) :
    Calls P f Vs.toArray w fun e w' => ∃ V γ', e = .returned V ∧ VR γ' v V ∧ Below w.heap.size w w' := by
  refine Calls.mono (h.2 m'.length γ w Vs (Nat.le_refl _) hm hV) ?_
  rintro e w' ⟨V, γ', rfl, hvV, hm', hsf⟩
  exact ⟨V, γ', rfl, hvV, ⟨hsf.os, hsf.tape, hsf.output, hsf.size, fun k hk => hsf.keep k hk (foot_none hro k)⟩⟩

/-! ### Runs -/

def allP : List Prop → Prop
  | [] => True
  | p :: l => p ∧ allP l

theorem allP_mem : ∀ {l : List Prop}, allP l → ∀ q ∈ l, q
  | [], _, _, h => by simp at h
  | p :: l, h, q, hq => by
    rcases List.mem_cons.1 hq with rfl | hq
    · exact h.1
    · exact allP_mem h.2 q hq

def ansOf : Res Out → Option (AV × List Prop)
  | .ok (v, _, _, o) => some (v, facts o)
  | .no _ => none
def fullOf : Res Out → Option (AV × Mem × List Prop)
  | .ok (v, m, _, o) => some (v, m, facts o)
  | .no _ => none
def leftsOf : Res Out → List (Option Ent)
  | .ok (_, _, _, o) => lefts o
  | .no _ => []
def rightsOf : Res Out → List (Option Ent)
  | .ok (_, _, _, o) => rights o
  | .no _ => []

theorem run_ans {x : Res Out} {v : AV} {ps : List Prop} (h : (ansOf x, leftsOf x) = (some (v, ps), rightsOf x)) (hp : allP ps) : ∃ m' st o, x = .ok (v, m', st, o) ∧ ∀ q ∈ o, q := by
  cases x with
  | no e => simp [ansOf] at h
  | ok q =>
    obtain ⟨v1, m1, st1, o1⟩ := q
    simp only [ansOf, leftsOf, rightsOf, Prod.mk.injEq, Option.some.injEq] at h
    obtain ⟨⟨rfl, rfl⟩, he⟩ := h
    exact ⟨m1, st1, o1, rfl, obs_of (allP_mem hp) he⟩

theorem run_full {x : Res Out} {v : AV} {m : Mem} {ps : List Prop} (h : (fullOf x, leftsOf x) = (some (v, m, ps), rightsOf x)) (hp : allP ps) : ∃ st o, x = .ok (v, m, st, o) ∧ ∀ q ∈ o, q := by
  cases x with
  | no e => simp [fullOf] at h
  | ok q =>
    obtain ⟨v1, m1, st1, o1⟩ := q
    simp only [fullOf, leftsOf, rightsOf, Prod.mk.injEq, Option.some.injEq] at h
    obtain ⟨⟨rfl, rfl, rfl⟩, he⟩ := h
    exact ⟨st1, o1, rfl, obs_of (allP_mem hp) he⟩

theorem calls_ans {leaf : LeafFn} (hleaf : LeafOk P leaf) (hmix : P.follows .mixedOrders = true) {n : Nat} {f : FuncId} {args : List AV} {m : Mem} {st : List Ch} {v : AV} {ps : List Prop}
    (h : (ansOf (xcall P leaf (CallsA P) (LoopA P) n f args m st), leftsOf (xcall P leaf (CallsA P) (LoopA P) n f args m st)) = (some (v, ps), rightsOf (xcall P leaf (CallsA P) (LoopA P) n f args m st))) (hp : allP ps) : ∃ m', CallsA P f args m v m' := by
  obtain ⟨m', st', o, hx, ho⟩ := run_ans h hp
  exact ⟨m', xcall_spec hleaf hmix n f args m st v m' st' o hx ho⟩

theorem calls_full {leaf : LeafFn} (hleaf : LeafOk P leaf) (hmix : P.follows .mixedOrders = true) {n : Nat} {f : FuncId} {args : List AV} {m m' : Mem} {st : List Ch} {v : AV} {ps : List Prop}
    (h : (fullOf (xcall P leaf (CallsA P) (LoopA P) n f args m st), leftsOf (xcall P leaf (CallsA P) (LoopA P) n f args m st)) = (some (v, m', ps), rightsOf (xcall P leaf (CallsA P) (LoopA P) n f args m st))) (hp : allP ps) : CallsA P f args m v m' := by
  obtain ⟨st', o, hx, ho⟩ := run_full h hp
  exact xcall_spec hleaf hmix n f args m st v m' st' o hx ho

/-! ### The row of a law -/
open Go.ChangeShapes Go.WideShapes Go.ChangeAt

theorem trodAll_stays {H : Type} {enc : TypeId × Value → H} (hl : laidOutB P = true) {W W' : World} {sp : Nat → Bool} : ∀ {ts : List TypeId} {vs : List Value} {ds : List (DataW H)} {ps : List MemPlace},
    (∀ t ∈ ts, P.readableRec t = true ∧ t < P.types.size) → DataW.TrodAll enc P W 0 (fun _ => true) true ts vs ds ps → (∀ p ∈ ps, W.sameAt W' p) → (∀ p ∈ ps, sp p.block = true) → DataW.TrodAll enc P W' 0 sp true ts vs ds ps
  | [], [], [], _, _, h, _, _ => h
  | t :: ts, v :: vs, d :: ds, ps, ht, ⟨p, q, h1, h2, e⟩, hs, hp => by
    subst e
    exact ⟨p, q, WideElems.Trod_stays hl (ht t (by simp)).1 (ht t (by simp)).2 h1 (fun x hx => hs x (by simp [hx])) (fun x hx => hp x (by simp [hx])),
      trodAll_stays hl (fun t h => ht t (by simp [h])) h2 (fun x hx => hs x (by simp [hx])) (fun x hx => hp x (by simp [hx])), rfl⟩
  | [], _ :: _, _, _, _, h, _, _ => h.elim
  | [], [], _ :: _, _, _, h, _, _ => h.elim
  | _ :: _, [], _, _, _, h, _, _ => h.elim
  | _ :: _, _ :: _, [], _, _, h, _, _ => h.elim

theorem law_lifted {C : Checked} {f : FuncId} {fn : Func} {spec : ChangeSpec} {tb : TypeId} {apart fresh : Bool} (os : Os) (started : os.Started) (H : Type) (enc : TypeId × Value → H) (own : ownKnob C.prog.godebug = none) (noInit : C.prog.inits.idxOf? f = none) (hfn : C.prog.funcs[f]? = some fn)
    (hvars : spec.vars = []) (hspec : ∀ ds : List (DataW H), ds.length = fn.params.size → spec.fn H ds = { results := [.lit (.bool true)], args := ds })
    (hres : fn.resultTypes = #[tb]) (hb : C.prog.underlying tb = some .bool) (hl : laidOutB C.prog = true) (hread : ∀ t ∈ fn.params.toList, C.prog.readableRec t = true ∧ t < C.prog.types.size)
    (witness : ∃ (w : World) (tape : Tape) (i : Input), w.os = os ∧ (w.forCall tape i).Shaped C.prog ∧ i.vars = [] ∧ Input.okWide C.prog (w.forCall tape i) .any w.heap.size f i ∧
      spec.pre6 enc C.prog fn [] apart (w.forCall tape i).memory i.args ∧ ({} : Assume).holds C.prog (lone (Frame.enter C.prog f i.args .normal) [] (w.forCall tape i)))
    (core : ∀ (W : World) (base : Nat) (args : Array Value) (ds : List (DataW H)) (ps : List MemPlace), (∀ (j : Nat) t v, fn.params[j]? = some t → args[j]? = some v → Value.okWide C.prog W .any base t v) →
      DataW.TrodAll enc C.prog W 0 (fun _ => true) true fn.params.toList args.toList ds ps → W.noneFrozen ps → (∀ p ∈ ps, p.block < W.heap.size) →
      Calls C.prog f args W fun e W' => e = .returned (.bool true) ∧ Below W.heap.size W W') :
    ReturnsInHanded {} C os f .any (spec.pre6 enc C.prog fn [] apart) (spec.post enc C.prog fn apart fresh false false) := by
  refine returnsInHanded_of_change (C := C) own started noInit hfn witness ?_
  intro W base args ds gs before hval hW _ _
  have hW' := hW
  have hlt := fun p hp => hW.lt p hp
  obtain ⟨p, q, hA, hV, rfl, hfz, hnd⟩ := hW
  rw [hvars] at hV
  obtain ⟨rfl, rfl⟩ := trodVars_none hV
  simp only [List.append_nil] at hW' hlt hfz
  refine (core W base args ds p hval hA hfz hlt).mono fun e W' ⟨he, hg⟩ => ?_
  subst he
  have hlen : ds.length = fn.params.size := by
    have : ∀ (ts : List TypeId) (vs : List Value) (ds : List (DataW H)) (ps : List MemPlace), DataW.TrodAll enc C.prog W 0 (fun _ => true) true ts vs ds ps → ds.length = ts.length := by
      intro ts
      induction ts with
      | nil => intro vs ds ps h; cases vs <;> cases ds <;> first | rfl | exact h.elim
      | cons t ts ih =>
        intro vs ds ps h
        cases vs <;> cases ds <;> first | exact h.elim | skip
        obtain ⟨_, _, _, h2, _⟩ := h
        simp [ih _ _ _ h2]
    simpa using this _ _ _ _ hA
  have hs := hspec (ds ++ []) (by simpa using hlen)
  refine ⟨_, rfl, ds, [], p, [], p, [], hW', ?_, ?_, ?_, hg.frame _, fun h => by cases h⟩
  · rw [hs, hres]
    exact trodAll_mk1 (shut_bool hb true)
  · rw [hs]
    simp only [List.append_nil]
    exact trodAll_stays hl hread hA (fun p hp => hg.same (hlt p hp)) (fun p hp => by simpa using hlt p hp)
  · rw [hs, hvars]; rfl
end
end Go.XM

namespace Go.XM
open Go
section
variable {P : Program}

/-- a value, marked as not to be looked at. -/
def flag1 : AV → AV
  | .int _ k n => .int true k n
  | .bool _ b => .bool true b
  | .str _ b => .str true b
  | .sl _ id lo n => .sl true id lo n
  | v => v

theorem flag1_spec {γ : Gm} {v : AV} {V : Value} : VR γ (flag1 v) V ↔ VR γ v V := by cases v <;> rfl

/-- some of the slots. -/
def pickR : List Nat → Regs → Regs
  | [], _ => []
  | k :: ks, r => match get r k with
    | some v => (k, flag1 v) :: pickR ks r
    | none => pickR ks r

theorem get_pick {r : Regs} {t : Nat} {v : AV} : ∀ {ks : List Nat}, get (pickR ks r) t = some v → ∃ v1, get r t = some v1 ∧ v = flag1 v1
  | [], h => by simp [pickR, get] at h
  | k :: ks, h => by
    simp only [pickR] at h
    cases hk : get r k with
    | none => rw [hk] at h; exact get_pick h
    | some u =>
      rw [hk] at h
      simp only [get] at h
      cases hb : Nat.beq k t with
      | true =>
        rw [hb] at h; simp at h; subst h
        have := Nat.eq_of_beq_eq_true hb; subst this
        exact ⟨u, hk, rfl⟩
      | false => rw [hb] at h; exact get_pick h

theorem RO.pick {γ : Gm} {N : Nat} {r : Regs} {a : Act} (h : RO γ N r a) (ks : List Nat) : RO γ N (pickR ks r) a :=
  ⟨h.defers, h.size, fun t v hv => by
    obtain ⟨v1, h1, rfl⟩ := get_pick hv
    obtain ⟨V, h2, h3⟩ := h.get t v1 h1
    exact ⟨V, h2, flag1_spec.2 h3⟩⟩

abbrev COut := Ex × Regs × Mem × List Ch × Obs

def codeOf (ks : List Nat) : Res COut → Option (Ex × Regs × Mem × List Prop)
  | .ok (e, r, m, _, o) => some (e, pickR ks r, m, facts o)
  | .no _ => none
def leftsC : Res COut → List (Option Ent)
  | .ok (_, _, _, _, o) => lefts o
  | .no _ => []
def rightsC : Res COut → List (Option Ent)
  | .ok (_, _, _, _, o) => rights o
  | .no _ => []

/-- what a stretch of code comes to, of abstract states. -/
def CodeA (P : Program) (N : Nat) (c : Code) (r : Regs) (m : Mem) (e : Ex) (r' : Regs) (m' : Mem) : Prop :=
  m.length ≤ m'.length ∧ ∀ (H : Nat) (γ : Gm) (a : Act) (w : World) (Q : Exit → Act → World → Prop), m'.length ≤ H → RO γ N r a → MemOk H γ m w →
    (∀ γ' a' w', RO γ' N r' a' → MemOk H γ' m' w' → SF γ m w γ' m' w' → Q e.toExit a' w') → c.wp P Q a w

theorem codeA_run {call : CallFn} (hcall : CallOk P call) (hmix : P.follows .mixedOrders = true) {N n : Nat} {c : Code} {r r' : Regs} {m m' : Mem} {st : List Ch} {e : Ex} {ks : List Nat} {ps : List Prop}
    (h : (codeOf ks (xcode P call (LoopA P) N n c r m st), leftsC (xcode P call (LoopA P) N n c r m st)) = (some (e, r', m', ps), rightsC (xcode P call (LoopA P) N n c r m st))) (hp : allP ps) : CodeA P N c r m e r' m' := by
  cases hx : xcode P call (LoopA P) N n c r m st with
  | no e => rw [hx] at h; simp [codeOf] at h
  | ok q =>
    obtain ⟨e1, r1, m1, st1, o1⟩ := q
    rw [hx] at h
    simp only [codeOf, leftsC, rightsC, Prod.mk.injEq, Option.some.injEq] at h
    obtain ⟨⟨rfl, rfl, rfl, rfl⟩, he⟩ := h
    have ho := obs_of (allP_mem hp) he
    exact ⟨xcode_len hcall n hx ho, fun H γ a w Q hH hr hm hk => xcode_spec hcall hmix hx ho hr hm hH fun γ' a' w' hr' hm' hsf => hk γ' a' w' (hr'.pick ks) hm' hsf⟩

/-- the loop ends in this round. -/
theorem LoopA.last {N : Nat} {c : Code} {r r' : Regs} {m m' : Mem} {e : Ex} (h : CodeA P N c r m e r' m') (he : e ≠ .normal) : LoopA P N c r m e r' m' :=
  ⟨h.1, fun H γ a w Q hH hr hm hk => LoopW.step (fun _ _ => False) (fun _ _ h => h.elim) (h.2 H γ a w _ hH hr hm fun γ' a' w' hr' hm' hsf => by
    have := hk γ' a' w' hr' hm' hsf
    cases e with
    | normal => exact absurd rfl he
    | ret => exact this
    | exit id => exact this)⟩

/-- a round more. -/
theorem LoopA.more {N : Nat} {c : Code} {r r1 r' : Regs} {m m1 m' : Mem} {e : Ex} (h : CodeA P N c r m .normal r1 m1) (hl : LoopA P N c r1 m1 e r' m') : LoopA P N c r m e r' m' :=
  ⟨Nat.le_trans h.1 hl.1, fun H γ a w Q hH hr hm hk => LoopW.step (LoopW P c Q) (fun _ _ h => h) (h.2 H γ a w _ (Nat.le_trans hl.1 hH) hr hm fun γ1 a1 w1 hr1 hm1 hsf1 =>
    hl.2 H γ1 a1 w1 Q hH hr1 hm1 fun γ' a' w' hr' hm' hsf => hk γ' a' w' hr' hm' (hsf1.trans hsf))⟩

/-- fewer slots known at the start. -/
theorem LoopA.pick {N : Nat} {c : Code} {r r' : Regs} {m m' : Mem} {e : Ex} (ks : List Nat) (h : LoopA P N c (pickR ks r) m e r' m') : LoopA P N c r m e r' m' :=
  ⟨h.1, fun H γ a w Q hH hr hm hk => h.2 H γ a w Q hH (hr.pick ks) hm hk⟩

/-- by the number of the round. -/
theorem LoopA.rounds {N : Nat} {c : Code} {r' : Regs} {m' : Mem} {e : Ex} (n : Nat) (rs : Nat → Regs) (ms : Nat → Mem) (hend : LoopA P N c (rs n) (ms n) e r' m') (hstep : ∀ i, i < n → CodeA P N c (rs i) (ms i) .normal (rs (i + 1)) (ms (i + 1))) : LoopA P N c (rs 0) (ms 0) e r' m' := by
  have : ∀ d i, i + d = n → LoopA P N c (rs i) (ms i) e r' m' := by
    intro d
    induction d with
    | zero => intro i hi; rw [show i = n by omega]; exact hend
    | succ d ih => intro i hi; exact LoopA.more (hstep i (by omega)) (ih (i + 1) (by omega))
  exact this n 0 (by omega)

/-! ### Loops by their place -/
def loopsIn : Code → List Code
  | .seq a b => loopsIn a ++ loopsIn b
  | .cond _ a b => loopsIn a ++ loopsIn b
  | .block _ c => loopsIn c
  | .loop c => c :: loopsIn c
  | _ => []

/-- the body of a function's loop number i. -/
def loopAt (P : Program) (f i : Nat) : Code :=
  match P.funcs[f]? with
  | some fn => (match fn.body with
    | some c => (match nth (loopsIn c) i with | some c => c | none => .skip)
    | none => .skip)
  | none => .skip

/-- where a run stands still. -/
def regsE : Err → Regs
  | .op _ r _ _ => r
  | .code _ r _ _ => r
  | .res r _ => r
  | .func _ => []
  | .within _ e => regsE e
def memE : Err → Mem
  | .op _ _ m _ => m
  | .code _ _ m _ => m
  | .res _ m => m
  | .func _ => []
  | .within _ e => memE e
def regsS {α : Type} : Res α → Regs
  | .ok _ => []
  | .no e => regsE e
def memS {α : Type} : Res α → Mem
  | .ok _ => []
  | .no e => memE e
end
end Go.XM

namespace Go.XM
open Go
section
variable {P : Program}

/-! ### Arguments whose cells are numbers, bools and strings -/
inductive CK where
  | i (k : IntKind) | b | s

def flatCF (P : Program) (g : TypeId → Option (List CK)) : List Field → Nat → Option (List CK)
  | [], _ => some []
  | f :: r, off => bif Nat.beq f.offset off then (match g f.type with
    | some ks => bif Nat.beq (len' ks) (P.cellsOf f.type) then (match flatCF P g r (off + len' ks) with | some l => some (ks ++ l) | none => none) else none
    | none => none) else none

def flatC (P : Program) : Nat → TypeId → Option (List CK)
  | 0, _ => none
  | d + 1, t => match P.underlying t with
    | some (.int k) => some [.i k]
    | some .bool => some [.b]
    | some .string => some [.s]
    | some (.struct fs) => (match flatCF P (flatC P d) fs.toList 0 with
      | some l => bif Nat.beq (len' l) (P.cellsOf t) then some l else none
      | none => none)
    | some (.array n e) => (match flatC P d e with
      | some ks => bif Nat.beq (len' ks) (P.cellsOf e) && Nat.beq (len' (repL ks n)) (P.cellsOf t) then some (repL ks n) else none
      | none => none)
    | _ => none

def KV : CK → Value → Prop
  | .i k, v => ∃ n, v = .int k n ∧ (Lit.int k n).wf = true
  | .b, v => ∃ b, v = .bool b
  | .s, v => ∃ s : ByteArray, v = .string s ∧ s.size ≤ maxLen

def KL : List CK → List Value → Prop
  | [], l => l = []
  | k :: ks, l => ∃ v t, l = v :: t ∧ KV k v ∧ KL ks t

theorem KL.append : ∀ {a b : List CK} {x y : List Value}, KL a x → KL b y → KL (a ++ b) (x ++ y)
  | [], _, _, _, h, h' => by cases h; exact h'
  | _ :: _, _, _, _, ⟨v, t, e, h1, h2⟩, h' => by subst e; exact ⟨v, _, rfl, h1, KL.append h2 h'⟩

theorem KL.length : ∀ {a : List CK} {x : List Value}, KL a x → x.length = a.length
  | [], _, h => by cases h; rfl
  | _ :: _, _, ⟨v, t, e, _, h2⟩ => by subst e; simp [KL.length h2]

theorem repL_add {α : Type} (a : List α) (n : Nat) : repL a (n + 1) = a ++ repL a n := rfl

theorem flat_open {H : Type} {enc : TypeId × Value → H} {w : World} {base : Nat} {sp : Nat → Bool} {held : Bool} : ∀ (d : Nat) {t : TypeId} {ks : List CK} {fuel : Nat} {cs : List Value} {y : DataW H × List MemPlace},
    flatC P d t = some ks → DataW.trod enc P w base sp held fuel t cs = some y → KL ks cs
  | 0, t, ks, fuel, cs, y, h, _ => by simp [flatC] at h
  | d + 1, t, ks, fuel, cs, y, h, hy => by
    unfold flatC at h
    cases hu : P.underlying t with
    | none => rw [hu] at h; simp at h
    | some u =>
      rw [hu] at h
      cases u with
      | int k =>
        simp at h; subst h
        obtain ⟨n, rfl, _, hw⟩ := DataW.trod_int hu hy
        exact ⟨_, _, rfl, ⟨n, rfl, hw⟩, rfl⟩
      | bool =>
        simp at h; subst h
        obtain ⟨b, rfl, _⟩ := DataW.trod_bool hu hy
        exact ⟨_, _, rfl, ⟨b, rfl⟩, rfl⟩
      | string =>
        simp at h; subst h
        obtain ⟨s, rfl, _, hs⟩ := DataW.trod_string hu hy
        exact ⟨_, _, rfl, ⟨s, rfl, hs⟩, rfl⟩
      | struct fs =>
        simp only at h
        obtain ⟨xs, n, rfl, _, hlen, hxl, hall⟩ := DataW.trod_struct hu hy
        cases hf : flatCF P (flatC P d) fs.toList 0 with
        | none => rw [hf] at h; simp at h
        | some l =>
          rw [hf] at h
          simp only at h
          obtain ⟨hb, h⟩ := bif_some h
          simp at h; subst h
          have hb := Nat.eq_of_beq_eq_true hb
          rw [len_eq] at hb
          have key : ∀ (fl : List Field) (off : Nat) (l : List CK), flatCF P (flatC P d) fl off = some l → (∀ f ∈ fl, ∃ z, DataW.trod enc P w base sp held n f.type ((cs.drop f.offset).take (P.cellsOf f.type)) = some z) → cs.length = off + l.length → KL l (cs.drop off) := by
            intro fl
            induction fl with
            | nil =>
              intro off l h _ hl
              simp [flatCF] at h; subst h
              show cs.drop off = []
              exact List.drop_eq_nil_of_le (by simp at hl; omega)
            | cons f fl ih =>
              intro off l h hz hl
              simp only [flatCF] at h
              obtain ⟨hb, h⟩ := bif_some h
              have hb := Nat.eq_of_beq_eq_true hb
              cases hg : flatC P d f.type with
              | none => rw [hg] at h; simp at h
              | some ks =>
                rw [hg] at h
                simp only at h
                obtain ⟨hb2, h⟩ := bif_some h
                have hb2 := Nat.eq_of_beq_eq_true hb2
                rw [len_eq] at hb2 h
                cases hr : flatCF P (flatC P d) fl (off + ks.length) with
                | none => rw [hr] at h; simp at h
                | some l' =>
                  rw [hr] at h
                  simp at h; subst h
                  obtain ⟨z, hz1⟩ := hz f (by simp)
                  rw [hb, ← hb2] at hz1
                  have h1 := flat_open d hg hz1
                  have h2 := ih (off + ks.length) l' hr (fun g hg => hz g (by simp [hg])) (by simp at hl; omega)
                  have := h1.append h2
                  rwa [← List.drop_drop, List.take_append_drop] at this
          have := key fs.toList 0 l hf (fun f hf => by
            obtain ⟨i, hi, hfi⟩ := List.getElem_of_mem hf
            have hfi' : fs[i]? = some f := by rw [← hfi]; simp
            have := hall i f hfi'
            have hix : i < xs.length := by rw [hxl]; simpa using hi
            exact ⟨xs[i], by rw [this, List.getElem?_eq_getElem hix]⟩) (by omega)
          simpa using this
      | array n e =>
        simp only at h
        obtain ⟨xs, m, rfl, _, hlen, hxl, hall⟩ := DataW.trod_array hu hy
        cases hg : flatC P d e with
        | none => rw [hg] at h; simp at h
        | some ks =>
          rw [hg] at h
          simp only at h
          obtain ⟨hb, h⟩ := bif_some h
          simp only [Bool.and_eq_true] at hb
          have hb1 := Nat.eq_of_beq_eq_true hb.1
          have hb2 := Nat.eq_of_beq_eq_true hb.2
          rw [len_eq] at hb1 hb2
          simp at h; subst h
          have hrl : ∀ k, (repL ks k).length = k * ks.length := by
            intro k
            induction k with
            | zero => simp [repL]
            | succ k ih => rw [repL_add, List.length_append, ih, Nat.add_mul]; omega
          have key : ∀ k, k ≤ n → KL (repL ks k) (cs.drop ((n - k) * ks.length)) := by
            intro k
            induction k with
            | zero =>
              intro _
              show cs.drop _ = []
              refine List.drop_eq_nil_of_le ?_
              rw [hlen, ← hb2, hrl]; simp
            | succ k ih =>
              intro hk
              have h1 := hall (n - (k + 1)) (by omega)
              have hix : n - (k + 1) < xs.length := by omega
              rw [List.getElem?_eq_getElem hix, ← hb1] at h1
              have h2 := flat_open d hg h1
              have h3 := ih (by omega)
              have := h2.append h3
              rw [show (n - k) * ks.length = (n - (k + 1)) * ks.length + ks.length by rw [← Nat.succ_mul]; congr 1; omega] at this
              rwa [← List.drop_drop, List.take_append_drop] at this
          have := key n (Nat.le_refl _)
          simpa using this
      | _ => simp at h

/-- what stands in the cells, by their places. -/
structure Env where
  xi : Nat → Int
  xb : Nat → Bool
  xs : Nat → ByteArray

def kval (E : Env) (i : Nat) : CK → Value
  | .i k => .int k (E.xi i)
  | .b => .bool (E.xb i)
  | .s => .string (E.xs i)
def kav (E : Env) (i : Nat) : CK → AV
  | .i k => .int true k (E.xi i)
  | .b => .bool true (E.xb i)
  | .s => .str true (E.xs i)
def kvals (E : Env) : Nat → List CK → List Value
  | _, [] => []
  | i, k :: ks => kval E i k :: kvals E (i + 1) ks
def kavs (E : Env) : Nat → List CK → List AV
  | _, [] => []
  | i, k :: ks => kav E i k :: kavs E (i + 1) ks

/-- each fits its kind. -/
def kfits (E : Env) (i : Nat) : CK → Prop
  | .i k => (Lit.int k (E.xi i)).wf = true
  | .b => True
  | .s => (E.xs i).size ≤ maxLen
def Env.fits (E : Env) (ks : List CK) : Prop := ∀ (i : Nat) (k : CK), ks[i]? = some k → kfits E i k

theorem kav_spec {γ : Gm} (E : Env) : ∀ (ks : List CK) (i : Nat), LR γ (kavs E i ks) (kvals E i ks)
  | [], _ => rfl
  | .i _ :: ks, i => ⟨_, _, rfl, rfl, kav_spec E ks (i + 1)⟩
  | .b :: ks, i => ⟨_, _, rfl, rfl, kav_spec E ks (i + 1)⟩
  | .s :: ks, i => ⟨_, _, rfl, rfl, kav_spec E ks (i + 1)⟩

theorem KL.env {ks : List CK} {cs : List Value} (h : KL ks cs) : ∃ E : Env, cs = kvals E 0 ks ∧ E.fits ks := by
  let E : Env := ⟨fun i => match cs[i]? with | some (.int _ n) => n | _ => 0, fun i => match cs[i]? with | some (.bool b) => b | _ => false, fun i => match cs[i]? with | some (.string s) => s | _ => ⟨#[]⟩⟩
  have key : ∀ (ks : List CK) (l : List Value) (i : Nat), KL ks l → (∀ j, l[j]? = cs[i + j]?) → l = kvals E i ks ∧ ∀ (j : Nat) (k : CK), ks[j]? = some k → kfits E (i + j) k := by
    intro ks
    induction ks with
    | nil => intro l i h _; cases h; exact ⟨rfl, fun j k h => by simp at h⟩
    | cons k ks ih =>
      intro l i ⟨v, t, e, hv, ht⟩ hl
      subst e
      have h0 : cs[i]? = some v := by have := hl 0; simpa using this.symm
      obtain ⟨h1, h2⟩ := ih t (i + 1) ht (fun j => by have := hl (j + 1); simp only [List.getElem?_cons_succ] at this; rw [this]; congr 1; omega)
      constructor
      · rw [kvals, ← h1]
        congr 1
        cases k with
        | i k => obtain ⟨n, rfl, _⟩ := hv; simp [kval, E, h0]
        | b => obtain ⟨n, rfl⟩ := hv; simp [kval, E, h0]
        | s => obtain ⟨n, rfl, _⟩ := hv; simp [kval, E, h0]
      · intro j k' hj
        cases j with
        | zero =>
          simp at hj; subst hj
          cases k with
          | i k => obtain ⟨n, rfl, hw⟩ := hv; simpa [kfits, E, h0] using hw
          | b => trivial
          | s => obtain ⟨n, rfl, hw⟩ := hv; simpa [kfits, E, h0] using hw
        | succ j =>
          have := h2 j k' (by simpa using hj)
          rw [show i + (j + 1) = i + 1 + j by omega]
          exact this
  obtain ⟨h1, h2⟩ := key ks cs 0 h (fun j => by simp)
  exact ⟨E, h1, fun i k hk => by have := h2 i k hk; simpa using this⟩
end
end Go.XM

