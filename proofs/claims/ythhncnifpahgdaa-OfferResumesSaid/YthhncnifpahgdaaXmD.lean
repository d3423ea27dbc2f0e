/-
  From a symbolic run to the row of a law; loops by their rounds. For whatever program; the conditions stand in each statement.
-/
import Derived.Test.YthhncnifpahgdaaXmC
import Derived.ProofKit
import Derived.Below
import Derived.Carry
import Derived.OpenShut
namespace Go.XM
open Go Go.RowKit
section
variable {P : Program}

mutual
/-- no entry of memory is named. -/
def pureV : AV → Bool
  | .ptr _ _ => false
  | .eptr _ _ _ => false
  | .sl _ _ _ _ => false
  | .e0 _ => false
  | .agg cs => pureL cs
  | .tup vs => pureL vs
  | .fn _ a b => pureL a && pureL b
  | .iface _ v => pureV v
  | .int _ _ _ => true
  | .bool _ _ => true
  | .str _ _ => true
  | .nilp => true
  | .nils => true
  | .nilfn => true
  | .nilif => true
  | .raw _ => true
def pureL : List AV → Bool
  | [] => true
  | a :: l => pureV a && pureL l
end

mutual
theorem VR.pure {γ γ' : Gm} : ∀ {v : AV} {V : Value}, pureV v = true → VR γ v V → VR γ' v V
  | .int .., _, _, r => r
  | .bool .., _, _, r => r
  | .str .., _, _, r => r
  | .nilp, _, _, r => r
  | .nils, _, _, r => r
  | .nilfn, _, _, r => r
  | .nilif, _, _, r => r
  | .ptr .., _, h, _ => by simp [pureV] at h
  | .eptr .., _, h, _ => by simp [pureV] at h
  | .sl .., _, h, _ => by simp [pureV] at h
  | .e0 .., _, h, _ => by simp [pureV] at h
  | .agg _, _, h, ⟨l, e, r⟩ => ⟨l, e, LR.pure (by simpa [pureV] using h) r⟩
  | .tup _, _, h, ⟨l, e, r⟩ => ⟨l, e, LR.pure (by simpa [pureV] using h) r⟩
  | .fn _ _ _, _, h, ⟨a, b, e, r, r'⟩ => by
    simp only [pureV, Bool.and_eq_true] at h
    exact ⟨a, b, e, LR.pure h.1 r, LR.pure h.2 r'⟩
  | .iface _ _, _, h, ⟨x, e, r⟩ => ⟨x, e, VR.pure (by simpa [pureV] using h) r⟩
  | .raw _, _, _, r => r
theorem LR.pure {γ γ' : Gm} : ∀ {v : List AV} {V : List Value}, pureL v = true → LR γ v V → LR γ' v V
  | [], _, _, r => r
  | _ :: _, _, h, ⟨v, t, e, r, r'⟩ => by
    simp only [pureL, Bool.and_eq_true] at h
    exact ⟨v, t, e, VR.pure h.1 r, LR.pure h.2 r'⟩
end

def noG : Gm := fun _ => none

theorem memOk_nil (H : Nat) (w : World) : MemOk H noG [] w :=
  ⟨fun id e h => by simp at h, fun id g h => by simp [noG] at h, fun i j ei ej gi gj _ h => by simp at h⟩

theorem foot_none {γ : Gm} {m : Mem} (h : ∀ e ∈ m, e.rw = false) (b : Nat) : ¬ Foot γ m b := by
  rintro ⟨id, e, g, h1, h2, _⟩
  rw [h e (List.mem_of_getElem? h1)] at h2
  simp at h2

/-- A call of plain values with a plain answer leaves memory as it was. -/
theorem CallsA.frame0 {f : FuncId} {args : List AV} {v : AV} {m' : Mem} (h : CallsA P f args [] v m') (ha : pureL args = true) (hv : pureV v = true) (m : Mem) : CallsA P f args m v m := by
  refine ⟨Nat.le_refl _, fun H γ w Vs hH hm hV => ?_⟩
  refine Calls.mono (h.2 m'.length noG w Vs (Nat.le_refl _) (memOk_nil _ w) (hV.pure ha)) ?_
  rintro e w' ⟨V, γ', rfl, hvV, hm', hsf⟩
  have hkeep : ∀ k, k < w.heap.size → w'.heap[k]? = w.heap[k]? := fun k hk => hsf.keep k hk (foot_none (by simp) k)
  refine ⟨V, γ, rfl, hvV.pure hv, ⟨fun id e he => (hm.ent id e he).of_heap fun g hg => hkeep _ (hm.dom id g hg).2, fun id g hg => ⟨(hm.dom id g hg).1, Nat.lt_of_lt_of_le (hm.dom id g hg).2 hsf.size⟩, hm.sep⟩, ⟨Gm.le_refl _, hsf.os, hsf.tape, hsf.output, hsf.size, fun k hk _ => hkeep k hk, fun _ h => .inl h, fun _ h => .inl h, Nat.le_refl _, fun _ _ => rfl⟩⟩

/-- A call that may write nothing that stood before. -/
theorem CallsA.below {f : FuncId} {args : List AV} {m m' : Mem} {v : AV} (h : CallsA P f args m v m') (hro : ∀ e ∈ m, e.rw = false) {γ : Gm} {w : World} {Vs : List Value} (hm : MemOk m'.length γ m w) (hV : LR γ args Vs) :
    Calls P f Vs.toArray w fun e w' => ∃ V γ', e = .returned V ∧ VR γ' v V ∧ Below w.heap.size w w' := by
  refine Calls.mono (h.2 m'.length γ w Vs (Nat.le_refl _) hm hV) ?_
  rintro e w' ⟨V, γ', rfl, hvV, hm', hsf⟩
  exact ⟨V, γ', rfl, hvV, ⟨hsf.os, hsf.tape, hsf.output, hsf.size, fun k hk => hsf.keep k hk (foot_none hro k)⟩⟩

/-! ### Runs -/

def allP : List Prop → Prop
  | [] => True
  | p :: l => p ∧ allP l

theorem allP_mem : ∀ {l : List Prop}, allP l → ∀ q ∈ l, q
  | [], _, _, h => by simp at h
  | p :: l, h, q, hq => by
    rcases List.mem_cons.1 hq with rfl | hq
    · exact h.1
    · exact allP_mem h.2 q hq

def ansOf : Res Out → Option (AV × List Prop)
  | .ok (v, _, _, o) => some (v, facts o)
  | .no _ => none
def fullOf : Res Out → Option (AV × Mem × List Prop)
  | .ok (v, m, _, o) => some (v, m, facts o)
  | .no _ => none
def leftsOf : Res Out → List (Option Ent)
  | .ok (_, _, _, o) => lefts o
  | .no _ => []
def rightsOf : Res Out → List (Option Ent)
  | .ok (_, _, _, o) => rights o
  | .no _ => []

theorem run_ans {x : Res Out} {v : AV} {ps : List Prop} (h : (ansOf x, leftsOf x) = (some (v, ps), rightsOf x)) (hp : allP ps) : ∃ m' st o, x = .ok (v, m', st, o) ∧ ∀ q ∈ o, q := by
  cases x with
  | no e => simp [ansOf] at h
  | ok q =>
    obtain ⟨v1, m1, st1, o1⟩ := q
    simp only [ansOf, leftsOf, rightsOf, Prod.mk.injEq, Option.some.injEq] at h
    obtain ⟨⟨rfl, rfl⟩, he⟩ := h
    exact ⟨m1, st1, o1, rfl, obs_of (allP_mem hp) he⟩

theorem run_full {x : Res Out} {v : AV} {m : Mem} {ps : List Prop} (h : (fullOf x, leftsOf x) = (some (v, m, ps), rightsOf x)) (hp : allP ps) : ∃ st o, x = .ok (v, m, st, o) ∧ ∀ q ∈ o, q := by
  cases x with
  | no e => simp [fullOf] at h
  | ok q =>
    obtain ⟨v1, m1, st1, o1⟩ := q
    simp only [fullOf, leftsOf, rightsOf, Prod.mk.injEq, Option.some.injEq] at h
    obtain ⟨⟨rfl, rfl, rfl⟩, he⟩ := h
    exact ⟨st1, o1, rfl, obs_of (allP_mem hp) he⟩

theorem calls_ans {leaf : LeafFn} (hleaf : LeafOk P leaf) (hmix : P.follows .mixedOrders = true) {n : Nat} {f : FuncId} {args : List AV} {m : Mem} {st : List Ch} {v : AV} {ps : List Prop}
    (h : (ansOf (xcall P leaf (CallsA P) (LoopA P) n f args m st), leftsOf (xcall P leaf (CallsA P) (LoopA P) n f args m st)) = (some (v, ps), rightsOf (xcall P leaf (CallsA P) (LoopA P) n f args m st))) (hp : allP ps) : ∃ m', CallsA P f args m v m' := by
  obtain ⟨m', st', o, hx, ho⟩ := run_ans h hp
  exact ⟨m', xcall_spec hleaf hmix n f args m st v m' st' o hx ho⟩

theorem calls_full {leaf : LeafFn} (hleaf : LeafOk P leaf) (hmix : P.follows .mixedOrders = true) {n : Nat} {f : FuncId} {args : List AV} {m m' : Mem} {st : List Ch} {v : AV} {ps : List Prop}
    (h : (fullOf (xcall P leaf (CallsA P) (LoopA P) n f args m st), leftsOf (xcall P leaf (CallsA P) (LoopA P) n f args m st)) = (some (v, m', ps), rightsOf (xcall P leaf (CallsA P) (LoopA P) n f args m st))) (hp : allP ps) : CallsA P f args m v m' := by
  obtain ⟨st', o, hx, ho⟩ := run_full h hp
  exact xcall_spec hleaf hmix n f args m st v m' st' o hx ho

/-! ### The row of a law -/
open Go.ChangeShapes Go.WideShapes Go.ChangeAt

theorem trodAll_stays {H : Type} {enc : TypeId × Value → H} (hl : laidOutB P = true) {W W' : World} {sp : Nat → Bool} : ∀ {ts : List TypeId} {vs : List Value} {ds : List (DataW H)} {ps : List MemPlace},
    (∀ t ∈ ts, P.readableRec t = true ∧ t < P.types.size) → DataW.TrodAll enc P W 0 (fun _ => true) true ts vs ds ps → (∀ p ∈ ps, W.sameAt W' p) → (∀ p ∈ ps, sp p.block = true) → DataW.TrodAll enc P W' 0 sp true ts vs ds ps
  | [], [], [], _, _, h, _, _ => h
  | t :: ts, v :: vs, d :: ds, ps, ht, ⟨p, q, h1, h2, e⟩, hs, hp => by
    subst e
    exact ⟨p, q, WideElems.Trod_stays hl (ht t (by simp)).1 (ht t (by simp)).2 h1 (fun x hx => hs x (by simp [hx])) (fun x hx => hp x (by simp [hx])),
      trodAll_stays hl (fun t h => ht t (by simp [h])) h2 (fun x hx => hs x (by simp [hx])) (fun x hx => hp x (by simp [hx])), rfl⟩
  | [], _ :: _, _, _, _, h, _, _ => h.elim
  | [], [], _ :: _, _, _, h, _, _ => h.elim
  | _ :: _, [], _, _, _, h, _, _ => h.elim
  | _ :: _, _ :: _, [], _, _, h, _, _ => h.elim

theorem law_lifted {C : Checked} {f : FuncId} {fn : Func} {spec : ChangeSpec} {tb : TypeId} {apart fresh : Bool} (os : Os) (started : os.Started) (H : Type) (enc : TypeId × Value → H) (own : ownKnob C.prog.godebug = none) (noInit : C.prog.inits.idxOf? f = none) (hfn : C.prog.funcs[f]? = some fn)
    (hvars : spec.vars = []) (hspec : ∀ ds : List (DataW H), ds.length = fn.params.size → spec.fn H ds = { results := [.lit (.bool true)], args := ds })
    (hres : fn.resultTypes = #[tb]) (hb : C.prog.underlying tb = some .bool) (hl : laidOutB C.prog = true) (hread : ∀ t ∈ fn.params.toList, C.prog.readableRec t = true ∧ t < C.prog.types.size)
    (witness : ∃ (w : World) (tape : Tape) (i : Input), w.os = os ∧ (w.forCall tape i).Shaped C.prog ∧ i.vars = [] ∧ Input.okWide C.prog (w.forCall tape i) .any w.heap.size f i ∧
      spec.pre6 enc C.prog fn [] apart (w.forCall tape i).memory i.args ∧ ({} : Assume).holds C.prog (lone (Frame.enter C.prog f i.args .normal) [] (w.forCall tape i)))
    (core : ∀ (W : World) (base : Nat) (args : Array Value) (ds : List (DataW H)) (ps : List MemPlace), (∀ (j : Nat) t v, fn.params[j]? = some t → args[j]? = some v → Value.okWide C.prog W .any base t v) →
      DataW.TrodAll enc C.prog W 0 (fun _ => true) true fn.params.toList args.toList ds ps → W.noneFrozen ps → (∀ p ∈ ps, p.block < W.heap.size) →
      Calls C.prog f args W fun e W' => e = .returned (.bool true) ∧ Below W.heap.size W W') :
    ReturnsInHanded {} C os f .any (spec.pre6 enc C.prog fn [] apart) (spec.post enc C.prog fn apart fresh false false) := by
  refine returnsInHanded_of_change (C := C) own started noInit hfn witness ?_
  intro W base args ds gs before hval hW _ _
  have hW' := hW
  have hlt := fun p hp => hW.lt p hp
  obtain ⟨p, q, hA, hV, rfl, hfz, hnd⟩ := hW
  rw [hvars] at hV
  obtain ⟨rfl, rfl⟩ := trodVars_none hV
  simp only [List.append_nil] at hW' hlt hfz
  refine (core W base args ds p hval hA hfz hlt).mono fun e W' ⟨he, hg⟩ => ?_
  subst he
  have hlen : ds.length = fn.params.size := by
    have : ∀ (ts : List TypeId) (vs : List Value) (ds : List (DataW H)) (ps : List MemPlace), DataW.TrodAll enc C.prog W 0 (fun _ => true) true ts vs ds ps → ds.length = ts.length := by
      intro ts
      induction ts with
      | nil => intro vs ds ps h; cases vs <;> cases ds <;> first | rfl | exact h.elim
      | cons t ts ih =>
        intro vs ds ps h
        cases vs <;> cases ds <;> first | exact h.elim | skip
        obtain ⟨_, _, _, h2, _⟩ := h
        simp [ih _ _ _ h2]
    simpa using this _ _ _ _ hA
  have hs := hspec (ds ++ []) (by simpa using hlen)
  refine ⟨_, rfl, ds, [], p, [], p, [], hW', ?_, ?_, ?_, hg.frame _, fun h => by cases h⟩
  · rw [hs, hres]
    exact trodAll_mk1 (shut_bool hb true)
  · rw [hs]
    simp only [List.append_nil]
    exact trodAll_stays hl hread hA (fun p hp => hg.same (hlt p hp)) (fun p hp => by simpa using hlt p hp)
  · rw [hs, hvars]; rfl
end
end Go.XM

namespace Go.XM
open Go
section
variable {P : Program}

/-- a value, marked as not to be looked at. -/
def flag1 : AV → AV
  | .int _ k n => .int true k n
  | .bool _ b => .bool true b
  | .str _ b => .str true b
  | .sl _ id lo n => .sl true id lo n
  | v => v

theorem flag1_spec {γ : Gm} {v : AV} {V : Value} : VR γ (flag1 v) V ↔ VR γ v V := by cases v <;> rfl

/-- some of the slots. -/
def pickR : List Nat → Regs → Regs
  | [], _ => []
  | k :: ks, r => match get r k with
    | some v => (k, flag1 v) :: pickR ks r
    | none => pickR ks r

theorem get_pick {r : Regs} {t : Nat} {v : AV} : ∀ {ks : List Nat}, get (pickR ks r) t = some v → ∃ v1, get r t = some v1 ∧ v = flag1 v1
  | [], h => by simp [pickR, get] at h
  | k :: ks, h => by
    simp only [pickR] at h
    cases hk : get r k with
    | none => rw [hk] at h; exact get_pick h
    | some u =>
      rw [hk] at h
      simp only [get] at h
      cases hb : Nat.beq k t with
      | true =>
        rw [hb] at h; simp at h; subst h
        have := Nat.eq_of_beq_eq_true hb; subst this
        exact ⟨u, hk, rfl⟩
      | false => rw [hb] at h; exact get_pick h

theorem RO.pick {γ : Gm} {N : Nat} {r : Regs} {a : Act} (h : RO γ N r a) (ks : List Nat) : RO γ N (pickR ks r) a :=
  ⟨h.defers, h.size, fun t v hv => by
    obtain ⟨v1, h1, rfl⟩ := get_pick hv
    obtain ⟨V, h2, h3⟩ := h.get t v1 h1
    exact ⟨V, h2, flag1_spec.2 h3⟩⟩

abbrev COut := Ex × Regs × Mem × List Ch × Obs

def codeOf (ks : List Nat) : Res COut → Option (Ex × Regs × Mem × List Prop)
  | .ok (e, r, m, _, o) => some (e, pickR ks r, m, facts o)
  | .no _ => none
def leftsC : Res COut → List (Option Ent)
  | .ok (_, _, _, _, o) => lefts o
  | .no _ => []
def rightsC : Res COut → List (Option Ent)
  | .ok (_, _, _, _, o) => rights o
  | .no _ => []

/-- what a stretch of code comes to, of abstract states. -/
def CodeA (P : Program) (N : Nat) (c : Code) (r : Regs) (m : Mem) (e : Ex) (r' : Regs) (m' : Mem) : Prop :=
  m.length ≤ m'.length ∧ ∀ (H : Nat) (γ : Gm) (a : Act) (w : World) (Q : Exit → Act → World → Prop), m'.length ≤ H → RO γ N r a → MemOk H γ m w →
    (∀ γ' a' w', RO γ' N r' a' → MemOk H γ' m' w' → SF γ m w γ' m' w' → Q e.toExit a' w') → c.wp P Q a w

theorem codeA_run {call : CallFn} (hcall : CallOk P call) (hmix : P.follows .mixedOrders = true) {N n : Nat} {c : Code} {r r' : Regs} {m m' : Mem} {st : List Ch} {e : Ex} {ks : List Nat} {ps : List Prop}
    (h : (codeOf ks (xcode P call (LoopA P) N n c r m st), leftsC (xcode P call (LoopA P) N n c r m st)) = (some (e, r', m', ps), rightsC (xcode P call (LoopA P) N n c r m st))) (hp : allP ps) : CodeA P N c r m e r' m' := by
  cases hx : xcode P call (LoopA P) N n c r m st with
  | no e => rw [hx] at h; simp [codeOf] at h
  | ok q =>
    obtain ⟨e1, r1, m1, st1, o1⟩ := q
    rw [hx] at h
    simp only [codeOf, leftsC, rightsC, Prod.mk.injEq, Option.some.injEq] at h
    obtain ⟨⟨rfl, rfl, rfl, rfl⟩, he⟩ := h
    have ho := obs_of (allP_mem hp) he
    exact ⟨xcode_len hcall n hx ho, fun H γ a w Q hH hr hm hk => xcode_spec hcall hmix hx ho hr hm hH fun γ' a' w' hr' hm' hsf => hk γ' a' w' (hr'.pick ks) hm' hsf⟩

/-- the loop ends in this round. -/
theorem LoopA.last {N : Nat} {c : Code} {r r' : Regs} {m m' : Mem} {e : Ex} (h : CodeA P N c r m e r' m') (he : e ≠ .normal) : LoopA P N c r m e r' m' :=
  ⟨h.1, fun H γ a w Q hH hr hm hk => LoopW.step (fun _ _ => False) (fun _ _ h => h.elim) (h.2 H γ a w _ hH hr hm fun γ' a' w' hr' hm' hsf => by
    have := hk γ' a' w' hr' hm' hsf
    cases e with
    | normal => exact absurd rfl he
    | ret => exact this
    | exit id => exact this)⟩

/-- a round more. -/
theorem LoopA.more {N : Nat} {c : Code} {r r1 r' : Regs} {m m1 m' : Mem} {e : Ex} (h : CodeA P N c r m .normal r1 m1) (hl : LoopA P N c r1 m1 e r' m') : LoopA P N c r m e r' m' :=
  ⟨Nat.le_trans h.1 hl.1, fun H γ a w Q hH hr hm hk => LoopW.step (LoopW P c Q) (fun _ _ h => h) (h.2 H γ a w _ (Nat.le_trans hl.1 hH) hr hm fun γ1 a1 w1 hr1 hm1 hsf1 =>
    hl.2 H γ1 a1 w1 Q hH hr1 hm1 fun γ' a' w' hr' hm' hsf => hk γ' a' w' hr' hm' (hsf1.trans hsf))⟩

/-- fewer slots known at the start. -/
theorem LoopA.pick {N : Nat} {c : Code} {r r' : Regs} {m m' : Mem} {e : Ex} (ks : List Nat) (h : LoopA P N c (pickR ks r) m e r' m') : LoopA P N c r m e r' m' :=
  ⟨h.1, fun H γ a w Q hH hr hm hk => h.2 H γ a w Q hH (hr.pick ks) hm hk⟩

/-- by the number of the round. -/
theorem LoopA.rounds {N : Nat} {c : Code} {r' : Regs} {m' : Mem} {e : Ex} (n : Nat) (rs : Nat → Regs) (ms : Nat → Mem) (hend : LoopA P N c (rs n) (ms n) e r' m') (hstep : ∀ i, i < n → CodeA P N c (rs i) (ms i) .normal (rs (i + 1)) (ms (i + 1))) : LoopA P N c (rs 0) (ms 0) e r' m' := by
  have : ∀ d i, i + d = n → LoopA P N c (rs i) (ms i) e r' m' := by
    intro d
    induction d with
    | zero => intro i hi; rw [show i = n by omega]; exact hend
    | succ d ih => intro i hi; exact LoopA.more (hstep i (by omega)) (ih (i + 1) (by omega))
  exact this n 0 (by omega)

/-! ### Loops by their place -/
def loopsIn : Code → List Code
  | .seq a b => loopsIn a ++ loopsIn b
  | .cond _ a b => loopsIn a ++ loopsIn b
  | .block _ c => loopsIn c
  | .loop c => c :: loopsIn c
  | _ => []

/-- the body of a function's loop number i. -/
def loopAt (P : Program) (f i : Nat) : Code :=
  match P.funcs[f]? with
  | some fn => (match fn.body with
    | some c => (match nth (loopsIn c) i with | some c => c | none => .skip)
    | none => .skip)
  | none => .skip

/-- where a run stands still. -/
def regsE : Err → Regs
  | .op _ r _ _ => r
  | .code _ r _ _ => r
  | .res r _ => r
  | .func _ => []
  | .within _ e => regsE e
def memE : Err → Mem
  | .op _ _ m _ => m
  | .code _ _ m _ => m
  | .res _ m => m
  | .func _ => []
  | .within _ e => memE e
def regsS {α : Type} : Res α → Regs
  | .ok _ => []
  | .no e => regsE e
def memS {α : Type} : Res α → Mem
  | .ok _ => []
  | .no e => memE e
end
end Go.XM

namespace Go.XM
open Go
section
variable {P : Program}

/-! ### Arguments whose cells are numbers, bools and strings -/
inductive CK where
  | i (k : IntKind) | b | s

def flatCF (P : Program) (g : TypeId → Option (List CK)) : List Field → Nat → Option (List CK)
  | [], _ => some []
  | f :: r, off => bif Nat.beq f.offset off then (match g f.type with
    | some ks => bif Nat.beq (len' ks) (P.cellsOf f.type) then (match flatCF P g r (off + len' ks) with | some l => some (ks ++ l) | none => none) else none
    | none => none) else none

def flatC (P : Program) : Nat → TypeId → Option (List CK)
  | 0, _ => none
  | d + 1, t => match P.underlying t with
    | some (.int k) => some [.i k]
    | some .bool => some [.b]
    | some .string => some [.s]
    | some (.struct fs) => (match flatCF P (flatC P d) fs.toList 0 with
      | some l => bif Nat.beq (len' l) (P.cellsOf t) then some l else none
      | none => none)
    | some (.array n e) => (match flatC P d e with
      | some ks => bif Nat.beq (len' ks) (P.cellsOf e) && Nat.beq (len' (repL ks n)) (P.cellsOf t) then some (repL ks n) else none
      | none => none)
    | _ => none

def KV : CK → Value → Prop
  | .i k, v => ∃ n, v = .int k n ∧ (Lit.int k n).wf = true
  | .b, v => ∃ b, v = .bool b
  | .s, v => ∃ s : ByteArray, v = .string s ∧ s.size ≤ maxLen

def KL : List CK → List Value → Prop
  | [], l => l = []
  | k :: ks, l => ∃ v t, l = v :: t ∧ KV k v ∧ KL ks t

theorem KL.append : ∀ {a b : List CK} {x y : List Value}, KL a x → KL b y → KL (a ++ b) (x ++ y)
  | [], _, _, _, h, h' => by cases h; exact h'
  | _ :: _, _, _, _, ⟨v, t, e, h1, h2⟩, h' => by subst e; exact ⟨v, _, rfl, h1, KL.append h2 h'⟩

theorem KL.length : ∀ {a : List CK} {x : List Value}, KL a x → x.length = a.length
  | [], _, h => by cases h; rfl
  | _ :: _, _, ⟨v, t, e, _, h2⟩ => by subst e; simp [KL.length h2]

theorem repL_add {α : Type} (a : List α) (n : Nat) : repL a (n + 1) = a ++ repL a n := rfl

theorem flat_open {H : Type} {enc : TypeId × Value → H} {w : World} {base : Nat} {sp : Nat → Bool} {held : Bool} : ∀ (d : Nat) {t : TypeId} {ks : List CK} {fuel : Nat} {cs : List Value} {y : DataW H × List MemPlace},
    flatC P d t = some ks → DataW.trod enc P w base sp held fuel t cs = some y → KL ks cs
  | 0, t, ks, fuel, cs, y, h, _ => by simp [flatC] at h
  | d + 1, t, ks, fuel, cs, y, h, hy => by
    unfold flatC at h
    cases hu : P.underlying t with
    | none => rw [hu] at h; simp at h
    | some u =>
      rw [hu] at h
      cases u with
      | int k =>
        simp at h; subst h
        obtain ⟨n, rfl, _, hw⟩ := DataW.trod_int hu hy
        exact ⟨_, _, rfl, ⟨n, rfl, hw⟩, rfl⟩
      | bool =>
        simp at h; subst h
        obtain ⟨b, rfl, _⟩ := DataW.trod_bool hu hy
        exact ⟨_, _, rfl, ⟨b, rfl⟩, rfl⟩
      | string =>
        simp at h; subst h
        obtain ⟨s, rfl, _, hs⟩ := DataW.trod_string hu hy
        exact ⟨_, _, rfl, ⟨s, rfl, hs⟩, rfl⟩
      | struct fs =>
        simp only at h
        obtain ⟨xs, n, rfl, _, hlen, hxl, hall⟩ := DataW.trod_struct hu hy
        cases hf : flatCF P (flatC P d) fs.toList 0 with
        | none => rw [hf] at h; simp at h
        | some l =>
          rw [hf] at h
          simp only at h
          obtain ⟨hb, h⟩ := bif_some h
          simp at h; subst h
          have hb := Nat.eq_of_beq_eq_true hb
          rw [len_eq] at hb
          have key : ∀ (fl : List Field) (off : Nat) (l : List CK), flatCF P (flatC P d) fl off = some l → (∀ f ∈ fl, ∃ z, DataW.trod enc P w base sp held n f.type ((cs.drop f.offset).take (P.cellsOf f.type)) = some z) → cs.length = off + l.length → KL l (cs.drop off) := by
            intro fl
            induction fl with
            | nil =>
              intro off l h _ hl
              simp [flatCF] at h; subst h
              show cs.drop off = []
              exact List.drop_eq_nil_of_le (by simp at hl; omega)
            | cons f fl ih =>
              intro off l h hz hl
              simp only [flatCF] at h
              obtain ⟨hb, h⟩ := bif_some h
              have hb := Nat.eq_of_beq_eq_true hb
              cases hg : flatC P d f.type with
              | none => rw [hg] at h; simp at h
              | some ks =>
                rw [hg] at h
                simp only at h
                obtain ⟨hb2, h⟩ := bif_some h
                have hb2 := Nat.eq_of_beq_eq_true hb2
                rw [len_eq] at hb2 h
                cases hr : flatCF P (flatC P d) fl (off + ks.length) with
                | none => rw [hr] at h; simp at h
                | some l' =>
                  rw [hr] at h
                  simp at h; subst h
                  obtain ⟨z, hz1⟩ := hz f (by simp)
                  rw [hb, ← hb2] at hz1
                  have h1 := flat_open d hg hz1
                  have h2 := ih (off + ks.length) l' hr (fun g hg => hz g (by simp [hg])) (by simp at hl; omega)
                  have := h1.append h2
                  rwa [← List.drop_drop, List.take_append_drop] at this
          have := key fs.toList 0 l hf (fun f hf => by
            obtain ⟨i, hi, hfi⟩ := List.getElem_of_mem hf
            have hfi' : fs[i]? = some f := by rw [← hfi]; simp
            have := hall i f hfi'
            have hix : i < xs.length := by rw [hxl]; simpa using hi
            exact ⟨xs[i], by rw [this, List.getElem?_eq_getElem hix]⟩) (by omega)
          simpa using this
      | array n e =>
        simp only at h
        obtain ⟨xs, m, rfl, _, hlen, hxl, hall⟩ := DataW.trod_array hu hy
        cases hg : flatC P d e with
        | none => rw [hg] at h; simp at h
        | some ks =>
          rw [hg] at h
          simp only at h
          obtain ⟨hb, h⟩ := bif_some h
          simp only [Bool.and_eq_true] at hb
          have hb1 := Nat.eq_of_beq_eq_true hb.1
          have hb2 := Nat.eq_of_beq_eq_true hb.2
          rw [len_eq] at hb1 hb2
          simp at h; subst h
          have hrl : ∀ k, (repL ks k).length = k * ks.length := by
            intro k
            induction k with
            | zero => simp [repL]
            | succ k ih => rw [repL_add, List.length_append, ih, Nat.add_mul]; omega
          have key : ∀ k, k ≤ n → KL (repL ks k) (cs.drop ((n - k) * ks.length)) := by
            intro k
            induction k with
            | zero =>
              intro _
              show cs.drop _ = []
              refine List.drop_eq_nil_of_le ?_
              rw [hlen, ← hb2, hrl]; simp
            | succ k ih =>
              intro hk
              have h1 := hall (n - (k + 1)) (by omega)
              have hix : n - (k + 1) < xs.length := by omega
              rw [List.getElem?_eq_getElem hix, ← hb1] at h1
              have h2 := flat_open d hg h1
              have h3 := ih (by omega)
              have := h2.append h3
              rw [show (n - k) * ks.length = (n - (k + 1)) * ks.length + ks.length by rw [← Nat.succ_mul]; congr 1; omega] at this
              rwa [← List.drop_drop, List.take_append_drop] at this
          have := key n (Nat.le_refl _)
          simpa using this
      | _ => simp at h

/-- what stands in the cells, by their places. -/
structure Env where
  xi : Nat → Int
  xb : Nat → Bool
  xs : Nat → ByteArray

def kval (E : Env) (i : Nat) : CK → Value
  | .i k => .int k (E.xi i)
  | .b => .bool (E.xb i)
  | .s => .string (E.xs i)
def kav (E : Env) (i : Nat) : CK → AV
  | .i k => .int true k (E.xi i)
  | .b => .bool true (E.xb i)
  | .s => .str true (E.xs i)
def kvals (E : Env) : Nat → List CK → List Value
  | _, [] => []
  | i, k :: ks => kval E i k :: kvals E (i + 1) ks
def kavs (E : Env) : Nat → List CK → List AV
  | _, [] => []
  | i, k :: ks => kav E i k :: kavs E (i + 1) ks

/-- each fits its kind. -/
def kfits (E : Env) (i : Nat) : CK → Prop
  | .i k => (Lit.int k (E.xi i)).wf = true
  | .b => True
  | .s => (E.xs i).size ≤ maxLen
def Env.fits (E : Env) (ks : List CK) : Prop := ∀ (i : Nat) (k : CK), ks[i]? = some k → kfits E i k

theorem kav_spec {γ : Gm} (E : Env) : ∀ (ks : List CK) (i : Nat), LR γ (kavs E i ks) (kvals E i ks)
  | [], _ => rfl
  | .i _ :: ks, i => ⟨_, _, rfl, rfl, kav_spec E ks (i + 1)⟩
  | .b :: ks, i => ⟨_, _, rfl, rfl, kav_spec E ks (i + 1)⟩
  | .s :: ks, i => ⟨_, _, rfl, rfl, kav_spec E ks (i + 1)⟩

theorem KL.env {ks : List CK} {cs : List Value} (h : KL ks cs) : ∃ E : Env, cs = kvals E 0 ks ∧ E.fits ks := by
  let E : Env := ⟨fun i => match cs[i]? with | some (.int _ n) => n | _ => 0, fun i => match cs[i]? with | some (.bool b) => b | _ => false, fun i => match cs[i]? with | some (.string s) => s | _ => ⟨#[]⟩⟩
  have key : ∀ (ks : List CK) (l : List Value) (i : Nat), KL ks l → (∀ j, l[j]? = cs[i + j]?) → l = kvals E i ks ∧ ∀ (j : Nat) (k : CK), ks[j]? = some k → kfits E (i + j) k := by
    intro ks
    induction ks with
    | nil => intro l i h _; cases h; exact ⟨rfl, fun j k h => by simp at h⟩
    | cons k ks ih =>
      intro l i ⟨v, t, e, hv, ht⟩ hl
      subst e
      have h0 : cs[i]? = some v := by have := hl 0; simpa using this.symm
      obtain ⟨h1, h2⟩ := ih t (i + 1) ht (fun j => by have := hl (j + 1); simp only [List.getElem?_cons_succ] at this; rw [this]; congr 1; omega)
      constructor
      · rw [kvals, ← h1]
        congr 1
        cases k with
        | i k => obtain ⟨n, rfl, _⟩ := hv; simp [kval, E, h0]
        | b => obtain ⟨n, rfl⟩ := hv; simp [kval, E, h0]
        | s => obtain ⟨n, rfl, _⟩ := hv; simp [kval, E, h0]
      · intro j k' hj
        cases j with
        | zero =>
          simp at hj; subst hj
          cases k with
          | i k => obtain ⟨n, rfl, hw⟩ := hv; simpa [kfits, E, h0] using hw
          | b => trivial
          | s => obtain ⟨n, rfl, hw⟩ := hv; simpa [kfits, E, h0] using hw
        | succ j =>
          have := h2 j k' (by simpa using hj)
          rw [show i + (j + 1) = i + 1 + j by omega]
          exact this
  obtain ⟨h1, h2⟩ := key ks cs 0 h (fun j => by simp)
  exact ⟨E, h1, fun i k hk => by have := h2 i k hk; simpa using this⟩
end
end Go.XM

namespace Go.XM
open Go
section
variable {P : Program}

/-! ### Leaving behind what nobody names -/
mutual
def belowV (n : Nat) : AV → Bool
  | .ptr id _ => Nat.blt id n
  | .eptr id _ _ => Nat.blt id n
  | .sl _ id _ _ => Nat.blt id n
  | .e0 id => Nat.blt id n
  | .agg cs => belowL n cs
  | .tup vs => belowL n vs
  | .fn _ a b => belowL n a && belowL n b
  | .iface _ v => belowV n v
  | .int _ _ _ => true
  | .bool _ _ => true
  | .str _ _ => true
  | .nilp => true
  | .nils => true
  | .nilfn => true
  | .nilif => true
  | .raw _ => true
def belowL (n : Nat) : List AV → Bool
  | [] => true
  | a :: l => belowV n a && belowL n l
end

mutual
theorem VR.below {γ γ' : Gm} {n : Nat} (hg : ∀ id, id < n → γ' id = γ id) : ∀ {v : AV} {V : Value}, belowV n v = true → VR γ v V → VR γ' v V
  | .int .., _, _, r => r
  | .bool .., _, _, r => r
  | .str .., _, _, r => r
  | .nilp, _, _, r => r
  | .nils, _, _, r => r
  | .nilfn, _, _, r => r
  | .nilif, _, _, r => r
  | .ptr .., _, h, ⟨g, h1, h2⟩ => ⟨g, by rw [hg _ (Nat.blt_eq.mp h)]; exact h1, h2⟩
  | .eptr .., _, h, ⟨g, h1, h2⟩ => ⟨g, by rw [hg _ (Nat.blt_eq.mp h)]; exact h1, h2⟩
  | .sl .., _, h, ⟨g, ao, h1, h2⟩ => ⟨g, ao, by rw [hg _ (Nat.blt_eq.mp h)]; exact h1, h2⟩
  | .e0 .., _, h, ⟨g, ao, h1, h2⟩ => ⟨g, ao, by rw [hg _ (Nat.blt_eq.mp h)]; exact h1, h2⟩
  | .agg _, _, h, ⟨l, e, r⟩ => ⟨l, e, LR.below hg (by simpa [belowV] using h) r⟩
  | .tup _, _, h, ⟨l, e, r⟩ => ⟨l, e, LR.below hg (by simpa [belowV] using h) r⟩
  | .fn _ _ _, _, h, ⟨a, b, e, r, r'⟩ => by
    simp only [belowV, Bool.and_eq_true] at h
    exact ⟨a, b, e, LR.below hg h.1 r, LR.below hg h.2 r'⟩
  | .iface _ _, _, h, ⟨x, e, r⟩ => ⟨x, e, VR.below hg (by simpa [belowV] using h) r⟩
  | .raw _, _, _, r => r
theorem LR.below {γ γ' : Gm} {n : Nat} (hg : ∀ id, id < n → γ' id = γ id) : ∀ {v : List AV} {V : List Value}, belowL n v = true → LR γ v V → LR γ' v V
  | [], _, _, r => r
  | _ :: _, _, h, ⟨v, t, e, r, r'⟩ => by
    simp only [belowL, Bool.and_eq_true] at h
    exact ⟨v, t, e, VR.below hg h.1 r, LR.below hg h.2 r'⟩
end

def belowLL (n : Nat) : List (List AV) → Bool
  | [] => true
  | a :: l => belowL n a && belowLL n l
theorem belowL_append {n : Nat} : ∀ {a b : List AV}, belowL n a = true → belowL n b = true → belowL n (a ++ b) = true
  | [], _, _, h => h
  | x :: a, _, h, h' => by
    simp only [belowL, Bool.and_eq_true, List.cons_append] at h ⊢
    exact ⟨h.1, belowL_append h.2 h'⟩
theorem belowLL_flat {n : Nat} : ∀ {l : List (List AV)}, belowLL n l = true → belowL n l.flatten = true
  | [], _ => rfl
  | a :: l, h => by
    simp only [belowLL, Bool.and_eq_true] at h
    exact belowL_append h.1 (belowLL_flat h.2)

def belowE (n : Nat) : Ent → Bool
  | .dead => true
  | .cells cs => belowL n cs
  | .row _ _ _ xs => belowLL n xs
def belowM (n : Nat) : Mem → Bool
  | [] => true
  | e :: m => belowE n e && belowM n m
def belowR (n : Nat) : Regs → Bool
  | [] => true
  | (_, v) :: r => belowV n v && belowR n r

theorem belowM_get {n : Nat} : ∀ {m : Mem} {i : Nat} {e : Ent}, belowM n m = true → m[i]? = some e → belowE n e = true
  | [], i, e, _, h => by simp at h
  | a :: m, 0, e, hb, h => by
    simp only [belowM, Bool.and_eq_true] at hb
    simp at h; subst h; exact hb.1
  | a :: m, i + 1, e, hb, h => by
    simp only [belowM, Bool.and_eq_true] at hb
    exact belowM_get hb.2 (by simpa using h)

theorem belowR_get {n : Nat} : ∀ {r : Regs} {t : Nat} {v : AV}, belowR n r = true → get r t = some v → belowV n v = true
  | [], t, v, _, h => by simp [get] at h
  | (k, u) :: r, t, v, hb, h => by
    simp only [belowR, Bool.and_eq_true] at hb
    simp only [get] at h
    cases hk : Nat.beq k t with
    | true => rw [hk] at h; simp at h; subst h; exact hb.1
    | false => rw [hk] at h; exact belowR_get hb.2 h

theorem EntOk.below {γ γ' : Gm} {n : Nat} {w : World} {id : Nat} {e : Ent} (hg : ∀ id, id < n → γ' id = γ id) (hid : id < n) (hb : belowE n e = true) (h : EntOk γ w id e) : EntOk γ' w id e := by
  cases e with
  | dead => trivial
  | cells cs => obtain ⟨g, vs, T, h1, h2, h3, h4⟩ := h; exact ⟨g, vs, T, by rw [hg id hid]; exact h1, h2, h3.below hg hb, h4⟩
  | row ro sy sz xs => obtain ⟨g, pre, vs, rest, T, fr, h1, h2, h3, h4, h5, h6⟩ := h; exact ⟨g, pre, vs, rest, T, fr, by rw [hg id hid]; exact h1, h2, h3, h4, h5.below hg (belowLL_flat hb), h6⟩

theorem RO.below {γ γ' : Gm} {n N : Nat} {r : Regs} {a : Act} (hg : ∀ id, id < n → γ' id = γ id) (hb : belowR n r = true) (h : RO γ N r a) : RO γ' N r a :=
  ⟨h.defers, h.size, fun t v hv => let ⟨V, h1, h2⟩ := h.get t v hv; ⟨V, h1, h2.below hg (belowR_get hb hv)⟩⟩

/-- the relation forgets all but the first n entries. -/
def restr (γ : Gm) (n : Nat) : Gm := fun id => if id < n then γ id else none
theorem restr_lt {γ : Gm} {n id : Nat} (h : id < n) : restr γ n id = γ id := if_pos h
theorem restr_ge {γ : Gm} {n id : Nat} (h : n ≤ id) : restr γ n id = none := if_neg (by omega)

theorem MemOk.restr {H : Nat} {γ : Gm} {m : Mem} {w : World} (hm : MemOk H γ m w) (hb : belowM m.length m = true) (H' : Nat) : MemOk H' (restr γ m.length) m w := by
  refine ⟨fun id e he => ?_, fun id g hg => ?_, fun i j ei ej gi gj hij hi hj h1 h2 hgi hgj => ?_⟩
  · have hlt := (List.getElem?_eq_some_iff.1 he).1
    exact (hm.ent id e he).below (fun k hk => restr_lt hk) hlt (belowM_get hb he)
  · rcases Nat.lt_or_ge id m.length with h | h
    · rw [restr_lt h] at hg; exact ⟨.inl h, (hm.dom id g hg).2⟩
    · rw [restr_ge h] at hg; cases hg
  · rw [restr_lt (List.getElem?_eq_some_iff.1 hi).1] at hgi
    rw [restr_lt (List.getElem?_eq_some_iff.1 hj).1] at hgj
    exact hm.sep i j ei ej gi gj hij hi hj h1 h2 hgi hgj

/-- the first n entries of a run's end, under the old numbers. -/
theorem trimmed {H H' n : Nat} {γ γ2 : Gm} {m m2 : Mem} {w w' : World} (hm : MemOk H γ m w) (hn : m.length ≤ n) (hn2 : n ≤ m2.length) (hH : n ≤ H) (hb : belowM n (m2.take n) = true)
    (hm2 : MemOk H' γ2 m2 w') (hs : SF (restr γ m.length) m w γ2 m2 w') :
    ∃ γ' : Gm, (∀ id, id < n → γ' id = γ2 id) ∧ MemOk H γ' (m2.take n) w' ∧ SF γ m w γ' (m2.take n) w' := by
  let γ' : Gm := fun id => if id < n then γ2 id else γ id
  have lo : ∀ id, id < n → γ' id = γ2 id := fun id h => if_pos h
  have hi : ∀ id, n ≤ id → γ' id = γ id := fun id h => if_neg (by omega)
  have tk : ∀ id e, (m2.take n)[id]? = some e → id < n ∧ m2[id]? = some e := fun id e h => by
    rw [List.getElem?_take] at h
    split at h
    · rename_i hlt; exact ⟨hlt, h⟩
    · cases h
  have old : ∀ id, id < m.length → γ2 id = γ id := fun id h => by rw [hs.back id (.inl h), restr_lt h]
  have foot : ∀ b, Foot (restr γ m.length) m b → Foot γ m b := by
    rintro b ⟨id, e, g, h1, h2, h3, h4⟩
    rw [restr_lt (List.getElem?_eq_some_iff.1 h1).1] at h3
    exact ⟨id, e, g, h1, h2, h3, h4⟩
  have live : ∀ b, Lv (restr γ m.length) m b → Lv γ m b := by
    rintro b ⟨id, e, g, h1, h2, h3, h4⟩
    rw [restr_lt (List.getElem?_eq_some_iff.1 h1).1] at h3
    exact ⟨id, e, g, h1, h2, h3, h4⟩
  have hlen : (m2.take n).length = n := by simp; omega
  refine ⟨γ', lo, ⟨fun id e he => ?_, fun id g hg => ?_, fun i j ei ej gi gj hij hi' hj h1 h2 hgi hgj => ?_⟩, ⟨fun id g hg => ?_, hs.os, hs.tape, hs.output, hs.size, fun k hk hf => hs.keep k hk fun h => hf (foot k h), ?_, ?_, by rw [hlen]; exact hn, fun id hid => ?_⟩⟩
  · obtain ⟨hlt, he2⟩ := tk id e he
    exact (hm2.ent id e he2).below lo hlt (belowM_get hb he)
  · rcases Nat.lt_or_ge id n with h | h
    · rw [lo id h] at hg
      exact ⟨.inl (by rw [hlen]; exact h), (hm2.dom id g hg).2⟩
    · rw [hi id h] at hg
      have := hm.dom id g hg
      exact ⟨.inr (by omega), Nat.lt_of_lt_of_le this.2 hs.size⟩
  · obtain ⟨hli, hi2⟩ := tk i ei hi'
    obtain ⟨hlj, hj2⟩ := tk j ej hj
    rw [lo i hli] at hgi
    rw [lo j hlj] at hgj
    exact hm2.sep i j ei ej gi gj hij hi2 hj2 h1 h2 hgi hgj
  · rcases Nat.lt_or_ge id n with h | h
    · rw [lo id h]
      rcases (hm.dom id g hg).1 with hlt | hge
      · rw [old id hlt]; exact hg
      · omega
    · rw [hi id h]; exact hg
  · rintro b ⟨id, e, g, h1, h2, h3, h4⟩
    obtain ⟨hlt, he2⟩ := tk id e h1
    rw [lo id hlt] at h3
    exact (hs.foot b ⟨id, e, g, he2, h2, h3, h4⟩).imp (foot b) (fun h => h)
  · rintro b ⟨id, e, g, h1, h2, h3, h4⟩
    obtain ⟨hlt, he2⟩ := tk id e h1
    rw [lo id hlt] at h3
    exact (hs.live b ⟨id, e, g, he2, h2, h3, h4⟩).imp (live b) (fun h => h)
  · rcases hid with h | h
    · rw [lo id (by omega), old id h]
    · rw [hi id (by rw [hlen] at h; exact h)]

theorem CodeA.trim {N n : Nat} {c : Code} {r r' : Regs} {m m' : Mem} {e : Ex} (h : CodeA P N c r m e r' m') (hr : belowR m.length r = true) (hm : belowM m.length m = true) (hn : m.length ≤ n) (hn2 : n ≤ m'.length) (hr' : belowR n r' = true) (hm' : belowM n (m'.take n) = true) :
    CodeA P N c r m e r' (m'.take n) := by
  have hlen : (m'.take n).length = n := by simp; omega
  refine ⟨by rw [hlen]; exact hn, fun H γ a w Q hH hra hma hk => ?_⟩
  rw [hlen] at hH
  refine h.2 m'.length (restr γ m.length) a w Q (Nat.le_refl _) (hra.below (fun id hid => restr_lt hid) hr) (hma.restr hm _) ?_
  intro γ2 a' w' hr2 hm2 hs
  obtain ⟨γ', lo, h1, h2⟩ := trimmed hma hn hn2 hH hm' hm2 hs
  exact hk γ' a' w' (hr2.below lo hr') h1 h2

/-! ### Marks in memory -/
def flagL : List AV → List AV
  | [] => []
  | a :: l => flag1 a :: flagL l
def flagLL : List (List AV) → List (List AV)
  | [] => []
  | a :: l => flagL a :: flagLL l
def flagE : Ent → Ent
  | .dead => .dead
  | .cells cs => .cells (flagL cs)
  | .row ro sy sz xs => .row ro sy sz (flagLL xs)
def flagM : Mem → Mem
  | [] => []
  | e :: m => flagE e :: flagM m

theorem flagL_spec {γ : Gm} : ∀ {l : List AV} {V : List Value}, LR γ (flagL l) V ↔ LR γ l V
  | [], _ => Iff.rfl
  | a :: l, V => by
    constructor
    · rintro ⟨v, t, e, h1, h2⟩; exact ⟨v, t, e, flag1_spec.1 h1, flagL_spec.1 h2⟩
    · rintro ⟨v, t, e, h1, h2⟩; exact ⟨v, t, e, flag1_spec.2 h1, flagL_spec.2 h2⟩

theorem flagL_len : ∀ (l : List AV), (flagL l).length = l.length
  | [] => rfl
  | _ :: l => by simp [flagL, flagL_len l]
theorem flagL_append : ∀ (a b : List AV), flagL (a ++ b) = flagL a ++ flagL b
  | [], _ => rfl
  | x :: a, b => by simp [flagL, flagL_append a b]
theorem flagLL_flat : ∀ (l : List (List AV)), (flagLL l).flatten = flagL l.flatten
  | [] => rfl
  | a :: l => by simp [flagLL, flagL_append, flagLL_flat l]
theorem flagLL_mem {sz : Nat} : ∀ {l : List (List AV)}, (∀ x ∈ l, x.length = sz) ↔ (∀ x ∈ flagLL l, x.length = sz)
  | [] => by simp [flagLL]
  | a :: l => by simp [flagLL, flagL_len, flagLL_mem (l := l)]

theorem flagE_spec {γ : Gm} {w : World} {id : Nat} {e : Ent} : EntOk γ w id (flagE e) ↔ EntOk γ w id e := by
  cases e with
  | dead => exact Iff.rfl
  | cells cs =>
    constructor
    · rintro ⟨g, vs, T, h1, h2, h3, h4⟩; exact ⟨g, vs, T, h1, h2, flagL_spec.1 h3, h4⟩
    · rintro ⟨g, vs, T, h1, h2, h3, h4⟩; exact ⟨g, vs, T, h1, h2, flagL_spec.2 h3, h4⟩
  | row ro sy sz xs =>
    constructor
    · rintro ⟨g, pre, vs, rest, T, fr, h1, h2, h3, h4, h5, h6, h7⟩
      rw [flagLL_flat] at h5
      exact ⟨g, pre, vs, rest, T, fr, h1, h2, h3, h4, flagL_spec.1 h5, flagLL_mem.2 h6, h7⟩
    · rintro ⟨g, pre, vs, rest, T, fr, h1, h2, h3, h4, h5, h6, h7⟩
      refine ⟨g, pre, vs, rest, T, fr, h1, h2, h3, h4, ?_, flagLL_mem.1 h6, h7⟩
      rw [flagLL_flat]; exact flagL_spec.2 h5

theorem flagE_rw (e : Ent) : (flagE e).rw = e.rw := by cases e <;> rfl
theorem flagE_live (e : Ent) : (flagE e).live = e.live := by cases e <;> rfl
theorem flagM_len : ∀ (m : Mem), (flagM m).length = m.length
  | [] => rfl
  | _ :: m => by simp [flagM, flagM_len m]
theorem flagM_get : ∀ (m : Mem) (i : Nat), (flagM m)[i]? = (m[i]?).map flagE
  | [], _ => rfl
  | _ :: _, 0 => rfl
  | _ :: m, i + 1 => by simpa [flagM] using flagM_get m i

theorem MemOk.flag {H : Nat} {γ : Gm} {m : Mem} {w : World} : MemOk H γ (flagM m) w ↔ MemOk H γ m w := by
  have get1 : ∀ {i e}, m[i]? = some e → (flagM m)[i]? = some (flagE e) := fun h => by rw [flagM_get, h]; rfl
  have get2 : ∀ {i e}, (flagM m)[i]? = some e → ∃ e', m[i]? = some e' ∧ e = flagE e' := fun {i e} h => by
    rw [flagM_get] at h
    cases hx : m[i]? with
    | none => rw [hx] at h; cases h
    | some e' => rw [hx] at h; cases h; exact ⟨e', hx, rfl⟩
  constructor
  · intro hm
    refine ⟨fun id e he => flagE_spec.1 (hm.ent id _ (get1 he)), fun id g hg => by have := hm.dom id g hg; rwa [flagM_len] at this, fun i j ei ej gi gj hij hi hj h1 h2 => hm.sep i j _ _ gi gj hij (get1 hi) (get1 hj) (by rw [flagE_rw]; exact h1) (by rw [flagE_live]; exact h2)⟩
  · intro hm
    refine ⟨fun id e he => ?_, fun id g hg => by rw [flagM_len]; exact hm.dom id g hg, fun i j ei ej gi gj hij hi hj h1 h2 => ?_⟩
    · obtain ⟨e', h1, rfl⟩ := get2 he
      exact flagE_spec.2 (hm.ent id e' h1)
    · obtain ⟨e1, h3, rfl⟩ := get2 hi
      obtain ⟨e2, h4, rfl⟩ := get2 hj
      rw [flagE_rw] at h1
      rw [flagE_live] at h2
      exact hm.sep i j e1 e2 gi gj hij h3 h4 h1 h2

theorem Foot.flag {γ : Gm} {m : Mem} {b : Nat} : Foot γ (flagM m) b ↔ Foot γ m b := by
  constructor
  · rintro ⟨id, e, g, h1, h2, h3⟩
    rw [flagM_get] at h1
    cases hx : m[id]? with
    | none => rw [hx] at h1; cases h1
    | some e' => rw [hx] at h1; cases h1; rw [flagE_rw] at h2; exact ⟨id, e', g, hx, h2, h3⟩
  · rintro ⟨id, e, g, h1, h2, h3⟩
    exact ⟨id, flagE e, g, by rw [flagM_get, h1]; rfl, by rw [flagE_rw]; exact h2, h3⟩
theorem Lv.flag {γ : Gm} {m : Mem} {b : Nat} : Lv γ (flagM m) b ↔ Lv γ m b := by
  constructor
  · rintro ⟨id, e, g, h1, h2, h3⟩
    rw [flagM_get] at h1
    cases hx : m[id]? with
    | none => rw [hx] at h1; cases h1
    | some e' => rw [hx] at h1; cases h1; rw [flagE_live] at h2; exact ⟨id, e', g, hx, h2, h3⟩
  · rintro ⟨id, e, g, h1, h2, h3⟩
    exact ⟨id, flagE e, g, by rw [flagM_get, h1]; rfl, by rw [flagE_live]; exact h2, h3⟩

theorem SF.flagR {γ γ' : Gm} {m m' : Mem} {w w' : World} (h : SF γ m w γ' m' w') : SF γ m w γ' (flagM m') w' :=
  ⟨h.ext, h.os, h.tape, h.output, h.size, h.keep, fun b hb => h.foot b (Foot.flag.1 hb), fun b hb => h.live b (Lv.flag.1 hb), by rw [flagM_len]; exact h.len, by rw [flagM_len]; exact h.back⟩
theorem SF.flagL {γ γ' : Gm} {m m' : Mem} {w w' : World} (h : SF γ (flagM m) w γ' m' w') : SF γ m w γ' m' w' :=
  ⟨h.ext, h.os, h.tape, h.output, h.size, fun k hk hf => h.keep k hk fun hb => hf (Foot.flag.1 hb), fun b hb => (h.foot b hb).imp Foot.flag.1 (fun h => h), fun b hb => (h.live b hb).imp Lv.flag.1 (fun h => h), by have := h.len; rwa [flagM_len] at this, by have := h.back; rwa [flagM_len] at this⟩

theorem CodeA.flagR {N : Nat} {c : Code} {r r' : Regs} {m m' : Mem} {e : Ex} (h : CodeA P N c r m e r' m') : CodeA P N c r m e r' (flagM m') :=
  ⟨by rw [flagM_len]; exact h.1, fun H γ a w Q hH hr hm hk => h.2 H γ a w Q (by rwa [flagM_len] at hH) hr hm fun γ' a' w' hr' hm' hs => hk γ' a' w' hr' (MemOk.flag.2 hm') hs.flagR⟩

/-- the loop is looked at from marked memory. -/
theorem LoopA.flagL {N : Nat} {c : Code} {r r' : Regs} {m m' : Mem} {e : Ex} (h : LoopA P N c r (flagM m) e r' m') : LoopA P N c r m e r' m' :=
  ⟨by have := h.1; rwa [flagM_len] at this, fun H γ a w Q hH hr hm hk => h.2 H γ a w Q hH hr (MemOk.flag.2 hm) fun γ' a' w' hr' hm' hs => hk γ' a' w' hr' hm' hs.flagL⟩

/-- a run's end: how it ends, some slots, the first n entries marked, whether all that is named lies there. -/
def codeTrim (ks : List Nat) (n : Nat) : Res COut → Option (Ex × Regs × Mem × Bool × List Prop)
  | .ok (e, r, m, _, o) => some (e, pickR ks r, flagM (m.take n), (Nat.ble n (len' m) && belowR n (pickR ks r) && belowM n (m.take n)), facts o)
  | .no _ => none

theorem codeA_trim {call : CallFn} (hcall : CallOk P call) (hmix : P.follows .mixedOrders = true) {N k n : Nat} {c : Code} {r r' : Regs} {m m' : Mem} {st : List Ch} {e : Ex} {ks : List Nat} {ps : List Prop}
    (h : (codeTrim ks n (xcode P call (LoopA P) N k c r m st), leftsC (xcode P call (LoopA P) N k c r m st)) = (some (e, r', m', true, ps), rightsC (xcode P call (LoopA P) N k c r m st))) (hp : allP ps)
    (hb : (belowR m.length r && belowM m.length m) = true) (hn : m.length ≤ n) : CodeA P N c r m e r' m' := by
  simp only [Bool.and_eq_true] at hb
  cases hx : xcode P call (LoopA P) N k c r m st with
  | no e => rw [hx] at h; simp [codeTrim] at h
  | ok q =>
    obtain ⟨e1, r1, m1, st1, o1⟩ := q
    rw [hx] at h
    simp only [codeTrim, leftsC, rightsC, Prod.mk.injEq, Option.some.injEq, Bool.and_eq_true] at h
    obtain ⟨⟨rfl, rfl, rfl, ⟨⟨hlen, h1⟩, h2⟩, rfl⟩, he⟩ := h
    have ho := obs_of (allP_mem hp) he
    have hA : CodeA P N c r m e1 (pickR ks r1) m1 := ⟨xcode_len hcall k hx ho, fun H γ a w Q hH hr hm hk => xcode_spec hcall hmix hx ho hr hm hH fun γ' a' w' hr' hm' hsf => hk γ' a' w' (hr'.pick ks) hm' hsf⟩
    have hlen := Nat.le_of_ble_eq_true hlen
    rw [len_eq] at hlen
    exact (hA.trim hb.1 hb.2 hn hlen h1 h2).flagR

/-- the same, unmarked. -/
def codeCut (ks : List Nat) (n : Nat) : Res COut → Option (Ex × Regs × Mem × Bool × List Prop)
  | .ok (e, r, m, _, o) => some (e, pickR ks r, m.take n, (Nat.ble n (len' m) && belowR n (pickR ks r) && belowM n (m.take n)), facts o)
  | .no _ => none

theorem codeA_cut {call : CallFn} (hcall : CallOk P call) (hmix : P.follows .mixedOrders = true) {N k n : Nat} {c : Code} {r r' : Regs} {m m' : Mem} {st : List Ch} {e : Ex} {ks : List Nat} {ps : List Prop}
    (h : (codeCut ks n (xcode P call (LoopA P) N k c r m st), leftsC (xcode P call (LoopA P) N k c r m st)) = (some (e, r', m', true, ps), rightsC (xcode P call (LoopA P) N k c r m st))) (hp : allP ps)
    (hb : (belowR m.length r && belowM m.length m) = true) (hn : m.length ≤ n) : CodeA P N c r m e r' m' := by
  simp only [Bool.and_eq_true] at hb
  cases hx : xcode P call (LoopA P) N k c r m st with
  | no e => rw [hx] at h; simp [codeCut] at h
  | ok q =>
    obtain ⟨e1, r1, m1, st1, o1⟩ := q
    rw [hx] at h
    simp only [codeCut, leftsC, rightsC, Prod.mk.injEq, Option.some.injEq, Bool.and_eq_true] at h
    obtain ⟨⟨rfl, rfl, rfl, ⟨⟨hlen, h1⟩, h2⟩, rfl⟩, he⟩ := h
    have ho := obs_of (allP_mem hp) he
    have hA : CodeA P N c r m e1 (pickR ks r1) m1 := ⟨xcode_len hcall k hx ho, fun H γ a w Q hH hr hm hk => xcode_spec hcall hmix hx ho hr hm hH fun γ' a' w' hr' hm' hsf => hk γ' a' w' (hr'.pick ks) hm' hsf⟩
    have hlen := Nat.le_of_ble_eq_true hlen
    rw [len_eq] at hlen
    exact hA.trim hb.1 hb.2 hn hlen h1 h2

/-- the entries of some numbers, the others given up. -/
def keepM (ids : List Nat) : Nat → Mem → Mem
  | _, [] => []
  | k, e :: m => (bif hasN k ids then e else .dead) :: keepM ids (k + 1) m

theorem keepM_len (ids : List Nat) : ∀ (m : Mem) (k : Nat), (keepM ids k m).length = m.length
  | [], _ => rfl
  | _ :: m, k => by simp [keepM, keepM_len ids m (k + 1)]
theorem keepM_get (ids : List Nat) : ∀ (m : Mem) (k i : Nat) (e : Ent), (keepM ids k m)[i]? = some e → e = .dead ∨ m[i]? = some e
  | [], _, i, e, h => by simp [keepM] at h
  | a :: m, k, 0, e, h => by
    simp only [keepM, List.getElem?_cons_zero, Option.some.injEq] at h
    cases hb : hasN k ids with
    | true => rw [hb] at h; exact .inr (by simpa using h)
    | false => rw [hb] at h; exact .inl h.symm
  | a :: m, k, i + 1, e, h => by
    simp only [keepM, List.getElem?_cons_succ] at h
    rcases keepM_get ids m (k + 1) i e h with h | h
    · exact .inl h
    · exact .inr (by simpa using h)

theorem MemOk.keep {H : Nat} {γ : Gm} {m : Mem} {w : World} (hm : MemOk H γ m w) (ids : List Nat) : MemOk H γ (keepM ids 0 m) w := by
  refine ⟨fun id e he => ?_, fun id g hg => by rw [keepM_len]; exact hm.dom id g hg, fun i j ei ej gi gj hij hi hj h1 h2 => ?_⟩
  · rcases keepM_get ids m 0 id e he with rfl | h
    · trivial
    · exact hm.ent id e h
  · rcases keepM_get ids m 0 i ei hi with rfl | hi
    · simp [Ent.rw] at h1
    · rcases keepM_get ids m 0 j ej hj with rfl | hj
      · simp [Ent.live] at h2
      · exact hm.sep i j ei ej gi gj hij hi hj h1 h2

theorem Foot.keep {γ : Gm} {m : Mem} {ids : List Nat} {b : Nat} (h : Foot γ (keepM ids 0 m) b) : Foot γ m b := by
  obtain ⟨id, e, g, h1, h2, h3⟩ := h
  rcases keepM_get ids m 0 id e h1 with rfl | h
  · simp [Ent.rw] at h2
  · exact ⟨id, e, g, h, h2, h3⟩
theorem Lv.keep {γ : Gm} {m : Mem} {ids : List Nat} {b : Nat} (h : Lv γ (keepM ids 0 m) b) : Lv γ m b := by
  obtain ⟨id, e, g, h1, h2, h3⟩ := h
  rcases keepM_get ids m 0 id e h1 with rfl | h
  · simp [Ent.live] at h2
  · exact ⟨id, e, g, h, h2, h3⟩

theorem LoopA.keep {N : Nat} {c : Code} {r r' : Regs} {m m' : Mem} {e : Ex} (ids : List Nat) (h : LoopA P N c r (keepM ids 0 m) e r' m') : LoopA P N c r m e r' m' :=
  ⟨by have := h.1; rwa [keepM_len] at this, fun H γ a w Q hH hr hm hk => h.2 H γ a w Q hH hr (hm.keep ids) fun γ' a' w' hr' hm' hs => hk γ' a' w' hr' hm'
    ⟨hs.ext, hs.os, hs.tape, hs.output, hs.size, fun k hk hf => hs.keep k hk fun hb => hf hb.keep, fun b hb => (hs.foot b hb).imp Foot.keep (fun h => h), fun b hb => (hs.live b hb).imp Lv.keep (fun h => h), by have := hs.len; rwa [keepM_len] at this, by have := hs.back; rwa [keepM_len] at this⟩⟩
end
end Go.XM

