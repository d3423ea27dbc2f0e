/-
  Code and regions in whatever order: a symbolic run does what the model does. For whatever program; the conditions stand in each statement.
-/
import Derived.Test.YthhncnifpahgdaaXmB
namespace Go.XM
open Go
section
variable {P : Program} {H : Nat}

/-- A call's contract, of abstract states. -/
def CallsA (P : Program) (f : FuncId) (args : List AV) (m : Mem) (v : AV) (m' : Mem) : Prop :=
  m.length ≤ m'.length ∧ ∀ (H : Nat) (γ : Gm) (w : World) (Vs : List Value), m'.length ≤ H → MemOk H γ m w → LR γ args Vs → Calls P f Vs.toArray w fun e w' => ∃ V γ', e = .returned V ∧ VR γ' v V ∧ MemOk H γ' m' w' ∧ SF γ m w γ' m' w'

/-- A call of a function without a body, of abstract states. -/
def ExtA (P : Program) (f : FuncId) (args : List AV) (m : Mem) (v : AV) (m' : Mem) : Prop :=
  m.length ≤ m'.length ∧ ∀ (H : Nat) (γ : Gm) (w : World) (Vs : List Value), m'.length ≤ H → MemOk H γ m w → LR γ args Vs → ∃ V γ' w', (callFunc f Vs.toArray).run P w = .ok (.value V) w' ∧ VR γ' v V ∧ MemOk H γ' m' w' ∧ SF γ m w γ' m' w'

def CallA (P : Program) (f : FuncId) (args : List AV) (m : Mem) (v : AV) (m' : Mem) : Prop :=
  (enters P f = true ∧ CallsA P f args m v m') ∨ (enters P f = false ∧ ExtA P f args m v m')

theorem CallA.len {P : Program} {f : FuncId} {args : List AV} {m m' : Mem} {v : AV} (h : CallA P f args m v m') : m.length ≤ m'.length := by
  rcases h with ⟨_, h⟩ | ⟨_, h⟩ <;> exact h.1

def CallOk (P : Program) (call : CallFn) : Prop := ∀ f args m st v m' st' o, call f args m st = .ok (v, m', st', o) → (∀ q ∈ o, q) → CallA P f args m v m'

theorem get_put {N : Nat} {r r' : Regs} {d : Option Tmp} {v : AV} (h : put N r d v = some r') : ∀ t, get r' t = if d = some t then some v else get r t := by
  intro t
  cases d with
  | none => simp [put] at h; subst h; simp
  | some d =>
    simp only [put] at h
    obtain ⟨_, h⟩ := bif_some h
    simp at h; subst h
    simp only [get_cons]
    by_cases hdt : d = t
    · subst hdt; simp
    · have : Nat.beq d t = false := by
        cases hb : Nat.beq d t with
        | false => rfl
        | true => exact absurd (Nat.eq_of_beq_eq_true hb) hdt
      simp [this, hdt]

theorem RO.put {γ : Gm} {N : Nat} {r r' : Regs} {a : Act} {d : Option Tmp} {v : AV} {V : Value} (hr : RO γ N r a) (h : put N r d v = some r') (hv : VR γ v V) : RO γ N r' (a.put d V) := by
  have hg := get_put h
  cases d with
  | none =>
    refine ⟨hr.defers, hr.size, fun t u ht => ?_⟩
    rw [hg] at ht; simp at ht
    exact hr.get t u ht
  | some d =>
    have hlt : d < N := by
      simp only [XM.put] at h
      obtain ⟨hb, _⟩ := bif_some h
      exact Nat.blt_eq.mp hb
    refine ⟨hr.defers, by simp [Act.put, hr.size], fun t u ht => ?_⟩
    rw [hg] at ht
    by_cases hdt : d = t
    · subst hdt
      simp at ht; subst ht
      exact ⟨V, by simp [Act.put, hr.size, hlt], hv⟩
    · rw [if_neg (by simpa using hdt)] at ht
      obtain ⟨W, h1, h2⟩ := hr.get t u ht
      exact ⟨W, by simp [Act.put, Array.getElem?_setIfInBounds_ne hdt, h1], h2⟩

/-- the guard says what the operation's frame says. -/
theorem xguard_spec {γ : Gm} {N : Nat} {ops : List Oper} {r : Regs} {a : Act} {o : Oper} {st st' : List Ch} {b : Bool} {ob : Obs} (h : xguard ops r o.guard st = some (b, st', ob)) (ho : ∀ q ∈ ob, q) (hr : RO γ N r a) :
    Region.wanted o (yielded ops.toArray a.tmps) = b := by
  unfold xguard at h
  unfold Region.wanted
  cases hg : o.guard with
  | none => rw [hg] at h; simp at h; rw [← h.1]
  | some g =>
    obtain ⟨j, want⟩ := g
    rw [hg] at h
    simp only [nth_eq] at h ⊢
    cases hj : ops[j]? with
    | none => rw [hj] at h; simp at h
    | some q =>
      rw [hj] at h
      simp only at h
      cases hd : q.dst with
      | none => rw [hd] at h; simp at h
      | some d =>
        rw [hd] at h
        simp only at h
        split at h
        · rename_i c hc
          simp at h
          obtain ⟨rfl, _, _⟩ := h
          obtain ⟨V, h1, h2⟩ := hr.get d _ hc
          cases h2
          simp [yielded, hj, hd, h1]
        · rename_i c hc
          obtain ⟨V, h1, h2⟩ := hr.get d _ hc
          cases h2
          split at h
          · simp at h
            obtain ⟨rfl, _, rfl⟩ := h
            have hb : c = true := ho (.fact _) (List.mem_singleton.2 rfl)
            simp [yielded, hj, hd, h1, hb]
          · simp at h
            obtain ⟨rfl, _, rfl⟩ := h
            have hb : c = false := ho (.fact _) (List.mem_singleton.2 rfl)
            simp [yielded, hj, hd, h1, hb]
          · simp at h
        · simp at h

theorem enters_run {f : FuncId} (he : enters P f = true) (Vs : Array Value) (w : World) : (callFunc f Vs).run P w = .ok (.enter f Vs) w := by
  unfold enters at he
  cases hfn : P.funcs[f]? with
  | none => rw [hfn] at he; simp at he
  | some fn =>
    rw [hfn] at he
    simp only [Bool.and_eq_true, Bool.not_eq_true'] at he
    obtain ⟨hb, hn⟩ := he
    have hb' : fn.body.isNone = false := by cases hbb : fn.body <;> simp [hbb] at hb ⊢
    simp only [callFunc, run_program, Sem.run_bind, Result.andThen_ok, hfn, hn, hb', Bool.false_eq_true, if_false]
    simp

theorem xcallee_spec {γ : Gm} {N : Nat} {o : Oper} {r : Regs} {a : Act} {f : FuncId} {args : List AV} (h : xcallee o.op r = some (f, args)) (hr : RO γ N r a) (w : World) :
    ∃ Vs : List Value, LR γ args Vs ∧ (execOp a.eval o).run P w = (callFunc f Vs.toArray).run P w := by
  obtain ⟨dst, op, ty, pos, after, guard⟩ := o
  unfold xcallee at h
  simp only at h
  cases op with
  | call c =>
    obtain ⟨callee, as, ats⟩ := c
    cases callee with
    | value fo =>
      simp only at h
      cases hl : evs r as.toList with
      | none => rw [hl] at h; simp at h
      | some l =>
        rw [hl] at h; simp only at h
        split at h
        · rename_i k first cap hf
          simp at h; obtain ⟨rfl, rfl⟩ := h
          obtain ⟨A, B, hfv, hA, hB⟩ := ev_spec hf hr
          have hargs := evs_spec hr hl
          have hmap : as.map a.eval = (as.toList.map a.eval).toArray := by apply Array.toList_inj.1; simp
          refine ⟨A ++ (as.toList.map a.eval) ++ B, by rw [← List.append_assoc]; exact (hA.append hargs).append hB, ?_⟩
          simp only [execOp, resolve, hfv, Deferred.ofValue, Sem.run_bind, Sem.run_pure, Result.andThen_ok, invoke, hmap]
          simp
        · simp at h
    | _ => simp at h
  | _ => simp at h

/-- one step. -/
theorem xstep_len {call : CallFn} (hcall : CallOk P call) {o : Oper} {r : Regs} {m m' : Mem} {st st' : List Ch} {v : AV} {ob : Obs} (h : xstep P call o r m st = .ok (v, m', st', ob)) (ho : ∀ q ∈ ob, q) : m.length ≤ m'.length := by
  unfold xstep at h
  split at h
  · split at h
    · exact (hcall _ _ _ _ _ _ _ _ h ho).len
    · simp at h
  · split at h
    · rename_i hx
      simp at h; subst h
      exact xop_len hx
    · simp at h

theorem xops_len {call : CallFn} (hcall : CallOk P call) {N : Nat} {ops : List Oper} : ∀ {l : List Oper} {r r' : Regs} {m m' : Mem} {st st' : List Ch} {ob : Obs}, xops P call N ops l r m st = .ok (r', m', st', ob) → (∀ q ∈ ob, q) → m.length ≤ m'.length
  | [], r, r', m, m', st, st', ob, h, _ => by simp [xops] at h; obtain ⟨_, rfl, _⟩ := h; exact Nat.le_refl _
  | o :: l, r, r', m, m', st, st', ob, h, ho => by
    simp only [xops] at h
    split at h
    · split at h
      · rename_i hs
        split at h
        · split at h
          · rename_i hrest
            simp at h; obtain ⟨_, rfl, _, rfl⟩ := h
            exact Nat.le_trans (xstep_len hcall hs fun q hq => ho q (by simp [hq])) (xops_len hcall hrest fun q hq => ho q (by simp [hq]))
          · simp at h
        · simp at h
      · simp at h
    · split at h
      · split at h
        · rename_i hrest
          simp at h; obtain ⟨_, rfl, _, rfl⟩ := h
          exact xops_len hcall hrest fun q hq => ho q (by simp [hq])
        · simp at h
      · simp at h
    · simp at h

theorem xstep_spec {γ : Gm} {N : Nat} {call : CallFn} (hcall : CallOk P call) {o : Oper} {r : Regs} {a : Act} {m m' : Mem} {w : World} {st st' : List Ch} {v : AV} {ob : Obs} (h : xstep P call o r m st = .ok (v, m', st', ob)) (ho : ∀ q ∈ ob, q)
    (hr : RO γ N r a) (hm : MemOk H γ m w) (hH : m'.length ≤ H) {K : Act → World → Prop} {Q : Exit → Act → World → Prop}
    (hk : ∀ γ' w' V, VR γ' v V → MemOk H γ' m' w' → SF γ m w γ' m' w' → K (a.put o.dst V) w') : o.wp P a w K Q := by
  unfold xstep at h
  cases hc : isCall o.op with
  | true =>
    rw [hc] at h
    simp only at h
    cases hx : xcallee o.op r with
    | none => rw [hx] at h; simp at h
    | some q =>
      obtain ⟨f, args⟩ := q
      rw [hx] at h
      simp only at h
      obtain ⟨Vs, hV, hrun⟩ := xcallee_spec (P := P) hx hr w
      rcases hcall f args m st v m' st' ob h ho with ⟨he, hca⟩ | ⟨he, hca⟩
      · have hca := hca.2 H γ w Vs hH hm hV
        unfold Oper.wp
        rw [hrun, enters_run he, Oper.upon_enter]
        refine Calls.mono hca ?_
        rintro e w' ⟨V, γ', rfl, hv, hm', hf⟩
        exact hk γ' w' V hv hm' hf
      · obtain ⟨V, γ', w', hr', hv, hm', hf⟩ := hca.2 H γ w Vs hH hm hV
        unfold Oper.wp
        rw [hrun, hr', Oper.upon_value]
        exact hk γ' w' V hv hm' hf
  | false =>
    rw [hc] at h
    simp only at h
    cases hx : xop P o.type o.op r m st with
    | none => rw [hx] at h; simp at h
    | some q =>
      rw [hx] at h
      simp at h
      subst h
      obtain ⟨γ', w', Nx, V, hrun, hN, hv, hm', hf⟩ := xop_spec hx ho hr hm hH
      unfold Oper.wp
      rw [hrun]
      rcases hN with rfl | ⟨rfl, rfl⟩
      · rw [Oper.upon_value]; exact hk γ' w' V hv hm' hf
      · rw [Oper.upon_skip]; exact hk γ' w' undef hv hm' hf

theorem xops_spec {call : CallFn} (hcall : CallOk P call) {N : Nat} {ops : List Oper} {Q : Exit → Act → World → Prop} : ∀ {l : List Oper} {r r' : Regs} {m m' : Mem} {st st' : List Ch} {ob : Obs} {γ : Gm} {a : Act} {w : World},
    xops P call N ops l r m st = .ok (r', m', st', ob) → (∀ q ∈ ob, q) → RO γ N r a → MemOk H γ m w → m'.length ≤ H →
    (∀ γ' a' w', RO γ' N r' a' → MemOk H γ' m' w' → SF γ m w γ' m' w' → Q .normal a' w') → wpList P ops.toArray Q l a w
  | [], r, r', m, m', st, st', ob, γ, a, w, h, _, hr, hm, _, hk => by
    simp [xops] at h; obtain ⟨rfl, rfl, _, _⟩ := h
    exact wpList_nil (hk γ a w hr hm (SF.refl _ _ _))
  | o :: l, r, r', m, m', st, st', ob, γ, a, w, h, ho, hr, hm, hH, hk => by
    simp only [xops] at h
    cases hg : xguard ops r o.guard st with
    | none => rw [hg] at h; simp at h
    | some q =>
      obtain ⟨b, st1, g⟩ := q
      rw [hg] at h
      have hw := fun ho => xguard_spec hg ho hr
      cases b with
      | true =>
        simp only at h
        cases hs : xstep P call o r m st1 with
        | no e => rw [hs] at h; simp at h
        | ok q =>
          obtain ⟨v, m1, st2, ob1⟩ := q
          rw [hs] at h; simp only at h
          cases hp : put N r o.dst v with
          | none => rw [hp] at h; simp at h
          | some r1 =>
            rw [hp] at h; simp only at h
            cases hrest : xops P call N ops l r1 m1 st2 with
            | no e => rw [hrest] at h; simp at h
            | ok q =>
              obtain ⟨r2, m2, st3, ob2⟩ := q
              rw [hrest] at h; simp at h
              obtain ⟨rfl, rfl, rfl, rfl⟩ := h
              unfold wpList
              rw [if_pos (hw fun q hq => ho q (by simp [hq]))]
              refine .inl (xstep_spec hcall hs (fun q hq => ho q (by simp [hq])) hr hm (Nat.le_trans (xops_len hcall hrest fun q hq => ho q (by simp [hq])) hH) ?_)
              intro γ' w' V hv hm' hf
              exact xops_spec hcall hrest (fun q hq => ho q (by simp [hq])) ((hr.mono hf.ext).put hp hv) hm' hH (fun γ2 a2 w2 hr2 hm2 hf2 => hk γ2 a2 w2 hr2 hm2 (hf.trans hf2))
      | false =>
        simp only at h
        cases hp : put N r o.dst (.tup []) with
        | none => rw [hp] at h; simp at h
        | some r1 =>
          rw [hp] at h; simp only at h
          cases hrest : xops P call N ops l r1 m st1 with
          | no e => rw [hrest] at h; simp at h
          | ok q =>
            obtain ⟨r2, m2, st3, ob2⟩ := q
            rw [hrest] at h; simp at h
            obtain ⟨rfl, rfl, rfl, rfl⟩ := h
            unfold wpList
            rw [if_neg (by rw [hw fun q hq => ho q (by simp [hq])]; simp)]
            exact xops_spec hcall hrest (fun q hq => ho q (by simp [hq])) (hr.put hp ⟨[], rfl, rfl⟩) hm hH hk

end
end Go.XM

namespace Go.XM
open Go
section
variable {P : Program}

/-! ### Operations under other registers and other memories -/

theorem evs_congr {r r' : Regs} : ∀ {l : List Operand}, (∀ x ∈ l, ev r x = ev r' x) → evs r l = evs r' l
  | [], _ => rfl
  | x :: l, h => by
    simp only [evs]
    rw [h x (by simp), evs_congr (fun y hy => h y (by simp [hy]))]

theorem evParts_congr {r r' : Regs} : ∀ {l : List (Nat × Operand)}, (∀ x ∈ l.map (·.2), ev r x = ev r' x) → evParts r l = evParts r' l
  | [], _ => rfl
  | (i, x) :: l, h => by
    simp only [evParts]
    rw [h x (by simp), evParts_congr (l := l) (fun y hy => h y (by simp only [List.map_cons, List.mem_cons]; exact .inr hy))]

theorem evO_congr {r r' : Regs} {x : Option Operand} (h : ∀ y, x = some y → ev r y = ev r' y) : evO r x = evO r' x := by
  cases x with
  | none => rfl
  | some y => simp only [evO]; rw [h y rfl]

theorem xop_regs {ty : TypeId} {o : Op} {r r' : Regs} (h : ∀ x ∈ o.operands, ev r x = ev r' x) (m : Mem) (st : List Ch) : xop P ty o r m st = xop P ty o r' m st := by
  cases o <;> simp only [Op.operands] at h <;> simp only [xop]
  case build t ps => rw [evParts_congr (r := r) (r' := r') (l := ps.toList) fun x hx => h x (by simpa using hx)]
  case buildSlice t n ps => rw [evParts_congr (r := r) (r' := r') (l := ps.toList) fun x hx => h x (by simpa using hx)]
  case makeFunc f a b => rw [evs_congr (r := r) (r' := r') (l := a.toList) fun x hx => h x (by simp at hx; simp [hx]), evs_congr (r := r) (r' := r') (l := b.toList) fun x hx => h x (by simp at hx; simp [hx])]
  case call c =>
    cases hc : c.callee with
    | builtin b =>
      rw [evs_congr (r := r) (r' := r') (l := c.args.toList) fun x hx => h x (by simp at hx; simp [Call.operands, hx])]
    | _ => rfl
  case slice t x lo hi mx =>
    rw [h x (by simp), evO_congr (r := r) (r' := r') (x := lo) fun y e => h y (by simp [e]), evO_congr (r := r) (r' := r') (x := hi) fun y e => h y (by simp [e]), evO_congr (r := r) (r' := r') (x := mx) fun y e => h y (by simp [e])]
  all_goals (first | rfl | (simp_all; done))

theorem xcallee_regs {o : Op} {r r' : Regs} (h : ∀ x ∈ o.operands, ev r x = ev r' x) : xcallee o r = xcallee o r' := by
  cases o <;> simp only [Op.operands] at h <;> simp only [xcallee]
  case call c =>
    cases hc : c.callee with
    | value f =>
      rw [evs_congr (r := r) (r' := r') (l := c.args.toList) fun x hx => h x (by simp at hx; simp [Call.operands, hx])]
      have hf := h f (by simp [Call.operands, hc])
      cases evs r' c.args.toList <;> simp only [hf]
    | _ => rfl

theorem xload_reads {t : TypeId} {a v : AV} {m m2 : Mem} {st st1 : List Ch} {ob : Obs} (h : xload P t a m st = some (v, st1, ob)) (hm : ∀ id e, idOf a = some id → m[id]? = some e → m2[id]? = some e) : xload P t a m2 st = some (v, st1, ob) := by
  unfold xload at h ⊢
  cases a with
  | ptr id off =>
    simp only [nth_eq] at h ⊢
    cases he : m[id]? with
    | none => rw [he] at h; simp at h
    | some e => rw [hm id e rfl he]; rw [he] at h; exact h
  | eptr id i j =>
    simp only [nth_eq] at h ⊢
    cases he : m[id]? with
    | none => rw [he] at h; simp at h
    | some e => rw [hm id e rfl he]; rw [he] at h; exact h
  | _ => simp at h

theorem szOk_reads {e : TypeId} {m m2 : Mem} {id : Nat} (h : szOk P e m id = true) (hm : ∀ x, m[id]? = some x → m2[id]? = some x) : szOk P e m2 id = true := by
  unfold szOk at h ⊢
  simp only [nth_eq] at h ⊢
  cases he : m[id]? with
  | none => rw [he] at h; simp at h
  | some x => rw [hm x he]; rw [he] at h; exact h

theorem xslice_reads {t : TypeId} {a v : AV} {lo hi mx : Option AV} {m m2 : Mem} {st st1 : List Ch} {ob : Obs} (h : xslice P t a lo hi mx m st = some (v, st1, ob)) (hm : ∀ id e, idOf a = some id → m[id]? = some e → m2[id]? = some e) : xslice P t a lo hi mx m2 st = some (v, st1, ob) := by
  unfold xslice at h ⊢
  split at h
  · exact h
  · obtain ⟨hb, h1⟩ := bif_some h
    rw [szOk_reads hb (fun x hx => hm _ x rfl hx)]
    exact h1
  · exact h
  · exact h
  · simp at h

theorem xindexAddr_reads {t : TypeId} {a ix v : AV} {m m2 : Mem} {st st1 : List Ch} {ob : Obs} (h : xindexAddr P t a ix m st = some (v, st1, ob)) (hm : ∀ id e, idOf a = some id → m[id]? = some e → m2[id]? = some e) : xindexAddr P t a ix m2 st = some (v, st1, ob) := by
  unfold xindexAddr at h ⊢
  split at h
  · obtain ⟨hb, h1⟩ := bif_some h
    rw [szOk_reads hb (fun x hx => hm _ x rfl hx)]
    exact h1
  · exact h
  · exact h
  · simp at h

theorem pure'_mem {v : Option AV} {m m1 : Mem} {st st1 : List Ch} {u : AV} {o : Obs} (h : pure' v m st = some (u, m1, st1, o)) (m2 : Mem) : m1 = m ∧ pure' v m2 st = some (u, m2, st1, o) := by
  unfold pure' at h ⊢
  cases v with
  | none => simp at h
  | some v => simp at h ⊢; obtain ⟨rfl, rfl, rfl, rfl⟩ := h; simp

theorem same'_mem {v : Option (AV × List Ch × Obs)} {m m1 : Mem} {st1 : List Ch} {u : AV} {o : Obs} (h : same' v m = some (u, m1, st1, o)) : m1 = m ∧ v = some (u, st1, o) := by
  obtain ⟨a, b⟩ := same'_some h
  exact ⟨b, a⟩

theorem xunsafe_reads {src dst : TypeId} {a v : AV} {m m2 : Mem} (h : xunsafe P src dst a m = some v) (hm : ∀ id e, idOf a = some id → m[id]? = some e → m2[id]? = some e) : xunsafe P src dst a m2 = some v := by
  unfold xunsafe at h ⊢
  split at h
  · rename_i t id off hs hd
    simp only [nth_eq] at h ⊢
    cases he : m[id]? with
    | none => rw [he] at h; simp at h
    | some e => rw [hm id e rfl he]; rw [he] at h; exact h
  · rename_i t id off hs hd
    simp only [nth_eq] at h ⊢
    cases he : m[id]? with
    | none => rw [he] at h; simp at h
    | some e => rw [hm id e rfl he]; rw [he] at h; exact h
  · simp at h

/-- an operation that does not write: what it looks into is all that counts. -/
theorem xop_reads {ty : TypeId} {o : Op} {r : Regs} {m m1 : Mem} {st st1 : List Ch} {v : AV} {ob : Obs} (hw : isW o = false) (h : xop P ty o r m st = some (v, m1, st1, ob)) :
    m1 = m ∧ ∀ m2 : Mem, (∀ id e, rdId o r = some id → m[id]? = some e → m2[id]? = some e) → xop P ty o r m2 st = some (v, m2, st1, ob) := by
  cases o <;> simp only [xop] at h ⊢ <;> simp [isW] at hw
  case move => exact ⟨(pure'_mem h []).1, fun m2 _ => (pure'_mem h m2).2⟩
  case assign => exact ⟨(pure'_mem h []).1, fun m2 _ => (pure'_mem h m2).2⟩
  case pick c a b =>
    split at h
    · rename_i hc; exact ⟨(pure'_mem h []).1, fun m2 _ => (pure'_mem h m2).2⟩
    · rename_i hc; exact ⟨(pure'_mem h []).1, fun m2 _ => (pure'_mem h m2).2⟩
    · split at h
      · split at h <;> simp at h
        rename_i hv; obtain ⟨rfl, rfl, rfl, rfl⟩ := h; exact ⟨rfl, fun m2 _ => rfl⟩
      · split at h <;> simp at h
        rename_i hv; obtain ⟨rfl, rfl, rfl, rfl⟩ := h; exact ⟨rfl, fun m2 _ => rfl⟩
      · simp at h
    · simp at h
  case build =>
    split at h
    · rename_i hc; exact ⟨(pure'_mem h []).1, fun m2 _ => (pure'_mem h m2).2⟩
    · simp at h
  case load t a =>
    split at h
    · rename_i x hc
      obtain ⟨e1, e2⟩ := same'_mem h
      refine ⟨e1, fun m2 hm => ?_⟩
      rw [xload_reads e2 (fun id e hi he => hm id e (by simp [rdId, hc, hi]) he)]
      rfl
    · simp at h
  case nilCheck =>
    split at h
    · rename_i hc; simp at h; obtain ⟨rfl, rfl, rfl, rfl⟩ := h; exact ⟨rfl, fun _ _ => rfl⟩
    · rename_i hc; simp at h; obtain ⟨rfl, rfl, rfl, rfl⟩ := h; exact ⟨rfl, fun _ _ => rfl⟩
    · simp at h
  case binOp =>
    split at h
    · rename_i hc hc'
      obtain ⟨e1, e2⟩ := same'_mem h
      refine ⟨e1, fun m2 _ => ?_⟩
      simp [e2, same']
    · simp at h
  case unOp =>
    split at h
    · rename_i hc; exact ⟨(pure'_mem h []).1, fun m2 _ => (pure'_mem h m2).2⟩
    · simp at h
  case convert =>
    split at h
    · rename_i a1 hc
      split at h
      · rename_i hd
        simp at h; obtain ⟨rfl, rfl, rfl, rfl⟩ := h
        exact ⟨rfl, fun m2 _ => by simp⟩
      · rename_i hd
        split at h
        · rename_i v1 hu
          simp at h; obtain ⟨rfl, rfl, rfl, rfl⟩ := h
          refine ⟨rfl, fun m2 hm => ?_⟩
          rw [xunsafe_reads hu (fun id e hi he => hm id e (by simp [rdId, hc, hi]) he)]
        · simp at h
    · simp at h
  case makeInterface =>
    split at h
    · rename_i hc
      split at h
      · rename_i hd
        simp at h; obtain ⟨rfl, rfl, rfl, rfl⟩ := h
        exact ⟨rfl, fun m2 _ => rfl⟩
      · simp at h
    · simp at h
  case makeFunc =>
    split at h
    · rename_i hc hc'
      simp at h; obtain ⟨rfl, rfl, rfl, rfl⟩ := h
      exact ⟨rfl, fun m2 _ => rfl⟩
    · simp at h
  case slice t x lo hi mx =>
    split at h
    · rename_i a l hh xx h1 h2 h3 h4
      obtain ⟨e1, e2⟩ := same'_mem h
      refine ⟨e1, fun m2 hm => ?_⟩
      rw [xslice_reads e2 (fun id e hi he => hm id e (by simp [rdId, h1, hi]) he)]
      rfl
    · simp at h
  case fieldAddr =>
    split at h
    · rename_i hc; exact ⟨(pure'_mem h []).1, fun m2 _ => (pure'_mem h m2).2⟩
    · simp at h
  case field =>
    split at h
    · rename_i hc hc'
      split at h
      · exact ⟨(pure'_mem h []).1, fun m2 _ => (pure'_mem h m2).2⟩
      · simp at h
    · simp at h
  case indexAddr t x i =>
    split at h
    · rename_i a b h1 h2
      obtain ⟨e1, e2⟩ := same'_mem h
      refine ⟨e1, fun m2 hm => ?_⟩
      rw [xindexAddr_reads e2 (fun id e hi he => hm id e (by simp [rdId, h1, hi]) he)]
      rfl
    · simp at h
  case index =>
    split at h
    · rename_i hc hc'
      obtain ⟨e1, e2⟩ := same'_mem h
      refine ⟨e1, fun m2 _ => ?_⟩
      simp [e2, same']
    · simp at h
  case extract =>
    split at h
    · rename_i hc; exact ⟨(pure'_mem h []).1, fun m2 _ => (pure'_mem h m2).2⟩
    · simp at h
  case call c =>
    obtain ⟨callee, args, ats⟩ := c
    cases callee with
    | builtin b =>
      simp only at h ⊢
      split at h
      · rename_i l hl
        unfold xbuiltin at h ⊢
        cases b <;> try (simp at hw; done)
        case len =>
          simp only at h ⊢
          split at h
          · split at h
            · obtain ⟨hb, h1⟩ := bif_some h
              try rw [hb]
              rename_i hats
              refine ⟨(pure'_mem h1 []).1, fun m2 _ => ?_⟩
              try simp only [cond_true]
              exact (pure'_mem h1 m2).2
            · simp at h
          · simp at h
        case min => exact ⟨(pure'_mem h []).1, fun m2 _ => (pure'_mem h m2).2⟩
        case max => exact ⟨(pure'_mem h []).1, fun m2 _ => (pure'_mem h m2).2⟩
      · simp at h
    | _ => simp at h
  all_goals (simp at h)

theorem xbuildSlice_float {t : TypeId} {n : Nat} {ps : List (Nat × AV)} {v : AV} {m m1 : Mem} (h : xbuildSlice P t n ps m = some (v, m1)) :
    ∃ E, m1 = m ++ [E] ∧ ∀ m2 : Mem, m2.length = m.length → xbuildSlice P t n ps m2 = some (v, m2 ++ [E]) := by
  unfold xbuildSlice at h ⊢
  cases hu : P.underlying t with
  | none => rw [hu] at h; simp at h
  | some d =>
    rw [hu] at h
    cases d with
    | slice e =>
      simp only at h ⊢
      cases h1 : sizeT P e with
      | none => rw [h1] at h; simp at h
      | some k =>
        cases h2 : zeroT P e with
        | none => rw [h1, h2] at h; simp at h
        | some z =>
          rw [h1, h2] at h
          simp only at h ⊢
          obtain ⟨hb, h3⟩ := bif_some h
          rw [hb]
          simp only [cond_true]
          cases hx : putParts k (rep z.cells n) ps with
          | none => rw [hx] at h3; simp at h3
          | some xs =>
            rw [hx] at h3
            simp at h3
            obtain ⟨rfl, rfl⟩ := h3
            exact ⟨_, rfl, fun m2 hm => by simp [len_eq, hm]⟩
    | _ => simp at h

/-- an operation that makes an entry. -/
theorem xop_float {ty : TypeId} {o : Op} {r : Regs} {m m1 : Mem} {st st1 : List Ch} {v : AV} {ob : Obs} (hw : isF o = true) (h : xop P ty o r m st = some (v, m1, st1, ob)) :
    ∃ E, m1 = m ++ [E] ∧ ∀ m2 : Mem, m2.length = m.length → xop P ty o r m2 st = some (v, m2 ++ [E], st1, ob) := by
  cases o <;> simp [isF] at hw <;> simp only [xop] at h ⊢
  case alloc t =>
    split at h
    · rename_i z hz
      simp at h; obtain ⟨rfl, rfl, rfl, rfl⟩ := h
      exact ⟨_, rfl, fun m2 hm => by simp [len_eq, hm]⟩
    · simp at h
  case box t x =>
    split at h
    · rename_i z hz
      obtain ⟨hb, h1⟩ := bif_some h
      simp at h1; obtain ⟨rfl, rfl, rfl, rfl⟩ := h1
      exact ⟨_, rfl, fun m2 hm => by simp [len_eq, hm, hb]⟩
    · simp at h
  case buildSlice t n ps =>
    split at h
    · rename_i l hl
      split at h
      · rename_i v1 m1 hb
        simp at h; obtain ⟨rfl, rfl, rfl, rfl⟩ := h
        obtain ⟨E, e1, e2⟩ := xbuildSlice_float hb
        exact ⟨E, e1, fun m2 hm => by simp only [e2 m2 hm]⟩
      · simp at h
    · simp at h

/-- a store leaves other entries alone. -/
theorem xstore_spares {t : TypeId} {A X : AV} {m m1 : Mem} {st st1 : List Ch} {ob : Obs} {id : Nat} (hs : ∀ k, idOf A = some k → k ≠ id) (h : xstore P t A X m st = some (m1, st1, ob)) : m1[id]? = m[id]? := by
  unfold xstore at h
  cases hz : sizeT P t with
  | none => rw [hz] at h; simp at h
  | some n =>
    rw [hz] at h
    simp only at h
    obtain ⟨_, h⟩ := bif_some h
    cases A with
    | ptr k off =>
      simp only at h
      split at h
      · split at h
        · simp at h; obtain ⟨rfl, _⟩ := h
          rw [upd_eq]; exact List.getElem?_set_ne (hs k rfl)
        · simp at h
      · simp at h
    | eptr k i j =>
      simp only at h
      split at h
      · split at h
        · split at h
          · split at h
            · simp at h; obtain ⟨rfl, _⟩ := h
              rw [upd_eq]; exact List.getElem?_set_ne (hs k rfl)
            · simp at h
          · simp at h
        · simp at h
      · simp at h
    | _ => simp at h

theorem xop_spares {ty : TypeId} {o : Op} {r : Regs} {m m1 : Mem} {st st1 : List Ch} {v : AV} {ob : Obs} {id : Nat} (hw : isF o = false) (hs : spares o r m id = true) (h : xop P ty o r m st = some (v, m1, st1, ob)) : m1[id]? = m[id]? := by
  cases o <;> simp [spares] at hs <;> simp [isF] at hw
  case store t a x =>
    simp only [xop] at h
    cases h1 : ev r a with
    | none => rw [h1] at h; simp at h
    | some A =>
      cases h2 : ev r x with
      | none => rw [h1, h2] at h; simp at h
      | some X =>
        rw [h1] at hs
        rw [h1, h2] at h
        simp only at h hs
        cases h3 : xstore P t A X m st with
        | none => rw [h3] at h; simp at h
        | some q =>
          obtain ⟨m3, st3, o3⟩ := q
          rw [h3] at h
          simp at h
          obtain ⟨_, rfl, _, _⟩ := h
          refine xstore_spares (fun k hk => ?_) h3
          rw [hk] at hs
          simp only at hs
          intro e; subst e; simp at hs
end
end Go.XM

namespace Go.XM
open Go
section
variable {P : Program}

theorem allN_spec {α : Type} {f : Nat → α → Bool} : ∀ {l : List α} {k : Nat}, allN f k l = true → ∀ j x, l[j]? = some x → f (k + j) x = true
  | [], _, _, j, x, h => by simp at h
  | a :: l, k, h, j, x, hx => by
    simp only [allN, Bool.and_eq_true] at h
    cases j with
    | zero => simp at hx; subst hx; exact h.1
    | succ j =>
      have := allN_spec h.2 j x (by simpa using hx)
      rw [show k + (j + 1) = k + 1 + j by omega]; exact this

theorem flatN_spec {α : Type} {f : Nat → α → Obs} : ∀ {l : List α} {k : Nat}, (∀ q ∈ flatN f k l, q) → ∀ j x, l[j]? = some x → ∀ q ∈ f (k + j) x, q
  | [], _, _, j, x, h => by simp at h
  | a :: l, k, h, j, x, hx => by
    simp only [flatN, List.mem_append] at h
    cases j with
    | zero => simp at hx; subst hx; exact fun q hq => h q (.inl hq)
    | succ j =>
      have := flatN_spec (l := l) (k := k + 1) (fun q hq => h q (.inr hq)) j x (by simpa using hx)
      rw [show k + (j + 1) = k + 1 + j by omega]; exact this

/-! ### What an operation waits for -/

theorem orEdges_spec {A : List Nat} : ∀ {es : List Edge} {i : Nat}, Nat.testBit (orEdges A es) i = true → ∃ e ∈ es, Region.binds .any e = true ∧ (e.on = i ∨ ∃ x, A[e.on]? = some x ∧ Nat.testBit x i = true)
  | [], i, h => by simp [orEdges] at h
  | e :: es, i, h => by
    simp only [orEdges, Nat.testBit_or, Bool.or_eq_true] at h
    rcases h with h | h
    · cases hb : Region.binds .any e with
      | false => rw [hb] at h; simp at h
      | true =>
        rw [hb] at h
        simp only [cond_true, Nat.testBit_or, Bool.or_eq_true, Nat.testBit_two_pow, decide_eq_true_eq, nth_eq] at h
        refine ⟨e, by simp, hb, ?_⟩
        rcases h with h | h
        · exact .inl h
        · cases hx : A[e.on]? with
          | none => rw [hx] at h; simp at h
          | some x => rw [hx] at h; exact .inr ⟨x, rfl, h⟩
    · obtain ⟨e', he', h'⟩ := orEdges_spec h
      exact ⟨e', List.mem_cons_of_mem _ he', h'⟩

/-- what is listed is closed under what it waits for. -/
theorem ancs_spec {ops : List Oper} {L : Nat → Prop} (hcl : ∀ (j : Nat) (o : Oper), ops[j]? = some o → L j → ∀ e ∈ o.after, Region.binds .any e = true → L e.on) :
    ∀ (l : List Oper) (A : List Nat), (∀ j : Nat, l[j]? = ops[A.length + j]?) →
      (∀ (j x : Nat), A[j]? = some x → ∀ o : Oper, ops[j]? = some o → (∀ e ∈ o.after, Region.binds .any e = true → L e.on) → ∀ i, Nat.testBit x i = true → L i) →
      ∀ (j x : Nat), (ancs A l)[j]? = some x → ∀ o : Oper, ops[j]? = some o → (∀ e ∈ o.after, Region.binds .any e = true → L e.on) → ∀ i, Nat.testBit x i = true → L i
  | [], A, _, hA => by simpa [ancs] using hA
  | o :: l, A, hl, hA => by
    simp only [ancs]
    refine ancs_spec hcl l _ (fun j => ?_) ?_
    · have := hl (j + 1)
      simp only [List.getElem?_cons_succ] at this
      rw [this]; congr 1; simp; omega
    · intro j x hx o' ho' hpre i hi
      rcases Nat.lt_trichotomy j A.length with hj | hj | hj
      · rw [List.getElem?_append_left hj] at hx
        exact hA j x hx o' ho' hpre i hi
      · subst hj
        rw [List.getElem?_append_right (Nat.le_refl _)] at hx
        simp at hx; subst hx
        have h0 := hl 0
        simp only [List.getElem?_cons_zero, Nat.add_zero] at h0
        rw [ho'] at h0; cases h0
        obtain ⟨e, he, hb, hor⟩ := orEdges_spec hi
        have heo : e ∈ o.after := by simpa using he
        have hLe := hpre e heo hb
        rcases hor with rfl | ⟨y, hy, hyi⟩
        · exact hLe
        · have hlt : e.on < A.length := (List.getElem?_eq_some_iff.1 hy).1
          cases hoe : ops[e.on]? with
          | none =>
            have : ops.length ≤ e.on := List.getElem?_eq_none_iff.1 hoe
            have : A.length < ops.length := (List.getElem?_eq_some_iff.1 ho').1
            omega
          | some oe => exact hA e.on y hy oe hoe (hcl e.on oe hoe hLe) i hyi
      · rw [List.getElem?_eq_none (by simp; omega)] at hx; cases hx

/-! ### Registers -/

def push (r : Regs) (d : Option Tmp) (v : AV) : Regs := match d with | some t => (t, v) :: r | none => r

theorem put_push {N : Nat} {r r1 : Regs} {d : Option Tmp} {v : AV} (h : put N r d v = some r1) : r1 = push r d v := by
  cases d with
  | none => simp [put] at h; exact h.symm
  | some d =>
    simp only [put] at h
    obtain ⟨_, h⟩ := bif_some h
    simp at h; exact h.symm

theorem get_push (r : Regs) (d : Option Tmp) (v : AV) (t : Nat) : get (push r d v) t = if d = some t then some v else get r t := by
  cases d with
  | none => simp [push]
  | some d =>
    simp only [push, get]
    by_cases hdt : d = t
    · subst hdt; simp
    · have : Nat.beq d t = false := by
        cases hb : Nat.beq d t with
        | false => rfl
        | true => exact absurd (Nat.eq_of_beq_eq_true hb) hdt
      simp [this, hdt]

open Classical in
/-- the registers behind the listed operations. -/
noncomputable def pushAll (L : Nat → Prop) : Nat → List Tr → Regs → Regs
  | _, [], r => r
  | k, t :: T, r => pushAll L (k + 1) T (if L k then push r t.o.dst t.v else r)

theorem get_pushAll_congr {L L' : Nat → Prop} {x : Nat} : ∀ {T : List Tr} {k : Nat} {r r' : Regs}, (∀ i t, T[i]? = some t → t.o.dst = some x → (L (k + i) ↔ L' (k + i))) → get r x = get r' x →
    get (pushAll L k T r) x = get (pushAll L' k T r') x
  | [], _, _, _, _, hr => hr
  | t :: T, k, r, r', h, hr => by
    simp only [pushAll]
    refine get_pushAll_congr (fun i u hu hd => ?_) ?_
    · have := h (i + 1) u (by simpa using hu) hd
      rwa [show k + (i + 1) = k + 1 + i by omega] at this
    · by_cases hd : t.o.dst = some x
      · have h0 := h 0 t (by simp) hd
        simp only [Nat.add_zero] at h0
        by_cases hL : L k
        · rw [if_pos hL, if_pos (h0.1 hL), get_push, get_push, if_pos hd, if_pos hd]
        · rw [if_neg hL, if_neg (fun h' => hL (h0.2 h'))]; exact hr
      · have : ∀ r : Regs, get (push r t.o.dst t.v) x = get r x := fun r => by rw [get_push, if_neg hd]
        split <;> split <;> simp [this, hr]

theorem get_pushAll_none {L : Nat → Prop} {x : Nat} : ∀ {T : List Tr} {k : Nat} {r : Regs}, (∀ i t, T[i]? = some t → t.o.dst = some x → ¬ L (k + i)) → get (pushAll L k T r) x = get r x
  | [], _, _, _ => rfl
  | t :: T, k, r, h => by
    simp only [pushAll]
    rw [get_pushAll_none (fun i u hu hd => by
      have := h (i + 1) u (by simpa using hu) hd
      rwa [show k + (i + 1) = k + 1 + i by omega] at this)]
    split
    · rename_i hL
      rw [get_push, if_neg (fun hd => h 0 t (by simp) hd (by simpa using hL))]
    · rfl

theorem get_pushAll_hit {L : Nat → Prop} {x : Nat} : ∀ {T : List Tr} {k j : Nat} {t : Tr} {r : Regs}, T[j]? = some t → t.o.dst = some x → L (k + j) → (∀ i u, T[i]? = some u → u.o.dst = some x → i = j) →
    get (pushAll L k T r) x = some t.v
  | [], _, j, _, _, h, _, _, _ => by simp at h
  | u :: T, k, 0, t, r, h, hd, hL, huniq => by
    simp at h; subst h
    simp only [pushAll]
    rw [get_pushAll_none (fun i y hy hyd => by have := huniq (i + 1) y (by simpa using hy) hyd; omega)]
    rw [if_pos (by simpa using hL), get_push, if_pos hd]
  | u :: T, k, j + 1, t, r, h, hd, hL, huniq => by
    simp only [pushAll]
    exact get_pushAll_hit (by simpa using h) hd (by rwa [show k + 1 + j = k + (j + 1) by omega]) (fun i y hy hyd => by have := huniq (i + 1) y (by simpa using hy) hyd; omega)

/-! ### The trace's own facts -/

/-- the notes of a run, one behind the other. -/
def Good (P : Program) (call : CallFn) (N : Nat) (ops : List Oper) : List Tr → Regs → Mem → Regs → Mem → Prop
  | [], r, m, r', m' => r' = r ∧ m' = m
  | t :: T, r, m, r', m' => t.r = r ∧ t.m = m ∧ (∃ st0 g, xguard ops r t.o.guard st0 = some (t.run, t.st, g) ∧ ∀ q ∈ g, q) ∧
      (t.run = true → ∃ st1 ob, xstep P call t.o r m t.st = .ok (t.v, t.m', st1, ob) ∧ ∀ q ∈ ob, q) ∧ (t.run = false → t.m' = m ∧ t.v = .tup []) ∧
      ∃ r1, put N r t.o.dst t.v = some r1 ∧ Good P call N ops T r1 t.m' r' m'

theorem xtrace_good {call : CallFn} {N : Nat} {ops : List Oper} : ∀ {l : List Oper} {r : Regs} {m : Mem} {st : List Ch} {T : List Tr} {r' : Regs} {m' : Mem} {st' : List Ch} {ob : Obs}, xtrace P call N ops l r m st = .ok (T, r', m', st', ob) → (∀ q ∈ ob, q) →
    T.map (·.o) = l ∧ Good P call N ops T r m r' m'
  | [], r, m, st, T, r', m', st', ob, h, _ => by
    simp [xtrace] at h; obtain ⟨rfl, rfl, rfl, _, _⟩ := h
    exact ⟨rfl, rfl, rfl⟩
  | o :: l, r, m, st, T, r', m', st', ob, h, ho => by
    simp only [xtrace] at h
    split at h
    · rename_i st1 g hg
      split at h
      · rename_i v m1 st2 ob1 hs
        split at h
        · rename_i r1 hp
          split at h
          · rename_i T1 r2 m2 st3 ob2 hrest
            simp at h; obtain ⟨rfl, rfl, rfl, rfl, rfl⟩ := h
            obtain ⟨e, hgood⟩ := xtrace_good hrest (fun q hq => ho q (by simp [hq]))
            exact ⟨by simp [e], rfl, rfl, ⟨st, g, hg, fun q hq => ho q (by simp [hq])⟩, fun _ => ⟨st2, ob1, hs, fun q hq => ho q (by simp [hq])⟩, fun h => by simp at h, r1, hp, hgood⟩
          · simp at h
        · simp at h
      · simp at h
    · rename_i st1 g hg
      split at h
      · rename_i r1 hp
        split at h
        · rename_i T1 r2 m2 st3 ob2 hrest
          simp at h; obtain ⟨rfl, rfl, rfl, rfl, rfl⟩ := h
          obtain ⟨e, hgood⟩ := xtrace_good hrest (fun q hq => ho q (by simp [hq]))
          exact ⟨by simp [e], rfl, rfl, ⟨st, g, hg, fun q hq => ho q (by simp [hq])⟩, fun h => by simp at h, fun _ => ⟨rfl, rfl⟩, r1, hp, hgood⟩
        · simp at h
      · simp at h
    · simp at h

/-- memory ahead of operation j. -/
def memAt (m' : Mem) : List Tr → Nat → Mem
  | [], _ => m'
  | t :: _, 0 => t.m
  | _ :: T, j + 1 => memAt m' T j

/-- what is known of operation j. -/
structure At (P : Program) (call : CallFn) (N : Nat) (ops : List Oper) (T : List Tr) (r0 : Regs) (m' : Mem) (j : Nat) (t : Tr) : Prop where
  regs : t.r = pushAll (fun i => i < j) 0 T r0
  mem : t.m = memAt m' T j
  next : t.m' = memAt m' T (j + 1)
  guard : ∃ st0 g, xguard ops t.r t.o.guard st0 = some (t.run, t.st, g) ∧ ∀ q ∈ g, q
  step : t.run = true → ∃ st1 ob, xstep P call t.o t.r t.m t.st = .ok (t.v, t.m', st1, ob) ∧ ∀ q ∈ ob, q
  skip : t.run = false → t.m' = t.m ∧ t.v = .tup []
  putN : ∀ d, t.o.dst = some d → d < N

theorem good_at {call : CallFn} {N : Nat} {ops : List Oper} {r' : Regs} {m' : Mem} : ∀ {T : List Tr} {r : Regs} {m : Mem}, Good P call N ops T r m r' m' →
    memAt m' T 0 = m ∧ r' = pushAll (fun _ => True) 0 T r ∧ ∀ j t, T[j]? = some t → At P call N ops T r m' j t
  | [], r, m, h => ⟨h.2, h.1, fun j t h => by simp at h⟩
  | u :: T, r, m, ⟨h1, h2, h3, h4, h5, r1, hp, hrest⟩ => by
    obtain ⟨e0, e1, hat⟩ := good_at hrest
    have hpu := put_push hp
    have shift : ∀ (L L' : Nat → Prop) (k : Nat) (T : List Tr) (r : Regs), (∀ i, L (k + 1 + i) ↔ L' (k + i)) → pushAll L (k + 1) T r = pushAll L' k T r := by
      intro L L' k T
      induction T generalizing k with
      | nil => intro r _; rfl
      | cons t T ih =>
        intro r h
        simp only [pushAll]
        have h0 := h 0
        simp only [Nat.add_zero] at h0
        rw [ih (k + 1) _ (fun i => by have := h (i + 1); rwa [show k + 1 + (i + 1) = k + 1 + 1 + i by omega, show k + (i + 1) = k + 1 + i by omega] at this)]
        by_cases hL : L (k + 1)
        · rw [if_pos hL, if_pos (h0.1 hL)]
        · rw [if_neg hL, if_neg (fun h' => hL (h0.2 h'))]
    have none : ∀ (L : Nat → Prop) (k : Nat) (T : List Tr) (r : Regs), (∀ i, ¬ L (k + i)) → pushAll L k T r = r := by
      intro L k T
      induction T generalizing k with
      | nil => intro r _; rfl
      | cons t T ih =>
        intro r h
        simp only [pushAll]
        rw [if_neg (by simpa using h 0), ih (k + 1) r (fun i => by have := h (i + 1); rwa [show k + (i + 1) = k + 1 + i by omega] at this)]
    refine ⟨by simp [memAt, h2], ?_, fun j t ht => ?_⟩
    · simp only [pushAll]
      rw [if_pos trivial, ← hpu, e1]
      exact (shift _ _ 0 T r1 (fun _ => Iff.rfl)).symm
    · cases j with
      | zero =>
        simp at ht; subst ht
        refine ⟨?_, rfl, ?_, by rw [h1]; exact h3, by rw [h1, h2]; exact h4, by rw [h2]; exact h5, ?_⟩
        · rw [h1, none _ _ _ _ (fun i => by omega)]
        · simp [memAt, e0]
        · intro d hd
          rw [hd] at hp
          simp only [put] at hp
          obtain ⟨hb, _⟩ := bif_some hp
          exact Nat.blt_eq.mp hb
      | succ j =>
        have := hat j t (by simpa using ht)
        refine ⟨?_, this.mem, this.next, this.guard, this.step, this.skip, this.putN⟩
        rw [this.regs]
        simp only [pushAll]
        rw [if_pos (by omega), ← hpu]
        exact (shift _ _ 0 T r1 (fun i => by omega)).symm
end
end Go.XM

namespace Go.XM
open Go
section
variable {P : Program}

/-! ### Memory as a table -/

structure MF (γ : Gm) (μ : Nat → Ent) (w : World) : Prop where
  ent : ∀ id, EntOk γ w id (μ id)
  dom : ∀ id g, γ id = some g → g.b < w.heap.size
  sep : ∀ i j gi gj, i ≠ j → (μ i).rw = true → (μ j).live = true → γ i = some gi → γ j = some gj → gi.b ≠ gj.b

structure Fr (γ0 : Gm) (m0 : Mem) (w0 : World) (γ : Gm) (μ : Nat → Ent) (w : World) : Prop where
  ext : γ0.le γ
  os : w.os = w0.os
  tape : w.tape = w0.tape
  output : w.output = w0.output
  size : w0.heap.size ≤ w.heap.size
  keep : ∀ k, k < w0.heap.size → ¬ Foot γ0 m0 k → w.heap[k]? = w0.heap[k]?
  foot : ∀ id g, (μ id).rw = true → γ id = some g → Foot γ0 m0 g.b ∨ w0.heap.size ≤ g.b
  live : ∀ id g, (μ id).live = true → γ id = some g → Lv γ0 m0 g.b ∨ w0.heap.size ≤ g.b

def onto (m : Mem) (μ : Nat → Ent) (id : Nat) : Ent := match m[id]? with | some e => e | none => μ id

theorem onto_some {m : Mem} {μ : Nat → Ent} {id : Nat} {e : Ent} (h : m[id]? = some e) : onto m μ id = e := by simp [onto, h]
theorem onto_none {m : Mem} {μ : Nat → Ent} {id : Nat} (h : m.length ≤ id) : onto m μ id = μ id := by simp [onto, List.getElem?_eq_none h]

theorem MF.toMem {H : Nat} {γ : Gm} {μ : Nat → Ent} {w : World} {m : Mem} (h : MF γ μ w) (hm : ∀ id e, m[id]? = some e → μ id = e) (hd : ∀ id g, γ id = some g → id < m.length ∨ H ≤ id) : MemOk H γ m w :=
  ⟨fun id e he => by rw [← hm id e he]; exact h.ent id, fun id g hg => ⟨hd id g hg, h.dom id g hg⟩,
   fun i j ei ej gi gj hij hi hj h1 h2 => h.sep i j gi gj hij (by rw [hm i ei hi]; exact h1) (by rw [hm j ej hj]; exact h2)⟩

theorem rw_live {e : Ent} (h : e.rw = true) : e.live = true := by cases e <;> simp_all [Ent.rw, Ent.live]

theorem MF.step {H : Nat} {γ γ' γ0 : Gm} {m0 : Mem} {w0 w w' : World} {μ : Nat → Ent} {m m2 : Mem} (h : MF γ μ w) (hf : Fr γ0 m0 w0 γ μ w) (hm : ∀ id e, m[id]? = some e → μ id = e)
    (hm2 : MemOk H γ' m2 w') (hs : SF γ m w γ' m2 w') : MF γ' (onto m2 μ) w' ∧ Fr γ0 m0 w0 γ' (onto m2 μ) w' := by
  have look : ∀ id, (∃ e, m2[id]? = some e ∧ onto m2 μ id = e) ∨ (m2.length ≤ id ∧ onto m2 μ id = μ id) := fun id => by
    cases he : m2[id]? with
    | some e => exact .inl ⟨e, rfl, onto_some he⟩
    | none => have := List.getElem?_eq_none_iff.1 he; exact .inr ⟨this, onto_none this⟩
  have bk : ∀ id, m2.length ≤ id → γ' id = γ id := fun id h => hs.back id (.inr h)
  have hle := hs.len
  have fm : ∀ b, Foot γ m b → ∃ id g, id < m.length ∧ (μ id).rw = true ∧ γ id = some g ∧ g.b = b := by
    rintro b ⟨id, e, g, h1, h2, h3, h4⟩
    exact ⟨id, g, (List.getElem?_eq_some_iff.1 h1).1, by rw [hm id e h1]; exact h2, h3, h4⟩
  have lm : ∀ b, Lv γ m b → ∃ id g, id < m.length ∧ (μ id).live = true ∧ γ id = some g ∧ g.b = b := by
    rintro b ⟨id, e, g, h1, h2, h3, h4⟩
    exact ⟨id, g, (List.getElem?_eq_some_iff.1 h1).1, by rw [hm id e h1]; exact h2, h3, h4⟩
  refine ⟨⟨?_, fun id g hg => (hm2.dom id g hg).2, ?_⟩, ⟨fun id g hg => hs.ext id g (hf.ext id g hg), hs.os.trans hf.os, hs.tape.trans hf.tape, hs.output.trans hf.output, Nat.le_trans hf.size hs.size, ?_, ?_, ?_⟩⟩
  · intro id
    rcases look id with ⟨e, he, ho⟩ | ⟨hge, ho⟩
    · rw [ho]; exact hm2.ent id e he
    · rw [ho]
      cases hl : (μ id).live with
      | false =>
        cases hq : μ id with
        | dead => trivial
        | cells cs => rw [hq] at hl; simp [Ent.live] at hl
        | row _ a b c d => rw [hq] at hl; simp [Ent.live] at hl
      | true =>
        refine ((h.ent id).mono hs.ext (bk id hge)).of_heap fun g hg => ?_
        rw [bk id hge] at hg
        refine hs.keep g.b (h.dom id g hg) fun hft => ?_
        obtain ⟨i1, g1, hlt, hrw, hg1, hb⟩ := fm _ hft
        exact h.sep i1 id g1 g (by omega) hrw hl hg1 hg hb
  · intro i j gi gj hij h1 h2 hgi hgj
    rcases look i with ⟨ei, hei, hoi⟩ | ⟨hgei, hoi⟩ <;> rcases look j with ⟨ej, hej, hoj⟩ | ⟨hgej, hoj⟩ <;> rw [hoi] at h1 <;> rw [hoj] at h2
    · exact hm2.sep i j ei ej gi gj hij hei hej h1 h2 hgi hgj
    · rw [bk j hgej] at hgj
      rcases hs.foot gi.b ⟨i, ei, gi, hei, h1, hgi, rfl⟩ with hft | hge
      · obtain ⟨i1, g1, hlt, hrw, hg1, hb⟩ := fm _ hft
        rw [← hb]
        exact h.sep i1 j g1 gj (by omega) hrw h2 hg1 hgj
      · have := h.dom j gj hgj; omega
    · rw [bk i hgei] at hgi
      rcases hs.live gj.b ⟨j, ej, gj, hej, h2, hgj, rfl⟩ with hft | hge
      · obtain ⟨i1, g1, hlt, hl, hg1, hb⟩ := lm _ hft
        rw [← hb]
        exact h.sep i i1 gi g1 (by omega) h1 hl hgi hg1
      · have := h.dom i gi hgi; omega
    · rw [bk i hgei] at hgi
      rw [bk j hgej] at hgj
      exact h.sep i j gi gj hij h1 h2 hgi hgj
  · intro k hk hnf
    rw [hs.keep k (Nat.lt_of_lt_of_le hk hf.size) fun hft => ?_, hf.keep k hk hnf]
    obtain ⟨i1, g1, hlt, hrw, hg1, hb⟩ := fm _ hft
    rcases hf.foot i1 g1 hrw hg1 with h' | h'
    · rw [hb] at h'; exact hnf h'
    · omega
  · intro id g h1 hg
    rcases look id with ⟨e, he, ho⟩ | ⟨hge, ho⟩ <;> rw [ho] at h1
    · rcases hs.foot g.b ⟨id, e, g, he, h1, hg, rfl⟩ with hft | hge
      · obtain ⟨i1, g1, hlt, hrw, hg1, hb⟩ := fm _ hft
        rw [← hb]; exact hf.foot i1 g1 hrw hg1
      · exact .inr (Nat.le_trans hf.size hge)
    · rw [bk id hge] at hg; exact hf.foot id g h1 hg
  · intro id g h1 hg
    rcases look id with ⟨e, he, ho⟩ | ⟨hge, ho⟩ <;> rw [ho] at h1
    · rcases hs.live g.b ⟨id, e, g, he, h1, hg, rfl⟩ with hft | hge
      · obtain ⟨i1, g1, hlt, hrw, hg1, hb⟩ := lm _ hft
        rw [← hb]; exact hf.live i1 g1 hrw hg1
      · exact .inr (Nat.le_trans hf.size hge)
    · rw [bk id hge] at hg; exact hf.live id g h1 hg

theorem MF.start {H : Nat} {γ : Gm} {m : Mem} {w : World} (h : MemOk H γ m w) : MF γ (onto m fun _ => .dead) w ∧ Fr γ m w γ (onto m fun _ => .dead) w := by
  have look : ∀ id, (∃ e, m[id]? = some e ∧ onto m (fun _ => .dead) id = e) ∨ onto m (fun _ => .dead) id = .dead := fun id => by
    cases he : m[id]? with
    | some e => exact .inl ⟨e, rfl, onto_some he⟩
    | none => have := List.getElem?_eq_none_iff.1 he; exact .inr (onto_none this)
  refine ⟨⟨?_, fun id g hg => (h.dom id g hg).2, ?_⟩, ⟨Gm.le_refl _, rfl, rfl, rfl, Nat.le_refl _, fun _ _ _ => rfl, ?_, ?_⟩⟩
  · intro id
    rcases look id with ⟨e, he, ho⟩ | ho <;> rw [ho]
    · exact h.ent id e he
    · trivial
  · intro i j gi gj hij h1 h2 hgi hgj
    rcases look i with ⟨ei, hei, hoi⟩ | hoi <;> rw [hoi] at h1
    · rcases look j with ⟨ej, hej, hoj⟩ | hoj <;> rw [hoj] at h2
      · exact h.sep i j ei ej gi gj hij hei hej h1 h2 hgi hgj
      · simp [Ent.live] at h2
    · simp [Ent.rw] at h1
  · intro id g h1 hg
    rcases look id with ⟨e, he, ho⟩ | ho <;> rw [ho] at h1
    · exact .inl ⟨id, e, g, he, h1, hg, rfl⟩
    · simp [Ent.rw] at h1
  · intro id g h1 hg
    rcases look id with ⟨e, he, ho⟩ | ho <;> rw [ho] at h1
    · exact .inl ⟨id, e, g, he, h1, hg, rfl⟩
    · simp [Ent.live] at h1

/-! ### A trace's memories -/

variable {call : CallFn} {N : Nat} {ops : List Oper} {T : List Tr} {r0 : Regs} {m' : Mem}

theorem isF_isW {o : Op} (h : isF o = true) : isW o = true := by cases o <;> simp_all [isF, isW]
theorem isF_call {o : Op} (h : isF o = true) : isCall o = false := by cases o <;> simp_all [isF, isCall]
theorem notW_call {o : Op} (h : isW o = false) : isCall o = false := by
  cases o <;> simp_all [isW, isCall]
  rename_i c
  cases hc : c.callee <;> simp_all

theorem xstep_xop {o : Oper} {r : Regs} {m : Mem} {st : List Ch} {x : Out} (hc : isCall o.op = false) (h : xstep P call o r m st = .ok x) : xop P o.type o.op r m st = some x := by
  unfold xstep at h
  rw [hc] at h
  simp only at h
  cases hx : xop P o.type o.op r m st with
  | none => rw [hx] at h; simp at h
  | some y => rw [hx] at h; simp at h; rw [h]

theorem xop_xstep {o : Oper} {r : Regs} {m : Mem} {st : List Ch} {x : Out} (hc : isCall o.op = false) (h : xop P o.type o.op r m st = some x) : xstep P call o r m st = .ok x := by
  unfold xstep; rw [hc, h]

theorem xstep_regs {o : Oper} {r r' : Regs} (h : ∀ x ∈ o.op.operands, ev r x = ev r' x) (m : Mem) (st : List Ch) (x : Out) (hs : xstep P call o r m st = .ok x) : xstep P call o r' m st = .ok x := by
  unfold xstep at hs ⊢
  rw [← xcallee_regs h, ← xop_regs (ty := o.type) h]
  split <;> rename_i hc <;> rw [hc] at hs <;> simp only at hs
  · split <;> rename_i hx <;> rw [hx] at hs <;> simp only at hs
    · exact hs
    · simp at hs
  · split <;> rename_i hx <;> rw [hx] at hs <;> simp only at hs
    · exact hs
    · simp at hs

theorem cls (hat : ∀ j t, T[j]? = some t → At P call N ops T r0 m' j t) {k : Nat} {t : Tr} (ht : T[k]? = some t) :
    isC t = true ∨ (t.run = true ∧ isF t.o.op = true ∧ ∃ E, memAt m' T (k + 1) = memAt m' T k ++ [E]) ∨ (¬ (t.run = true ∧ isW t.o.op = true) ∧ memAt m' T (k + 1) = memAt m' T k) := by
  have A := hat k t ht
  cases hr : t.run with
  | false => exact .inr (.inr ⟨by simp, by rw [← A.next, (A.skip hr).1, A.mem]⟩)
  | true =>
    obtain ⟨st1, ob, hs, _⟩ := A.step hr
    cases hf : isF t.o.op with
    | true =>
      obtain ⟨E, hE, _⟩ := xop_float hf (xstep_xop (isF_call hf) hs)
      exact .inr (.inl ⟨rfl, rfl, E, by rw [← A.next, hE, A.mem]⟩)
    | false =>
      cases hw : isW t.o.op with
      | true => exact .inl (by simp [isC, hr, hf, hw])
      | false =>
        have := (xop_reads hw (xstep_xop (notW_call hw) hs)).1
        exact .inr (.inr ⟨by simp, by rw [← A.next, this, A.mem]⟩)

theorem memAt_len1 (hcall : CallOk P call) (hat : ∀ j t, T[j]? = some t → At P call N ops T r0 m' j t) {k : Nat} {t : Tr} (ht : T[k]? = some t) : (memAt m' T k).length ≤ (memAt m' T (k + 1)).length := by
  have A := hat k t ht
  rw [← A.next, ← A.mem]
  cases hr : t.run with
  | false => rw [(A.skip hr).1]; exact Nat.le_refl _
  | true =>
    obtain ⟨st1, ob, hs, ho⟩ := A.step hr
    exact xstep_len hcall hs ho

theorem memAt_len (hcall : CallOk P call) (hat : ∀ j t, T[j]? = some t → At P call N ops T r0 m' j t) : ∀ (d j : Nat), j + d ≤ T.length → (memAt m' T j).length ≤ (memAt m' T (j + d)).length
  | 0, j, _ => Nat.le_refl _
  | d + 1, j, h => by
    have h1 := memAt_len hcall hat d j (by omega)
    have ht : T[j + d]? = some T[j + d] := List.getElem?_eq_getElem (by omega)
    have h2 := memAt_len1 hcall hat ht
    exact Nat.le_trans h1 h2

theorem memAt_le (hcall : CallOk P call) (hat : ∀ j t, T[j]? = some t → At P call N ops T r0 m' j t) {j k : Nat} (hjk : j ≤ k) (hk : k ≤ T.length) : (memAt m' T j).length ≤ (memAt m' T k).length := by
  have := memAt_len hcall hat (k - j) j (by omega)
  rwa [show j + (k - j) = k by omega] at this

theorem memAt_end : ∀ {T : List Tr}, memAt m' T T.length = m'
  | [] => rfl
  | _ :: T => memAt_end (T := T)

/-- where an entry comes from. -/
theorem back_to (hat : ∀ j t, T[j]? = some t → At P call N ops T r0 m' j t) {c j id : Nat} {e : Ent} (hj : j ≤ T.length) (he : (memAt m' T j)[id]? = some e)
    (hC : ∀ k t, T[k]? = some t → c ≤ k → k < j → isC t = true → (memAt m' T (k + 1))[id]? = (memAt m' T k)[id]?) :
    ∀ (d k : Nat), k + d = j → c ≤ k → (memAt m' T k)[id]? = some e ∨ ∃ f t, k ≤ f ∧ f < j ∧ T[f]? = some t ∧ t.run = true ∧ isF t.o.op = true ∧ (memAt m' T f).length = id ∧ (memAt m' T (f + 1))[id]? = some e
  | 0, k, hk, _ => .inl (by rw [show k = j by omega]; exact he)
  | d + 1, k, hk, hck => by
    have ht : T[k]? = some T[k] := List.getElem?_eq_getElem (by omega)
    rcases back_to hat hj he hC d (k + 1) (by omega) (by omega) with h | ⟨f, t, h1, h2⟩
    · rcases cls hat ht with hc | ⟨h1, h2, E, hE⟩ | ⟨_, hE⟩
      · rw [hC k _ ht hck (by omega) hc] at h; exact .inl h
      · rcases Nat.lt_or_ge id (memAt m' T k).length with hlt | hge
        · rw [hE, List.getElem?_append_left hlt] at h; exact .inl h
        · have hlen : id < (memAt m' T (k + 1)).length := (List.getElem?_eq_some_iff.1 h).1
          rw [hE] at hlen; simp at hlen
          exact .inr ⟨k, _, Nat.le_refl _, by omega, ht, h1, h2, by omega, h⟩
      · rw [hE] at h; exact .inl h
    · exact .inr ⟨f, t, by omega, h2⟩

/-- how long an entry stands. -/
theorem fwd_to (hat : ∀ j t, T[j]? = some t → At P call N ops T r0 m' j t) {c j id : Nat} {e : Ent} (hc : c ≤ T.length) (he : (memAt m' T j)[id]? = some e)
    (hC : ∀ k t, T[k]? = some t → j ≤ k → k < c → isC t = true → (memAt m' T (k + 1))[id]? = (memAt m' T k)[id]?) :
    ∀ (d : Nat), j + d ≤ c → (memAt m' T (j + d))[id]? = some e
  | 0, _ => he
  | d + 1, h => by
    have ht : T[j + d]? = some T[j + d] := List.getElem?_eq_getElem (by omega)
    have ih := fwd_to hat hc he hC d (by omega)
    show (memAt m' T (j + d + 1))[id]? = some e
    rcases cls hat ht with hcc | ⟨_, _, E, hE⟩ | ⟨_, hE⟩
    · rw [hC (j + d) _ ht (by omega) (by omega) hcc]; exact ih
    · rw [hE, List.getElem?_append_left (List.getElem?_eq_some_iff.1 ih).1]; exact ih
    · rw [hE]; exact ih

/-! ### What the checks say -/

theorem hasN_mem {t : Nat} : ∀ {l : List Nat}, t ∈ l → hasN t l = true
  | a :: l, h => by
    simp only [hasN_cons, Bool.or_eq_true]
    rcases List.mem_cons.1 h with rfl | h
    · exact .inl (Nat.beq_refl t)
    · exact .inr (hasN_mem h)

theorem edgesOk_spec {k : Nat} : ∀ {es : List Edge}, edgesOk k es = true → ∀ e ∈ es, Region.binds .any e = true → e.on < k
  | [], _, e, he => by simp at he
  | a :: es, h, e, he => by
    simp only [edgesOk, Bool.and_eq_true, Bool.or_eq_true, Bool.not_eq_true'] at h
    intro hb
    rcases List.mem_cons.1 he with rfl | he
    · rcases h.1 with h1 | h1
      · rw [h1] at hb; simp at hb
      · exact Nat.blt_eq.mp h1
    · exact edgesOk_spec h.2 e he hb

theorem beq_false {a b : Nat} (h : a ≠ b) : Nat.beq a b = false := by
  cases hb : Nat.beq a b with
  | false => rfl
  | true => exact absurd (Nat.eq_of_beq_eq_true hb) h

theorem slots_at {A : List Nat} (h : slotsOk A ops = true) {p q : Nat} {x y : Oper} (hp : ops[p]? = some x) (hq : ops[q]? = some y) :
    edgesOk p x.after.toList = true ∧ (p ≠ q → ∀ d, x.dst = some d → y.dst ≠ some d ∧ (d ∈ looks ops y → (p < q → anc A p q = true) ∧ (q < p → anc A q p = true))) := by
  have h1 := allN_spec h p x hp
  simp only [Nat.zero_add, Bool.and_eq_true] at h1
  refine ⟨h1.1, fun hne d hd => ?_⟩
  have h2 := allN_spec h1.2 q y hq
  simp only [Nat.zero_add, beq_false hne, Bool.false_or, hd] at h2
  simp only [Bool.and_eq_true, Bool.or_eq_true, Bool.not_eq_true'] at h2
  obtain ⟨h3, h4⟩ := h2
  refine ⟨fun hy => ?_, fun hl => ?_⟩
  · rw [hy] at h3; simp at h3
  · rcases h4 with h4 | h4
    · rw [hasN_mem hl] at h4; simp at h4
    · refine ⟨fun hlt => ?_, fun hlt => ?_⟩
      · rw [Nat.blt_eq.mpr hlt] at h4; exact h4
      · have : Nat.blt p q = false := by
          cases hb : Nat.blt p q with
          | false => rfl
          | true => have := Nat.blt_eq.mp hb; omega
        rw [this] at h4; exact h4

theorem chain_at {A : List Nat} (h : chainOk A T = true) {p q : Nat} {x y : Tr} (hp : T[p]? = some x) (hq : T[q]? = some y) (hy : isC y = true) (hlt : p < q) (hr : x.run = true) (hw : isW x.o.op = true) : anc A p q = true := by
  have h1 := allN_spec h q y hq
  simp only [Nat.zero_add, hy, Bool.not_true, Bool.false_or] at h1
  have h2 := allN_spec h1 p x hp
  simp only [Nat.zero_add, Nat.blt_eq.mpr hlt, hr, hw, Bool.and_self, Bool.not_true, Bool.false_or] at h2
  exact h2

theorem fresh_at {A : List Nat} (h : freshOk A T = true) {p q id : Nat} {x y : Tr} (hp : T[p]? = some x) (hq : T[q]? = some y) (hr : x.run = true) (hw : isW x.o.op = false) (hi : rdId x.o.op x.r = some id) (hyr : y.run = true) (hyf : isF y.o.op = true) (hl : y.m.length = id) : anc A q p = true := by
  have h1 := allN_spec h p x hp
  simp only [Nat.zero_add, hr, hw, Bool.not_false, Bool.and_self, Bool.not_true, Bool.false_or, hi] at h1
  have h2 := allN_spec h1 q y hq
  simp only [Nat.zero_add, hyr, hyf, len_eq, hl, Nat.beq_refl, Bool.and_self, Bool.not_true, Bool.false_or, Bool.and_eq_true] at h2
  exact h2.2

theorem cross_at {A : List Nat} (h : ∀ q ∈ crossObs A T, q) {p q id : Nat} {x y : Tr} (hp : T[p]? = some x) (hq : T[q]? = some y) (hr : x.run = true) (hw : isW x.o.op = false) (hi : rdId x.o.op x.r = some id) (hy : isC y = true)
    (h1 : q < p → anc A q p = false) (h2 : p < q → anc A p q = false) (hne : p ≠ q) (hs : spares y.o.op y.r y.m id = false) : y.m'[id]? = y.m[id]? := by
  have h3 := flatN_spec h p x hp
  simp only [Nat.zero_add, hr, hw, Bool.not_false, Bool.and_self, cond_true, hi] at h3
  have h4 := flatN_spec h3 q y hq
  have hc : (bif Nat.blt q p then anc A q p else anc A p q) = false := by
    cases hb : Nat.blt q p with
    | true => exact h1 (Nat.blt_eq.mp hb)
    | false =>
      refine h2 ?_
      rcases Nat.lt_or_ge p q with h | h
      · exact h
      · have : q < p := by omega
        rw [Nat.blt_eq.mpr this] at hb; simp at hb
  simp only [Nat.zero_add, hy, hc, hs, Bool.not_false, Bool.and_self, cond_true] at h4
  have : nth y.m' id = nth y.m id := h4 (.same (nth y.m' id) (nth y.m id)) (by simp)
  simpa [nth_eq] using this
end
end Go.XM

namespace Go.XM
open Go
section
variable {P : Program} {call : CallFn} {N : Nat} {ops : List Oper} {T : List Tr} {r0 : Regs} {m' : Mem}

/-- what is known of the region. -/
structure Ctx (P : Program) (call : CallFn) (N : Nat) (ops : List Oper) (T : List Tr) (r0 : Regs) (m0 m' : Mem) (H : Nat) : Prop where
  cok : CallOk P call
  hops : T.map (·.o) = ops
  hat : ∀ j t, T[j]? = some t → At P call N ops T r0 m' j t
  start : memAt m' T 0 = m0
  slots : slotsOk (ancs [] ops) ops = true
  chain : chainOk (ancs [] ops) T = true
  fresh : freshOk (ancs [] ops) T = true
  cross : ∀ q ∈ crossObs (ancs [] ops) T, q
  high : m'.length ≤ H

def Ls (listed : Array Bool) (i : Nat) : Prop := listed.getD i false = true

/-- entry id is there, and is e. -/
def Pr (m' : Mem) (T : List Tr) (c : Nat) (L : Nat → Prop) (id : Nat) (e : Ent) : Prop :=
  (memAt m' T c)[id]? = some e ∨ ∃ f t, c ≤ f ∧ T[f]? = some t ∧ t.run = true ∧ isF t.o.op = true ∧ L f ∧ (memAt m' T f).length = id ∧ (memAt m' T (f + 1))[id]? = some e

structure J (N : Nat) (ops : List Oper) (T : List Tr) (r0 : Regs) (m0 m' : Mem) (H : Nat) (γ0 : Gm) (w0 : World) (L : Nat → Prop) (a : Act) (w : World) (c : Nat) (γ : Gm) (μ : Nat → Ent) : Prop where
  closed : ∀ j o, ops[j]? = some o → L j → ∀ e ∈ o.after, Region.binds .any e = true → L e.on
  before : ∀ j t, T[j]? = some t → j < c → t.run = true → isW t.o.op = true → L j
  behind : ∀ j t, T[j]? = some t → c ≤ j → isC t = true → ¬ L j
  cn : c ≤ T.length
  mf : MF γ μ w
  fr : Fr γ0 m0 w0 γ μ w
  pr : ∀ id e, Pr m' T c L id e → μ id = e
  dom : ∀ id g, γ id = some g → (∃ e, Pr m' T c L id e) ∨ H ≤ id
  back : ∀ id, id < m0.length ∨ m'.length ≤ id → γ id = γ0 id
  regs : RO γ N (pushAll L 0 T r0) a

variable {H c : Nat} {γ0 γ : Gm} {m0 : Mem} {w0 w : World} {L L' : Nat → Prop} {a : Act} {μ : Nat → Ent}

theorem Ctx.op (C : Ctx P call N ops T r0 m0 m' H) {j : Nat} {t : Tr} (ht : T[j]? = some t) : ops[j]? = some t.o := by
  rw [← C.hops]; simp [ht]

theorem Ctx.tr (C : Ctx P call N ops T r0 m0 m' H) {j : Nat} {o : Oper} (ho : ops[j]? = some o) : ∃ t, T[j]? = some t ∧ t.o = o := by
  rw [← C.hops] at ho; simpa using ho

theorem anc_listed (hcl : ∀ (j : Nat) (o : Oper), ops[j]? = some o → L j → ∀ e ∈ o.after, Region.binds .any e = true → L e.on) {i j : Nat} {o : Oper} (hj : ops[j]? = some o)
    (hpre : ∀ e ∈ o.after, Region.binds .any e = true → L e.on) (h : anc (ancs [] ops) i j = true) : L i := by
  unfold anc at h
  rw [nth_eq] at h
  cases hx : (ancs [] ops)[j]? with
  | none => rw [hx] at h; simp at h
  | some x =>
    rw [hx] at h
    exact ancs_spec hcl ops [] (fun j => by simp) (fun j x h => by simp at h) j x hx o hj hpre i h

/-- what the slots hold that a ready operation names. -/
theorem J.looked (C : Ctx P call N ops T r0 m0 m' H) (hJ : J N ops T r0 m0 m' H γ0 w0 L a w c γ μ) {j : Nat} {t : Tr} (ht : T[j]? = some t) (hL : ¬ L j) (hpre : ∀ e ∈ t.o.after, Region.binds .any e = true → L e.on) :
    ∀ x ∈ looks ops t.o, get (pushAll L 0 T r0) x = get t.r x := by
  intro x hx
  rw [(C.hat j t ht).regs]
  refine get_pushAll_congr (fun i u hu hd => ?_) rfl
  simp only [Nat.zero_add]
  by_cases hij : i = j
  · subst hij; exact ⟨fun h => absurd h hL, fun h => absurd h (Nat.lt_irrefl _)⟩
  · obtain ⟨_, h2⟩ := slots_at C.slots (C.op hu) (C.op ht)
    obtain ⟨_, h3⟩ := h2 hij x hd
    obtain ⟨h4, h5⟩ := h3 hx
    constructor
    · intro hLi
      rcases Nat.lt_or_ge i j with h | h
      · exact h
      · exact absurd (anc_listed hJ.closed (C.op hu) (hJ.closed i u.o (C.op hu) hLi) (h5 (by omega))) hL
    · intro hlt
      exact anc_listed hJ.closed (C.op ht) hpre (h4 hlt)

theorem ev_looked {r r' : Regs} {o : Oper} (h : ∀ x ∈ looks ops o, get r x = get r' x) : ∀ x ∈ o.op.operands, ev r x = ev r' x := by
  intro x hx
  cases x with
  | tmp t => exact h t (by
      unfold looks
      exact List.mem_append_left _ (List.mem_filterMap.2 ⟨.tmp t, by simpa using hx, rfl⟩))
  | _ => rfl

theorem guard_looked {r r' : Regs} {o : Oper} (h : ∀ x ∈ looks ops o, get r x = get r' x) (st : List Ch) : xguard ops r o.guard st = xguard ops r' o.guard st := by
  unfold xguard
  cases hg : o.guard with
  | none => rfl
  | some g =>
    obtain ⟨j, want⟩ := g
    simp only
    cases hq : nth ops j with
    | none => rfl
    | some q =>
      simp only
      cases hd : q.dst with
      | none => rfl
      | some d =>
        simp only
        rw [h d (by unfold looks; simp [hg, hq, hd])]

theorem regs_next {γ' : Gm} (C : Ctx P call N ops T r0 m0 m' H) (hr : RO γ N (pushAll L 0 T r0) a) (hle : γ.le γ') {j : Nat} {t : Tr} (ht : T[j]? = some t) {V : Value} (hv : VR γ' t.v V) (hL' : ∀ i, L' i ↔ (L i ∨ i = j)) :
    RO γ' N (pushAll L' 0 T r0) (a.put t.o.dst V) := by
  have hr := hr.mono hle
  have same : ∀ x, t.o.dst ≠ some x → get (pushAll L' 0 T r0) x = get (pushAll L 0 T r0) x := fun x hx => by
    refine get_pushAll_congr (fun i u hu hd => ?_) rfl
    rw [Nat.zero_add, hL']
    have : i ≠ j := fun e => by subst e; rw [ht] at hu; cases hu; exact hx hd
    exact ⟨fun h => h.resolve_right this, .inl⟩
  cases hd : t.o.dst with
  | none => exact ⟨hr.defers, hr.size, fun x v hx => hr.get x v (by rw [← same x (by rw [hd]; simp)]; exact hx)⟩
  | some d =>
    have hlt := (C.hat j t ht).putN d hd
    refine ⟨hr.defers, by simp [Act.put, hr.size], fun x v hx => ?_⟩
    by_cases hdx : d = x
    · subst hdx
      rw [get_pushAll_hit ht hd (by rw [hL']; exact .inr (by omega)) (fun i u hu hud => by
        by_cases hij : i = j
        · exact hij
        · exact absurd hd ((slots_at C.slots (C.op hu) (C.op ht)).2 hij d hud).1)] at hx
      cases hx
      exact ⟨V, by simp [Act.put, hr.size, hlt], hv⟩
    · rw [same x (by rw [hd]; simpa using hdx)] at hx
      obtain ⟨W, h1, h2⟩ := hr.get x v hx
      exact ⟨W, by simp [Act.put, Array.getElem?_setIfInBounds_ne hdx, h1], h2⟩

theorem closed_next (C : Ctx P call N ops T r0 m0 m' H) (hcl : ∀ (j : Nat) (o : Oper), ops[j]? = some o → L j → ∀ e ∈ o.after, Region.binds .any e = true → L e.on) {j : Nat} {t : Tr} (ht : T[j]? = some t)
    (hpre : ∀ e ∈ t.o.after, Region.binds .any e = true → L e.on) (hL' : ∀ i, L' i ↔ (L i ∨ i = j)) : ∀ (i : Nat) (o : Oper), ops[i]? = some o → L' i → ∀ e ∈ o.after, Region.binds .any e = true → L' e.on := by
  intro i o ho hi e he hb
  rw [hL'] at hi ⊢
  rcases hi with hi | rfl
  · exact .inl (hcl i o ho hi e he hb)
  · rw [C.op ht] at ho; cases ho; exact .inl (hpre e he hb)

/-- strictly behind a float, memory is longer. -/
theorem float_lt (C : Ctx P call N ops T r0 m0 m' H) {f k : Nat} {t : Tr} (ht : T[f]? = some t) (hr : t.run = true) (hf : isF t.o.op = true) (hlt : f < k) (hk : k ≤ T.length) : (memAt m' T f).length < (memAt m' T k).length := by
  have h1 := memAt_le C.cok C.hat (j := f + 1) (k := k) (by omega) hk
  rcases cls C.hat ht with hc | ⟨_, _, E, hE⟩ | ⟨hn, _⟩
  · simp [isC, hf] at hc
  · rw [hE] at h1; simp at h1; omega
  · exact absurd ⟨hr, isF_isW hf⟩ hn

theorem Pr.mono (hL : ∀ i, L i → L' i) {id : Nat} {e : Ent} (h : Pr m' T c L id e) : Pr m' T c L' id e := by
  rcases h with h | ⟨f, t, h1, h2, h3, h4, h5, h6⟩
  · exact .inl h
  · exact .inr ⟨f, t, h1, h2, h3, h4, hL f h5, h6⟩

theorem Pr.lt (C : Ctx P call N ops T r0 m0 m' H) (hc : c ≤ T.length) {id : Nat} {e : Ent} (h : Pr m' T c L id e) : id < m'.length := by
  rcases h with h | ⟨f, t, h1, h2, h3, h4, h5, h6, h7⟩
  · have := (List.getElem?_eq_some_iff.1 h).1
    have h2 := memAt_le C.cok C.hat hc (Nat.le_refl _)
    rw [memAt_end] at h2
    omega
  · have hlt := (List.getElem?_eq_some_iff.1 h2).1
    have := float_lt C h2 h3 h4 hlt (Nat.le_refl _)
    rw [memAt_end] at this
    omega

/-- a read: it sees what the trace saw. -/
theorem J.seen (C : Ctx P call N ops T r0 m0 m' H) (hJ : J N ops T r0 m0 m' H γ0 w0 L a w c γ μ) {j : Nat} {t : Tr} (ht : T[j]? = some t) (hL : ¬ L j) (hpre : ∀ e ∈ t.o.after, Region.binds .any e = true → L e.on)
    (hr : t.run = true) (hw : isW t.o.op = false) {id : Nat} {e : Ent} (hi : rdId t.o.op t.r = some id) (he : t.m[id]? = some e) : μ id = e := by
  have A := C.hat j t ht
  rw [A.mem] at he
  have hjT : j < T.length := (List.getElem?_eq_some_iff.1 ht).1
  have same : ∀ k u, T[k]? = some u → isC u = true → (j < k → anc (ancs [] ops) j k = false) → (k < j → anc (ancs [] ops) k j = false) → (memAt m' T (k + 1))[id]? = (memAt m' T k)[id]? := by
    intro k u hu hc h1 h2
    have B := C.hat k u hu
    have hne : j ≠ k := fun e => by subst e; rw [ht] at hu; cases hu; simp [isC, hw] at hc
    rw [← B.next, ← B.mem]
    cases hs : spares u.o.op u.r u.m id with
    | false => exact cross_at C.cross ht hu hr hw hi hc h2 h1 hne hs
    | true =>
      have hcu : u.run = true ∧ isF u.o.op = false := by
        simp [isC] at hc; exact ⟨hc.1.1, hc.2⟩
      obtain ⟨st1, ob, hst, _⟩ := B.step hcu.1
      have hcall : isCall u.o.op = false := by
        cases hop : u.o.op <;> simp [hop, spares] at hs <;> rfl
      exact xop_spares hcu.2 hs (xstep_xop hcall hst)
  refine hJ.pr id e ?_
  rcases Nat.lt_or_ge j c with hjc | hcj
  · -- the cut lies behind
    have := fwd_to C.hat hJ.cn he (fun k u hu h1 h2 hc => same k u hu hc (fun hlt => by
      cases hanc : anc (ancs [] ops) j k with
      | false => rfl
      | true =>
        have hcu : u.run = true ∧ isW u.o.op = true := by simp [isC] at hc; exact ⟨hc.1.1, hc.1.2⟩
        have hLk := hJ.before k u hu h2 hcu.1 hcu.2
        exact absurd (anc_listed hJ.closed (C.op hu) (hJ.closed k u.o (C.op hu) hLk) hanc) hL) (fun hlt => by omega)) (c - j) (by omega)
    rw [show j + (c - j) = c by omega] at this
    exact .inl this
  · have := back_to C.hat (c := c) (Nat.le_of_lt hjT) he (fun k u hu h1 h2 hc => same k u hu hc (fun hlt => by omega) (fun hlt => by
      cases hanc : anc (ancs [] ops) k j with
      | false => rfl
      | true => exact absurd (anc_listed hJ.closed (C.op ht) hpre hanc) (hJ.behind k u hu h1 hc))) (j - c) c (by omega) (Nat.le_refl _)
    rcases this with h | ⟨f, u, h1, h2, h3, h4, h5, h6, h7⟩
    · exact .inl h
    · refine .inr ⟨f, u, h1, h3, h4, h5, ?_, h6, h7⟩
      have B := C.hat f u h3
      exact anc_listed hJ.closed (C.op ht) hpre (fresh_at C.fresh ht h3 hr hw hi h4 h5 (by rw [B.mem]; exact h6))

/-- entries that no writing operation stands between: the trace's own memory. -/
theorem J.upto (C : Ctx P call N ops T r0 m0 m' H) (hJ : J N ops T r0 m0 m' H γ0 w0 L a w c γ μ) {j : Nat} (hcj : c ≤ j) (hjT : j ≤ T.length) (hall : ∀ k u, T[k]? = some u → k < j → u.run = true → isW u.o.op = true → L k) {id : Nat} {e : Ent}
    (he : (memAt m' T j)[id]? = some e) : Pr m' T c L id e := by
  have := back_to C.hat (c := c) hjT he (fun k u hu h1 h2 hc => by
    have hcu : u.run = true ∧ isW u.o.op = true := by simp [isC] at hc; exact ⟨hc.1.1, hc.1.2⟩
    exact absurd (hall k u hu h2 hcu.1 hcu.2) (hJ.behind k u hu h1 hc)) (j - c) c (by omega) (Nat.le_refl _)
  rcases this with h | ⟨f, u, h1, h2, h3, h4, h5, h6, h7⟩
  · exact .inl h
  · exact .inr ⟨f, u, h1, h3, h4, h5, hall f u h3 h2 h4 (isF_isW h5), h6, h7⟩

theorem range_map {μ : Nat → Ent} {B id : Nat} {e : Ent} (h : ((List.range B).map μ)[id]? = some e) : id < B ∧ μ id = e := by
  simp at h
  obtain ⟨k, hk, rfl⟩ := h
  rw [List.getElem?_eq_some_iff] at hk
  obtain ⟨h1, h2⟩ := hk
  simp at h1 h2
  subst h2
  exact ⟨h1, rfl⟩

theorem onto_range {μ : Nat → Ent} {B : Nat} : onto ((List.range B).map μ) μ = μ := by
  funext id
  rcases Nat.lt_or_ge id B with h | h
  · exact onto_some (by simp [List.getElem?_range h])
  · exact onto_none (by simpa using h)

/-- one more operation is listed. -/
theorem J.next (C : Ctx P call N ops T r0 m0 m' H) (hJ : J N ops T r0 m0 m' H γ0 w0 L a w c γ μ) {j : Nat} {t : Tr} (ht : T[j]? = some t) (hL : ¬ L j) (hpre : ∀ e ∈ t.o.after, Region.binds .any e = true → L e.on)
    (hL' : ∀ i, L' i ↔ (L i ∨ i = j)) {K : Act → World → Prop} {Q : Exit → Act → World → Prop} (hK : ∀ a' w' c' γ' μ', J N ops T r0 m0 m' H γ0 w0 L' a' w' c' γ' μ' → K a' w') : 
    if Region.wanted t.o (yielded ops.toArray a.tmps) = true then t.o.wp P a w K Q else K (a.put t.o.dst undef) w := by
  have A := C.hat j t ht
  have hjT : j < T.length := (List.getElem?_eq_some_iff.1 ht).1
  have hlook := hJ.looked C ht hL hpre
  have hguard : Region.wanted t.o (yielded ops.toArray a.tmps) = t.run := by
    obtain ⟨st0, g, hg, hgo⟩ := A.guard
    rw [← guard_looked hlook] at hg
    exact xguard_spec hg hgo hJ.regs
  have hcl := closed_next C hJ.closed ht hpre hL'
  have hsub : ∀ i, L i → L' i := fun i hi => (hL' i).2 (.inl hi)
  rw [hguard]
  cases hr : t.run with
  | false =>
    simp only [Bool.false_eq_true, if_false]
    have hv : t.v = .tup [] := (A.skip hr).2
    refine hK _ _ c γ μ ⟨hcl, fun i u hu hi h1 h2 => hsub i (hJ.before i u hu hi h1 h2), fun i u hu hi h1 h2 => ?_, hJ.cn, hJ.mf, hJ.fr, fun id e h => ?_, fun id g hg => (hJ.dom id g hg).imp (fun ⟨e, he⟩ => ⟨e, he.mono hsub⟩) (fun h => h), hJ.back, regs_next C hJ.regs (Gm.le_refl _) ht (by rw [hv]; exact ⟨[], rfl, rfl⟩) hL'⟩
    · rcases (hL' i).1 h2 with h | rfl
      · exact hJ.behind i u hu hi h1 h
      · rw [ht] at hu; cases hu; simp [isC, hr] at h1
    · rcases h with h | ⟨f, u, h1, h2, h3, h4, h5, h6⟩
      · exact hJ.pr id e (.inl h)
      · rcases (hL' f).1 h5 with h | rfl
        · exact hJ.pr id e (.inr ⟨f, u, h1, h2, h3, h4, h, h6⟩)
        · rw [ht] at h2; cases h2; rw [hr] at h3; cases h3
  | true =>
    simp only [if_true]
    obtain ⟨st1, ob, hs, ho⟩ := A.step hr
    have hs' := xstep_regs (r' := pushAll L 0 T r0) (fun x hx => (ev_looked hlook x hx).symm) _ _ _ hs
    rcases cls C.hat ht with hc | ⟨_, hf, _⟩ | ⟨hnw, hsame⟩
    · -- a call, a store, an append
      have hcu : isF t.o.op = false ∧ isW t.o.op = true := by simp [isC] at hc; exact ⟨hc.2, hc.1.2⟩
      have hcj : c ≤ j := by
        rcases Nat.lt_or_ge j c with h | h
        · exact absurd (hJ.before j t ht h hr hcu.2) hL
        · exact h
      have hall : ∀ k u, T[k]? = some u → k < j → u.run = true → isW u.o.op = true → L k := fun k u hu hk h1 h2 =>
        anc_listed hJ.closed (C.op ht) hpre (chain_at C.chain hu ht hc hk h1 h2)
      have hpr : ∀ id e, t.m[id]? = some e → μ id = e := fun id e he => hJ.pr id e (hJ.upto C hcj (Nat.le_of_lt hjT) hall (by rw [← A.mem]; exact he))
      have hlen1 : (memAt m' T j).length ≤ (memAt m' T (j + 1)).length := memAt_le C.cok C.hat (by omega) (by omega)
      have hlen2 : (memAt m' T (j + 1)).length ≤ m'.length := by
        have := memAt_le C.cok C.hat (j := j + 1) (k := T.length) (by omega) (Nat.le_refl _)
        rwa [memAt_end] at this
      have hlen0 : (memAt m' T c).length ≤ (memAt m' T j).length := memAt_le C.cok C.hat hcj (by omega)
      have hdom : ∀ id g, γ id = some g → id < (memAt m' T j).length ∨ (memAt m' T (j + 1)).length ≤ id := fun id g hg => by
        rcases hJ.dom id g hg with ⟨e, he⟩ | hge
        · rcases he with he | ⟨f, u, h1, h2, h3, h4, h5, h6, h7⟩
          · have := (List.getElem?_eq_some_iff.1 he).1
            exact .inl (by omega)
          · rcases Nat.lt_trichotomy f j with h | h | h
            · have := float_lt C h2 h3 h4 h (by omega)
              exact .inl (by omega)
            · subst h; rw [ht] at h2; cases h2; rw [hcu.1] at h4; cases h4
            · have := memAt_le C.cok C.hat (j := j + 1) (k := f) (by omega) (Nat.le_of_lt (List.getElem?_eq_some_iff.1 h2).1)
              exact .inr (by omega)
        · have := C.high
          exact .inr (by omega)
      have hm : MemOk (memAt m' T (j + 1)).length γ t.m w := hJ.mf.toMem hpr (by rw [A.mem]; exact hdom)
      refine xstep_spec C.cok hs' ho hJ.regs hm (by rw [A.next]; exact Nat.le_refl _) ?_
      intro γ' w' V hv hm' hsf
      obtain ⟨hmf, hfr⟩ := hJ.mf.step hJ.fr hpr hm' hsf
      have hbk : ∀ id, id < (memAt m' T j).length ∨ (memAt m' T (j + 1)).length ≤ id → γ' id = γ id := fun id h => hsf.back id (by rw [A.mem, A.next]; exact h)
      refine hK _ _ (j + 1) γ' _ ⟨hcl, fun i u hu hi h1 h2 => ?_, fun i u hu hi h1 h2 => ?_, by omega, hmf, hfr, fun id e h => ?_, fun id g hg => ?_, fun id h => ?_, regs_next C hJ.regs hsf.ext ht hv hL'⟩
      · rcases Nat.lt_or_ge i j with h | h
        · exact hsub i (hall i u hu h h1 h2)
        · exact (hL' i).2 (.inr (by omega))
      · rcases (hL' i).1 h2 with h | h
        · exact hJ.behind i u hu (by omega) h1 h
        · omega
      · rcases h with h | ⟨f, u, h1, h2, h3, h4, h5, h6, h7⟩
        · exact onto_some (by rw [A.next]; exact h)
        · have := memAt_le C.cok C.hat (j := j + 1) (k := f) h1 (Nat.le_of_lt (List.getElem?_eq_some_iff.1 h2).1)
          rw [onto_none (by rw [A.next]; omega)]
          refine hJ.pr id e (.inr ⟨f, u, by omega, h2, h3, h4, ?_, h6, h7⟩)
          rcases (hL' f).1 h5 with h | h
          · exact h
          · omega
      · rcases Nat.lt_or_ge id (memAt m' T (j + 1)).length with hlt | hge
        · exact .inl ⟨_, .inl (List.getElem?_eq_getElem hlt)⟩
        · rw [hbk id (.inr hge)] at hg
          rcases hJ.dom id g hg with ⟨e, he⟩ | hge
          · rcases he with he | ⟨f, u, h1, h2, h3, h4, h5, h6, h7⟩
            · have := (List.getElem?_eq_some_iff.1 he).1
              omega
            · rcases Nat.lt_trichotomy f j with h | h | h
              · have := float_lt C h2 h3 h4 h (by omega)
                omega
              · subst h; rw [ht] at h2; cases h2; rw [hcu.1] at h4; cases h4
              · exact .inl ⟨e, .inr ⟨f, u, by omega, h2, h3, h4, hsub f h5, h6, h7⟩⟩
          · exact .inr hge
      · have h0 : m0.length ≤ (memAt m' T j).length := by
          have := memAt_le C.cok C.hat (j := 0) (k := j) (by omega) (by omega)
          rwa [C.start] at this
        rw [hbk id (by omega), hJ.back id h]
    · -- a new entry
      have hcall := isF_call hf
      obtain ⟨E, hE, hrun⟩ := xop_float hf (xstep_xop hcall hs')
      rw [A.mem] at hE
      have hcj : c ≤ j := by
        rcases Nat.lt_or_ge j c with h | h
        · exact absurd (hJ.before j t ht h hr (isF_isW hf)) hL
        · exact h
      have hlen0 : (memAt m' T c).length ≤ (memAt m' T j).length := memAt_le C.cok C.hat hcj (by omega)
      have hnext : memAt m' T (j + 1) = memAt m' T j ++ [E] := by rw [← A.next, hE]
      have hlen2 : (memAt m' T (j + 1)).length ≤ m'.length := by
        have := memAt_le C.cok C.hat (j := j + 1) (k := T.length) (by omega) (Nat.le_refl _)
        rwa [memAt_end] at this
      rw [hnext] at hlen2
      simp only [List.length_append, List.length_singleton] at hlen2
      generalize hfid : (memAt m' T j).length = fid at *
      have hne : ∀ f u, T[f]? = some u → u.run = true → isF u.o.op = true → f ≠ j → (memAt m' T f).length ≠ fid := fun f u hu h1 h2 h3 => by
        rcases Nat.lt_or_ge f j with h | h
        · have := float_lt C hu h1 h2 h (by omega); omega
        · have := float_lt C ht hr hf (k := f) (by omega) (Nat.le_of_lt (List.getElem?_eq_some_iff.1 hu).1); omega
      have hdom : ∀ id g, γ id = some g → id < fid ∨ fid + 1 ≤ id := fun id g hg => by
        rcases hJ.dom id g hg with ⟨e, he⟩ | hge
        · rcases he with he | ⟨f, u, h1, h2, h3, h4, h5, h6, h7⟩
          · have := (List.getElem?_eq_some_iff.1 he).1
            exact .inl (by omega)
          · have := hne f u h2 h3 h4 (fun e => by subst e; exact hL h5)
            omega
        · have := C.high
          exact .inr (by omega)
      have hml : ((List.range fid).map μ).length = t.m.length := by simp [A.mem, hfid]
      have hx := hrun _ hml
      have hm : MemOk (fid + 1) γ ((List.range fid).map μ) w := hJ.mf.toMem (fun id e he => (range_map he).2) (by simpa using hdom)
      refine xstep_spec C.cok (xop_xstep hcall hx) ho hJ.regs hm (by simp) ?_
      intro γ' w' V hv hm' hsf
      obtain ⟨hmf, hfr⟩ := hJ.mf.step hJ.fr (fun id e he => (range_map he).2) hm' hsf
      have hbk : ∀ id, id ≠ fid → γ' id = γ id := fun id h => hsf.back id (by simp; omega)
      have hμ : ∀ id, id ≠ fid → onto ((List.range fid).map μ ++ [E]) μ id = μ id := fun id h => by
        rcases Nat.lt_or_ge id fid with h1 | h1
        · exact onto_some (by rw [List.getElem?_append_left (by simpa using h1)]; simp [List.getElem?_range h1])
        · exact onto_none (by simp; omega)
      have hμf : onto ((List.range fid).map μ ++ [E]) μ fid = E := onto_some (by rw [List.getElem?_append_right (by simp)]; simp)
      have hEat : (memAt m' T (j + 1))[fid]? = some E := by rw [hnext, List.getElem?_append_right (by omega)]; simp [hfid]
      refine hK _ _ c γ' _ ⟨hcl, fun i u hu hi h1 h2 => hsub i (hJ.before i u hu hi h1 h2), fun i u hu hi h1 h2 => ?_, hJ.cn, hmf, hfr, fun id e h => ?_, fun id g hg => ?_, fun id h => ?_, regs_next C hJ.regs hsf.ext ht hv hL'⟩
      · rcases (hL' i).1 h2 with h | rfl
        · exact hJ.behind i u hu hi h1 h
        · rw [ht] at hu; cases hu; simp [isC, hf] at h1
      · rcases h with h | ⟨f, u, h1, h2, h3, h4, h5, h6, h7⟩
        · have := (List.getElem?_eq_some_iff.1 h).1
          rw [hμ id (by omega)]; exact hJ.pr id e (.inl h)
        · rcases (hL' f).1 h5 with h | rfl
          · rw [hμ id (fun e => hne f u h2 h3 h4 (fun e => by subst e; exact hL h) (by omega))]
            exact hJ.pr id e (.inr ⟨f, u, h1, h2, h3, h4, h, h6, h7⟩)
          · have : id = fid := by omega
            subst this
            rw [hEat] at h7; cases h7
            exact hμf
      · by_cases hid : id = fid
        · subst hid
          exact .inl ⟨E, .inr ⟨j, t, hcj, ht, hr, hf, (hL' j).2 (.inr rfl), hfid, hEat⟩⟩
        · rw [hbk id hid] at hg
          exact (hJ.dom id g hg).imp (fun ⟨e, he⟩ => ⟨e, he.mono hsub⟩) (fun h => h)
      · have h0 : m0.length ≤ (memAt m' T j).length := by
          have := memAt_le C.cok C.hat (j := 0) (k := j) (by omega) (by omega)
          rwa [C.start] at this
        rw [hbk id (by omega), hJ.back id h]
    · -- a read
      have hw : isW t.o.op = false := by
        cases h : isW t.o.op with
        | false => rfl
        | true => exact absurd ⟨hr, h⟩ hnw
      have hcall := notW_call hw
      obtain ⟨_, hrun⟩ := xop_reads hw (xstep_xop hcall hs)
      obtain ⟨B, hB⟩ : ∃ B, ∀ id, rdId t.o.op t.r = some id → id < B := by
        cases h : rdId t.o.op t.r with
        | none => exact ⟨0, fun id h => by cases h⟩
        | some k => exact ⟨k + 1, fun id h => by cases h; omega⟩
      have hx := hrun ((List.range B).map μ) (fun id e hi he => by
        have := hJ.seen C ht hL hpre hr hw hi he
        simp [List.getElem?_range (hB id hi), this])
      have hm : MemOk B γ ((List.range B).map μ) w := hJ.mf.toMem (fun id e he => (range_map he).2) (fun id g _ => by simp; omega)
      refine xstep_spec C.cok (xop_xstep hcall (by rw [xop_regs (fun x hx => ev_looked hlook x hx)]; exact hx)) ho hJ.regs hm (by simp) ?_
      intro γ' w' V hv hm' hsf
      obtain ⟨hmf, hfr⟩ := hJ.mf.step hJ.fr (fun id e he => (range_map he).2) hm' hsf
      rw [onto_range] at hmf hfr
      have hbk : ∀ id, γ' id = γ id := fun id => hsf.back id (by simp; omega)
      refine hK _ _ c γ' μ ⟨hcl, fun i u hu hi h1 h2 => hsub i (hJ.before i u hu hi h1 h2), fun i u hu hi h1 h2 => ?_, hJ.cn, hmf, hfr, fun id e h => ?_, fun id g hg => ?_, fun id h => by rw [hbk]; exact hJ.back id h, regs_next C hJ.regs hsf.ext ht hv hL'⟩
      · rcases (hL' i).1 h2 with h | rfl
        · exact hJ.behind i u hu hi h1 h
        · rw [ht] at hu; cases hu; simp [isC, hw] at h1
      · rcases h with h | ⟨f, u, h1, h2, h3, h4, h5, h6⟩
        · exact hJ.pr id e (.inl h)
        · rcases (hL' f).1 h5 with h | rfl
          · exact hJ.pr id e (.inr ⟨f, u, h1, h2, h3, h4, h, h6⟩)
          · rw [ht] at h2; cases h2; rw [isF_isW h4] at hw; cases hw
      · rw [hbk] at hg
        exact (hJ.dom id g hg).imp (fun ⟨e, he⟩ => ⟨e, he.mono hsub⟩) (fun h => h)
end
end Go.XM

namespace Go.XM
open Go
section
variable {P : Program} {call : CallFn} {N : Nat} {ops : List Oper} {T : List Tr} {r0 : Regs} {m' : Mem}
variable {H c : Nat} {γ0 γ : Gm} {m0 : Mem} {w0 w : World} {L L' : Nat → Prop} {a : Act} {μ : Nat → Ent}

/-- operations that are not listed. -/
def left (listed : Array Bool) (n : Nat) : Nat := (List.range n).countP fun i => !listed.getD i true

theorem count_lt {p q : Nat → Bool} : ∀ {l : List Nat} {x : Nat}, (∀ y, q y = true → p y = true) → x ∈ l → p x = true → q x = false → l.countP q < l.countP p
  | a :: l, x, h, hx, hp, hq => by
    rw [List.countP_cons, List.countP_cons]
    have hle : l.countP q ≤ l.countP p := List.countP_mono_left fun y _ hy => h y hy
    rcases List.mem_cons.1 hx with rfl | hx
    · rw [hp, hq]; simp; omega
    · have := count_lt (l := l) h hx hp hq
      cases hqa : q a with
      | false => simp; omega
      | true => rw [h a hqa]; simp; omega

theorem left_set {listed : Array Bool} {n j : Nat} (hj : j < n) (hsz : listed.size = n) (hu : listed.getD j true = false) : left (listed.setIfInBounds j true) n < left listed n := by
  refine count_lt (x := j) (fun y hy => ?_) (by simpa using hj) (by simp [hu]) ?_
  · by_cases h : j = y
    · subst h; simp [hsz, hj] at hy
    · rw [getD_set_ne true h] at hy; exact hy
  · simp [hsz, hj]

theorem Ls_set {listed : Array Bool} {n j : Nat} (hj : j < n) (hsz : listed.size = n) (i : Nat) : Ls (listed.setIfInBounds j true) i ↔ (Ls listed i ∨ i = j) := by
  unfold Ls
  by_cases h : j = i
  · subst h; simp [hsz, hj]
  · rw [getD_set_ne false h]
    constructor
    · exact .inl
    · rintro (h' | h')
      · exact h'
      · exact absurd h'.symm h

theorem Ls_getD {listed : Array Bool} {n i : Nat} (hi : i < n) (hsz : listed.size = n) : listed.getD i true = listed.getD i false := by
  simp [hsz, hi]

/-- when none is ready, all are listed. -/
theorem all_listed (C : Ctx P call N ops T r0 m0 m' H) {listed : Array Bool} (hsz : listed.size = T.length) (hnil : Region.ready .any ops.toArray listed = []) : ∀ n i, i < n → i < T.length → Ls listed i
  | 0, i, h, _ => by omega
  | n + 1, i, h, hi => by
    by_cases hl : listed.getD i false = true
    · exact hl
    · exfalso
      have ht : T[i]? = some T[i] := List.getElem?_eq_getElem hi
      have hop := C.op ht
      have hr : i ∈ Region.ready .any ops.toArray listed := mem_ready.2 ⟨by rw [Ls_getD hi hsz]; simpa using hl, _, by simpa using hop, fun e he hb => by
        have := edgesOk_spec (slots_at C.slots hop hop).1 e (by simpa using he) hb
        exact all_listed C hsz hnil n e.on (by omega) (by omega)⟩
      rw [hnil] at hr
      simp at hr

theorem J.ends (C : Ctx P call N ops T r0 m0 m' H) (hJ : J N ops T r0 m0 m' H γ0 w0 L a w c γ μ) (hall : ∀ i, i < T.length → L i) :
    RO γ N (pushAll (fun _ => True) 0 T r0) a ∧ MemOk H γ m' w ∧ SF γ0 m0 w0 γ m' w := by
  have hpr : ∀ id e, m'[id]? = some e → μ id = e := fun id e he => hJ.pr id e (hJ.upto C hJ.cn (Nat.le_refl _) (fun k u hu hk _ _ => hall k hk) (by rw [memAt_end]; exact he))
  have hdom : ∀ id g, γ id = some g → id < m'.length ∨ H ≤ id := fun id g hg => (hJ.dom id g hg).imp (fun ⟨e, he⟩ => he.lt C hJ.cn) (fun h => h)
  have hlen : m0.length ≤ m'.length := by
    have := memAt_le C.cok C.hat (j := 0) (k := T.length) (by omega) (Nat.le_refl _)
    rwa [C.start, memAt_end] at this
  refine ⟨⟨hJ.regs.defers, hJ.regs.size, fun x v hx => hJ.regs.get x v ?_⟩, hJ.mf.toMem hpr hdom, ⟨hJ.fr.ext, hJ.fr.os, hJ.fr.tape, hJ.fr.output, hJ.fr.size, hJ.fr.keep, ?_, ?_, hlen, hJ.back⟩⟩
  · rw [← hx]
    exact get_pushAll_congr (fun i t ht _ => ⟨fun _ => trivial, fun _ => hall _ (by have := (List.getElem?_eq_some_iff.1 ht).1; omega)⟩) rfl
  · rintro b ⟨id, e, g, h1, h2, h3, rfl⟩
    exact hJ.fr.foot id g (by rw [hpr id e h1]; exact h2) h3
  · rintro b ⟨id, e, g, h1, h2, h3, rfl⟩
    exact hJ.fr.live id g (by rw [hpr id e h1]; exact h2) h3

theorem draw_any (C : Ctx P call N ops T r0 m0 m' H) {Q : Exit → Act → World → Prop} (hQ : ∀ γ' a' w', RO γ' N (pushAll (fun _ => True) 0 T r0) a' → MemOk H γ' m' w' → SF γ0 m0 w0 γ' m' w' → Q .normal a' w') :
    ∀ (fuel : Nat) (listed : Array Bool) (a : Act) (w : World) (c : Nat) (γ : Gm) (μ : Nat → Ent), listed.size = T.length → left listed T.length ≤ fuel → J N ops T r0 m0 m' H γ0 w0 (Ls listed) a w c γ μ → wpAny P .any ops.toArray Q fuel listed a w := by
  have hlen : ops.length = T.length := by rw [← C.hops]; simp
  have done : ∀ (listed : Array Bool) (a : Act) (w : World) (c : Nat) (γ : Gm) (μ : Nat → Ent), listed.size = T.length → J N ops T r0 m0 m' H γ0 w0 (Ls listed) a w c γ μ → Region.ready .any ops.toArray listed = [] → Q .normal a w := by
    intro listed a w c γ μ hsz hJ hnil
    obtain ⟨h1, h2, h3⟩ := hJ.ends C (fun i hi => all_listed C hsz hnil (i + 1) i (by omega) hi)
    exact hQ γ a w h1 h2 h3
  intro fuel
  induction fuel with
  | zero =>
    intro listed a w c γ μ hsz hleft hJ
    have hnil : Region.ready .any ops.toArray listed = [] := by
      rw [List.eq_nil_iff_forall_not_mem]
      intro j hj
      obtain ⟨h0, o, ho, _⟩ := mem_ready.1 hj
      have hjT : j < T.length := by
        have := (Array.getElem?_eq_some_iff.1 ho).1
        simp at this; omega
      have := left_set hjT hsz h0
      omega
    exact ⟨hnil, done listed a w c γ μ hsz hJ hnil⟩
  | succ fuel ih =>
    intro listed a w c γ μ hsz hleft hJ
    refine ⟨done listed a w c γ μ hsz hJ, fun j hj => ?_⟩
    obtain ⟨h0, o, ho, hpre⟩ := mem_ready.1 hj
    have ho' : ops[j]? = some o := by simpa using ho
    obtain ⟨t, ht, rfl⟩ := C.tr ho'
    have hjT : j < T.length := (List.getElem?_eq_some_iff.1 ht).1
    have hnl : ¬ Ls listed j := by
      unfold Ls
      rw [← Ls_getD hjT hsz, h0]; simp
    have := hJ.next C (L' := Ls (listed.setIfInBounds j true)) ht hnl hpre (Ls_set hjT hsz) (K := wpAny P .any ops.toArray Q fuel (listed.setIfInBounds j true)) (Q := Q) (fun a' w' c' γ' μ' hJ' => ih _ a' w' c' γ' μ' (by simpa using hsz) (by have := left_set hjT hsz h0; omega) hJ')
    unfold wpOp
    rw [ho]
    simp only
    split
    · rename_i hw; rw [if_pos hw] at this; exact .inl this
    · rename_i hw; rw [if_neg hw] at this; exact this

theorem xdraw_some {r r' : Regs} {m m' : Mem} {st st' : List Ch} {ob : Obs} (h : xdraw P call N ops r m st = .ok (r', m', st', ob)) (ho : ∀ q ∈ ob, q) :
    ∃ T ob1, xtrace P call N ops ops r m st = .ok (T, r', m', st', ob1) ∧ (∀ q ∈ ob1, q) ∧ (∀ q ∈ crossObs (ancs [] ops) T, q) ∧ slotsOk (ancs [] ops) ops = true ∧ chainOk (ancs [] ops) T = true ∧ freshOk (ancs [] ops) T = true := by
  unfold xdraw at h
  cases hx : xtrace P call N ops ops r m st with
  | no e => rw [hx] at h; simp at h
  | ok q =>
    obtain ⟨T, r1, m1, st1, ob1⟩ := q
    rw [hx] at h
    simp only at h
    cases hb : slotsOk (ancs [] ops) ops && chainOk (ancs [] ops) T && freshOk (ancs [] ops) T with
    | false => rw [hb] at h; simp at h
    | true =>
      rw [hb] at h
      simp at h
      obtain ⟨rfl, rfl, rfl, rfl⟩ := h
      simp only [Bool.and_eq_true] at hb
      exact ⟨T, ob1, rfl, fun q hq => ho q (by simp [hq]), fun q hq => ho q (by simp [hq]), hb.1.1, hb.1.2, hb.2⟩

theorem xdraw_ctx {r r' : Regs} {m m' : Mem} {st st' : List Ch} {ob : Obs} (hcall : CallOk P call) (h : xdraw P call N ops r m st = .ok (r', m', st', ob)) (ho : ∀ q ∈ ob, q) (hH : m'.length ≤ H) :
    ∃ T, Ctx P call N ops T r m m' H ∧ r' = pushAll (fun _ => True) 0 T r := by
  obtain ⟨T, ob1, hx, ho1, hcr, hs, hch, hfr⟩ := xdraw_some h ho
  obtain ⟨hops, hgood⟩ := xtrace_good hx ho1
  obtain ⟨h0, hr', hat⟩ := good_at hgood
  exact ⟨T, ⟨hcall, hops, hat, h0, hs, hch, hfr, hcr, hH⟩, hr'⟩

theorem xdraw_len {r r' : Regs} {m m' : Mem} {st st' : List Ch} {ob : Obs} (hcall : CallOk P call) (h : xdraw P call N ops r m st = .ok (r', m', st', ob)) (ho : ∀ q ∈ ob, q) : m.length ≤ m'.length := by
  obtain ⟨T, C, _⟩ := xdraw_ctx hcall h ho (Nat.le_refl _)
  have := memAt_le C.cok C.hat (j := 0) (k := T.length) (by omega) (Nat.le_refl _)
  rwa [C.start, memAt_end] at this

theorem xdraw_spec {Q : Exit → Act → World → Prop} {id : Nat} {r r' : Regs} {m m' : Mem} {st st' : List Ch} {ob : Obs} (hcall : CallOk P call) (hmix : P.follows .mixedOrders = true) (h : xdraw P call N ops r m st = .ok (r', m', st', ob)) (ho : ∀ q ∈ ob, q)
    (hr : RO γ N r a) (hm : MemOk H γ m w) (hH : m'.length ≤ H) (hk : ∀ γ' a' w', RO γ' N r' a' → MemOk H γ' m' w' → SF γ m w γ' m' w' → Q .normal a' w') : (Code.region id ops.toArray true).wp P Q a w := by
  obtain ⟨T, C, rfl⟩ := xdraw_ctx hcall h ho hH
  have hlen : ops.length = T.length := by rw [← C.hops]; simp
  refine wp_region_any hmix ?_
  obtain ⟨hm1, hsf1⟩ := hm.same (w' := { w with drawn := w.drawn + 1 }) ⟨rfl, rfl, rfl, rfl⟩
  obtain ⟨hmf, hfr⟩ := MF.start hm1
  have hno : ∀ i, ¬ Ls (Array.replicate ops.toArray.size false) i := by
    intro i
    unfold Ls
    by_cases hi : i < ops.length <;> simp [hi]
  refine draw_any C (fun γ' a' w' h1 h2 h3 => hk γ' a' w' h1 h2 (hsf1.trans h3)) _ _ a _ 0 γ _ (by simp [hlen]) ?_ ⟨fun j o _ hl => absurd hl (hno j), fun j t _ h => by omega, fun j t _ _ _ => hno j, by omega, hmf, hfr, ?_, ?_, fun _ _ => rfl, ?_⟩
  · refine Nat.le_trans List.countP_le_length ?_
    simp [hlen]
  · rintro id e (h | ⟨f, t, _, _, _, _, hl, _⟩)
    · rw [C.start] at h; exact onto_some h
    · exact absurd hl (hno f)
  · intro id g hg
    rcases (hm.dom id g hg).1 with hlt | hge
    · exact .inl ⟨_, .inl (by rw [C.start]; exact List.getElem?_eq_getElem hlt)⟩
    · exact .inr hge
  · refine ⟨hr.defers, hr.size, fun x v hx => hr.get x v ?_⟩
    rw [← hx]
    exact (get_pushAll_none (fun i t _ _ => by rw [Nat.zero_add]; exact hno i)).symm
end
end Go.XM

namespace Go.XM
open Go
noncomputable section
variable {P : Program} {H : Nat}

def Ex.toExit : Ex → Exit
  | .normal => .normal
  | .ret => .ret
  | .exit id => .exit id

/-- The rounds of a loop: each ends where the loop goes on, or as the whole is to end. -/
inductive LoopW (P : Program) (c : Code) (Q : Exit → Act → World → Prop) : Act → World → Prop where
  | step {a : Act} {w : World} (R : Act → World → Prop) (hR : ∀ a w, R a w → LoopW P c Q a w) (h : c.wp P (Exit.then R Q) a w) : LoopW P c Q a w

theorem wp_of_loopW {Q : Exit → Act → World → Prop} {a : Act} {w : World} {c : Code} (h : LoopW P c Q a w) : (Code.loop c).wp P Q a w := by
  intro b k cs
  have key : ∀ a w, LoopW P c Q a w → ∃ e a' w', Q e a' w' ∧ Arrives P (lone (b.at a (.code c :: .inLoop c :: k)) cs w) b k cs e a' w' := by
    intro a w h
    induction h with
    | step R hR h ih =>
      obtain ⟨e, a₁, w₁, hq, harr⟩ := h b (.inLoop c :: k) cs
      cases e with
      | normal =>
        obtain ⟨e₂, a₂, w₂, hq₂, harr₂⟩ := ih a₁ w₁ hq
        exact ⟨e₂, a₂, w₂, hq₂, .of_steps (Steps.trans harr (.one step_inLoop)) harr₂⟩
      | exit id => exact ⟨_, a₁, w₁, hq, .pass (x := .inLoop c) rfl (fun _ _ => .inl (by simp)) harr⟩
      | goto l => exact ⟨_, a₁, w₁, hq, .pass (x := .inLoop c) rfl (fun _ _ => .inl (by simp)) harr⟩
      | ret => exact ⟨_, a₁, w₁, hq, .pass (x := .inLoop c) rfl (fun _ _ => .inl (by simp)) harr⟩
      | panic ch => exact ⟨_, a₁, w₁, hq, .pass (x := .inLoop c) rfl (fun _ _ => .inl (by simp)) harr⟩
      | outgrown => exact ⟨_, a₁, w₁, hq, .pass (x := .inLoop c) rfl (fun _ _ => .inl (by simp)) harr⟩
  obtain ⟨e, a', w', hq, harr⟩ := key a w h
  exact ⟨e, a', w', hq, .of_steps (.one step_loop) harr⟩

/-- What a loop comes to, of abstract states. -/
def LoopA (P : Program) (N : Nat) (c : Code) (r : Regs) (m : Mem) (e : Ex) (r' : Regs) (m' : Mem) : Prop :=
  m.length ≤ m'.length ∧ ∀ (H : Nat) (γ : Gm) (a : Act) (w : World) (Q : Exit → Act → World → Prop), m'.length ≤ H → RO γ N r a → MemOk H γ m w →
    (∀ γ' a' w', RO γ' N r' a' → MemOk H γ' m' w' → SF γ m w γ' m' w' → Q e.toExit a' w') → LoopW P c Q a w

/-- a loop's rounds, or the code as it stands. -/
def wpN (P : Program) (c : Code) (Q : Exit → Act → World → Prop) (a : Act) (w : World) : Prop :=
  match c with
  | .loop c => LoopW P c Q a w
  | c => c.wp P Q a w

theorem wp_of_wpN {c : Code} {Q : Exit → Act → World → Prop} {a : Act} {w : World} (h : wpN P c Q a w) : c.wp P Q a w := by
  cases c <;> first | exact h | exact wp_of_loopW h

/-- a result variable's value. -/
def resOf (tmps : Array Value) : ResultVar → Sem Value
  | .tmp t => pure (tmps.getD t undef)
  | .cell p ty => do loadVar ty (← asAddr (tmps.getD p undef))

theorem results_eq (fn : Func) (tmps : Array Value) : results fn tmps = (do
    let vs ← fn.results.mapM (resOf tmps); (pure (if h : vs.size = 1 then vs[0] else .tuple vs) : Sem Value)) := by
  have : (resOf tmps) = (fun x => match x with | ResultVar.tmp t => pure (tmps.getD t undef) | ResultVar.cell p ty => do loadVar ty (← asAddr (tmps.getD p undef))) := by
    funext x; cases x <;> rfl
  rw [this]
  rfl

/-- the results of a frame. -/
theorem xresults_spec {γ : Gm} {N : Nat} {r : Regs} {a : Act} {m : Mem} {w : World} (hr : RO γ N r a) (hm : MemOk H γ m w) : ∀ {l : List ResultVar} {vs : List AV}, xresults P r m l = some vs →
    ∃ Vs : List Value, (l.mapM (resOf a.tmps)).run P w = .ok Vs w ∧ LR γ vs Vs
  | [], vs, h => by simp [xresults] at h; subst h; exact ⟨[], by simp, rfl⟩
  | .tmp t :: l, vs, h => by
    simp only [xresults] at h
    cases h1 : get r t with
    | none => rw [h1] at h; simp at h
    | some v =>
      cases h2 : xresults P r m l with
      | none => rw [h1, h2] at h; simp at h
      | some vs' =>
        rw [h1, h2] at h; simp at h; subst h
        obtain ⟨V, hV, hv⟩ := hr.get t v h1
        obtain ⟨Vs, hVs, hl⟩ := xresults_spec hr hm h2
        have e1 : (resOf a.tmps (.tmp t)).run P w = .ok V w := by simp [resOf, hV]
        exact ⟨V :: Vs, by rw [List.mapM_cons, Sem.run_bind, e1, Result.andThen_ok, Sem.run_bind, hVs]; rfl, ⟨V, Vs, rfl, hv, hl⟩⟩
  | .cell p ty :: l, vs, h => by
    simp only [xresults] at h
    cases h1 : get r p with
    | none => rw [h1] at h; simp at h
    | some v =>
      rw [h1] at h; simp only at h
      split at h
      · rename_i u vs' hx h2
        simp at h; subst h
        obtain ⟨V, hV, hv⟩ := hr.get p v h1
        obtain ⟨x, hx', hxr⟩ := xload_spec hx (by simp) hv hm
        obtain ⟨Vs, hVs, hl⟩ := xresults_spec hr hm h2
        have e1 : (resOf a.tmps (.cell p ty)).run P w = .ok x w := by
          have : ∃ A, V = .pointer (some A) := by
            cases v <;> simp [xload] at hx
            · obtain ⟨g, _, rfl⟩ := hv; exact ⟨_, rfl⟩
            · obtain ⟨g, _, rfl⟩ := hv; exact ⟨_, rfl⟩
          obtain ⟨A, rfl⟩ := this
          have : (Instr.loadAt ty (.pointer (some A))).run P w = (loadVar ty A).run P w := by simp [Instr.loadAt, Instr.sureAddr]
          rw [this] at hx'
          simp [resOf, hV, asAddr, hx']
        exact ⟨x :: Vs, by rw [List.mapM_cons, Sem.run_bind, e1, Result.andThen_ok, Sem.run_bind, hVs]; rfl, ⟨x, Vs, rfl, hxr, hl⟩⟩
      · simp at h

theorem args_ro {γ : Gm} {ntmps : Nat} : ∀ {args : List AV} {Vs : List Value}, LR γ args Vs → Vs.length ≤ ntmps → RO γ ntmps (number 0 args) { tmps := Vs.toArray ++ Array.replicate (ntmps - Vs.toArray.size) undef, defers := [] } := by
  intro args Vs hl hle
  refine ⟨rfl, by simp; omega, ?_⟩
  have gen : ∀ (args : List AV) (k t : Nat) (v : AV), get (number k args) t = some v → k ≤ t ∧ args[t - k]? = some v := by
    intro args
    induction args with
    | nil => intro k t v h; simp [number, get_nil] at h
    | cons x xs ih =>
      intro k t v h
      simp only [number, get_cons] at h
      cases hb : Nat.beq k t with
      | true =>
        rw [hb] at h; simp at h; subst h
        have := Nat.eq_of_beq_eq_true hb
        subst this
        simp
      | false =>
        rw [hb] at h; simp at h
        obtain ⟨h1, h2⟩ := ih (k + 1) t v h
        refine ⟨by omega, ?_⟩
        rw [show t - k = (t - (k + 1)) + 1 by omega]
        simpa using h2
  intro t v h
  obtain ⟨_, h2⟩ := gen args 0 t v h
  obtain ⟨V, h3, h4⟩ := LR.get hl h2
  have hlt : t - 0 < Vs.length := (List.getElem?_eq_some_iff.1 h3).1
  refine ⟨V, ?_, h4⟩
  rw [Array.getElem?_append_left (by simpa using hlt)]
  simpa using h3

end
end Go.XM

